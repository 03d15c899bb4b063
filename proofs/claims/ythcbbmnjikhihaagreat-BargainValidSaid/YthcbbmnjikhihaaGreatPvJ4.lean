import Derived.Test.YthcbbmnjikhihaaGreatPvJ3
set_option linter.unusedSimpArgs false
set_option linter.unusedVariables false
namespace Go.Proofs.YthcbbmnjikhihaaGreat.Am
open Go Go.RowKit Go.Proofs Tryz
open AV renaming agg → Zaq, bad → Zac, d → Zae, fn → Zaw, full → Zfh, gref → Zbj, own → Zgo, ptr → Zai, rptr → Zaf
open AskT renaming pe → Zge, sl → Zcs
open BIf renaming f → Zdd, of → Zbe, t → Zba
open Bool renaming and_eq_true → Zaj, and_false → Zcu, and_true → Zgd, false_and → Zco, false_eq_true → Zds, not_eq_false' → Zek, not_eq_true' → Zcq, not_not → Zfp, or_eq_true → Zeq, or_true → Zej, true_and → Zea, true_or → Zet
open AAb9 renaming cons → Zah, nil → Zak
open Go.Code renaming loop → Zay
open Dv renaming fn → Zcv, pt → Zdr, s → Zde, sl → Zan
open Go.Exit renaming exit → Zbs
open FCall renaming ofFnF → Zgt
open GraT renaming pe → Zft, sl → Zdc, st → Zgn, un → Zdw
open Int renaming toNat → Zao, toNat_natCast → Zcn, toNat_zero → Zfk
open Go.IntKind renaming i64 → Zbb, wrap → Zad
open LayT renaming da → Zcw, no → Zeg
open LeH renaming refl → Zca
open List renaming all → Zbm, any → Zdl, append_assoc → Zbr, append_nil → Zdu, cons_append → Zgs, drop → Zce, drop_zero → Zfm, filter → Zcl, findIdx?_cons → Zfb, getElem?_eq_getElem → Zaz, getElem?_eq_some_iff → Zab, isEmpty → Zfu, length → Zaa, length_append → Zcm, length_cons → Zfl, length_filter_le → Zei, length_map → Zgh, length_take → Zcf, map_cons → Zeb, mem_append_right → Zed, mem_cons_self → Zcb, mem_map → Zbh, replicate → Zap, take → Zbu, take_add_one → Zel, take_append_of_le_length → Zey, take_length → Zdh, take_zero → Zgi
open Nat renaming add_mul → Zcz, le_refl → Zav
open NearT renaming ak → Zbw, fm → Zdq, fr → Zgp, gs → Zbk, us → Zbl
open Option renaming map_eq_some_iff → Zam
open PCall renaming ofFn → Zbg, ofFnL → Zfx, ofFnW → Zdf
open SCall renaming ofW → Zgk
open AAm9 renaming cons → Zby, nil → Zag
open SideT renaming fr → Zgr, lay → Zcr, me → Zgq, ns → Zat
open TabT renaming ak → Zbq, gs → Zbo, us → Zbn
open UseT renaming sl → Zcy
open Go.Value renaming int → Zfa, pointer → Zch, slice → Zda
open WR renaming ofMask → Zdn
variable {β:Type} (wl:WLT β) (y:ACw9 β) (b:β) (R:AV→β→Prop) (Kr:AV→List Blk→β→Prop) (K:Exit→List AV→List Blk→β→Prop) (Q:β→Prop)
open AV (bad)
set_option linter.unusedVariables false
set_option maxRecDepth 20000
set_option maxHeartbeats 1000000
def AJq9 {α:Type} (p:α→Bool) (x:α):List α:=if p x=true then [x] else []
theorem AJy9 {α:Type} (p:α→Bool) (x:α):(AJq9 p x).length≤1:=by rw [AJq9];split<;>simp
theorem AOi9 {α:Type} {p:α→Bool} {x:α} (h:p x=true):AJq9 p x= [x]:=by rw [AJq9,if_pos h]
theorem AOj9 {α:Type} {p:α→Bool} {x:α} (h:p x=false):AJq9 p x= []:=by rw [AJq9,if_neg (by simp [h])]
theorem AEi9 {α:Type} (p:α→Bool) (l:List α):l.flatMap (AJq9 p)=l.filter p:=by
 induction l with
 |nil=>rfl
 |cons x r ih=>rw [List.flatMap_cons,ih,List.filter_cons,AJq9];split<;>simp
def TIs:List (Nat×(List AV→(AV→Prop)→Prop)):= [(81,BGd9),(36,cIn)]
theorem CCz9:AAb9 prog TIs:=Zah ARy9 (Zah BGe9 Zak)
def useIs (x:UseT) (l:LayT):Bool:=ABs9 x.sl x.of x.pe l&&inN x.st 1000000000
def graIs (x:GraT) (l:LayT):Bool:=ABs9 x.sl x.of x.pe l&&(decide (x.st≥0)&&(inN x.st x.un&&decide (x.un≤1000000000)))
theorem BTm9 (x:UseT) (ly:LayT):wpFn prog ⟨TIs, [],wl,y,false⟩ 100 f76 [layA ly,useA x] b R=(∃(sl0:Int) (of1:Int) (pe2:Int) (l3:LayT) (z4:Bool), [Zaq (Qz3 ly),Zaq (Qz69 x),Zae (i64 (UseT.pe x))]= [Zaq (Qz3 l3),Zaq [Zae (i64 sl0),Zae (i64 of1)],Zae (i64 pe2)]∧z4=ABs9 sl0 of1 pe2 l3∧BIf z4 (∃(n5:Int) (h6:Int) (z7:Bool), [Zae (i64 (UseT.st x)),Zae (i64 1000000000)]= [Zae (i64 n5),Zae (i64 h6)]∧z7=inN n5 h6∧R (.d (bo z7)) b) (R (.d (bo false)) b)):=by kernel_rfl
theorem BTn9 (x:GraT) (ly:LayT):wpFn prog ⟨TIs, [],wl,y,false⟩ 100 f79 [layA ly,graA x] b R=(∃(sl0:Int) (of1:Int) (pe2:Int) (l3:LayT) (z4:Bool), [Zaq (Qz3 ly),Zaq (Qz70 x),Zae (i64 (Zft x))]= [Zaq (Qz3 l3),Zaq [Zae (i64 sl0),Zae (i64 of1)],Zae (i64 pe2)]∧z4=ABs9 sl0 of1 pe2 l3∧BIf z4 (BIf (decide (Zgn x≥(0:Int))) (∃(n5:Int) (h6:Int) (z7:Bool), [Zae (i64 (Zgn x)),Zae (i64 (Zdw x))]= [Zae (i64 n5),Zae (i64 h6)]∧z7=inN n5 h6∧BIf z7 (R (.d (bo (decide (Zdw x≤(1000000000:Int))))) b) (R (.d (bo false)) b)) (R (.d (bo false)) b)) (R (.d (bo false)) b)):=by kernel_rfl
theorem BZy9 (x:UseT) (ly:LayT):PCall prog 76 [layA ly,useA x] (.d (bo (useIs x ly))):=by
 refine Zbg (n:=100) (u:=false) mixed CCz9 Zag func76 (by rfl) (by rfl) fun Ev bb=> ?_;rw [BTm9];refine ⟨_,_,_,ly,_,rfl,rfl,Zbe (fun h=>⟨_,_,_,rfl,rfl, ?_⟩) fun h=> ?_⟩
 ·simp only [useIs,h,Zea]
 ·simp only [useIs,h,Zco]
def CBz9 (args:List AV) (K:AV→Prop):Prop:=∃(x:UseT) (ly:LayT) (q:Bool),args= [layA ly,useA x]∧q=useIs x ly∧K (.d (bo q))
theorem BMk9:∀args K,CBz9 args K→∃x,PCall prog 76 args x∧K x:=by
 rintro _ K ⟨x,ly,_,rfl,rfl,hk⟩;exact ⟨_,BZy9 x ly,hk⟩
theorem BZz9 (x:GraT) (ly:LayT):PCall prog 79 [layA ly,graA x] (.d (bo (graIs x ly))):=by
 refine Zbg (n:=100) (u:=false) mixed CCz9 Zag func79 (by rfl) (by rfl) fun Ev bb=> ?_;rw [BTn9];refine ⟨_,_,_,ly,_,rfl,rfl, ?_⟩;repeat' (first|refine ⟨_,_,_,rfl,rfl, ?_⟩|refine Zbe (fun _=> ?_) fun _=> ?_)
 all_goals (rw [graIs];simp only [*,Zea,Zco])
def CCa9 (args:List AV) (K:AV→Prop):Prop:=∃(x:GraT) (ly:LayT) (q:Bool),args= [layA ly,graA x]∧q=graIs x ly∧K (.d (bo q))
theorem BMl9:∀args K,CCa9 args K→∃x,PCall prog 79 args x∧K x:=by
 rintro _ K ⟨x,ly,_,rfl,rfl,hk⟩;exact ⟨_,BZz9 x ly,hk⟩
def TIu:List (Nat×(List AV→(AV→Prop)→Prop)):= [(76,CBz9)]
theorem CFr9:AAb9 prog TIu:=Zah BMk9 Zak
def TIg:List (Nat×(List AV→(AV→Prop)→Prop)):= [(79,CCa9)]
theorem CFt9:AAb9 prog TIg:=Zah BMl9 Zak
def TIa:List (Nat×(List AV→(AV→Prop)→Prop)):= [(81,BGd9)]
theorem CFu9:AAb9 prog TIa:=Zah ARy9 Zak
theorem BLq9 (x:UseT) (ly:LayT):wpFn prog ⟨TIu, [],wl,y,false⟩ 100 f75 ([useA x]++ [.rptr [i64 ly.no,i64 ly.da]]) b R=(∃(x0:UseT) (ly1:LayT) (q2:Bool), [Zaq (Qz3 ly),Zaq (Qz7 x)]= [Zaq (Qz3 ly1),Zaq (Qz7 x0)]∧q2=useIs x0 ly1∧R (.d (bo q2)) b):=by kernel_rfl
theorem BSn9 (x:UseT) (ly:LayT):PCall prog 75 ([useA x]++ [.rptr [i64 ly.no,i64 ly.da]]) (.d (bo ((fun x:UseT=>useIs x ly) x))):=by
 refine Zbg (n:=100) (u:=false) mixed CFr9 Zag func75 (by rfl) (by rfl) fun Ev bb=> ?_;rw [BLq9];exact ⟨x,ly,_,rfl,rfl,rfl⟩
def BPd9 (args:List AV) (K:AV→Prop):Prop:=∃(x:UseT) (ly:LayT) (q:Bool),args= [useA x]++ [.rptr [i64 ly.no,i64 ly.da]]∧q=(fun x:UseT=>useIs x ly) x∧K (.d (bo q))
theorem BHe9:∀args K,BPd9 args K→∃x,PCall prog 75 args x∧K x:=by
 rintro _ K ⟨x,ly,_,rfl,rfl,hk⟩;exact ⟨_,BSn9 x ly,hk⟩
def BWd9:List (Nat×(List AV→(AV→Prop)→Prop)):= [(75,BPd9)]
theorem BMz9:AAb9 prog BWd9:=Zah BHe9 Zak
noncomputable def AQy9:Code:=sub [1,1,0,1,2,3] (code f74)
def AKo9 (l:List UseT) (ly:LayT) (acc:AV) (n i:Int):List AV:= [.bad, .fn (.func 75) [] [.rptr [i64 ly.no,i64 ly.da]], .bad, .bad, .bad,acc, .bad, .bad, .d (.sl 4 (rowsU l)), .d (i64 n), .d (i64 i)]++Zap 12 .bad
abbrev Qz12 (v0:LayT):List AV:= [Zaf [i64 (Zeg v0),i64 (Zcw v0)]]
theorem BZa9 (l:List UseT) (ly:LayT) (xs:List (List Dv)) (n i:Int):wpc prog ⟨BWd9, [],wl,y,false⟩ 100 AQy9 (AKo9 l ly (.own 61 4 xs) n i) [] b (maskK 0 [1,5,8,9,10] K)=(BIf (decide (i<n)) (BIf (true&&decide (0≤i)) (∃(x0:Int) (x1:Int) (x2:Int) (x3:Int),(rowsU l)[Zao i]? =some [i64 x0,i64 x1,i64 x2,i64 x3]∧∃(x6:UseT) (ly7:LayT) (q8:Bool), [Zaq (Qz37 x0 x1 x2 x3),Zaf [i64 (Zeg ly),i64 (Zcw ly)]]= [Zaq (Qz7 x6),Zaf [i64 (Zeg ly7),i64 (Zcw ly7)]]∧q8=useIs x6 ly7∧BIf q8 (BIf (true&&decide ((Zaa xs+1)*32≤140737488355328)) (K .normal (Zac::Zaw (Fn.func 75) [] (Qz12 ly)::bds 3 (Zgo 61 4 (xs++ [[i64 x0,i64 x1,i64 x2,i64 x3]])::Zac::Zac::Zae (Zan 4 (rowsU l))::Zae (i64 n)::Zae (i64 (Zad .i64 (i+1)))::bds 12 [])) [] b) False) (K .normal (Zac::Zaw (Fn.func 75) [] (Qz12 ly)::bds 3 (Zgo 61 4 xs::Zac::Zac::Zae (Zan 4 (rowsU l))::Zae (i64 n)::Zae (i64 (Zad .i64 (i+1)))::bds 12 [])) [] b)) False) (K (Zbs 0) (Zac::Zaw (Fn.func 75) [] (Qz12 ly)::bds 3 (Zgo 61 4 xs::Zac::Zac::Zae (Zan 4 (rowsU l))::Zae (i64 n)::Zae (i64 i)::bds 12 [])) [] b)):=by kernel_rfl
theorem BWw9 {Ev:Env prog} {b:Ev.β} {Q:Exit→St Ev.β→Prop} (l:List UseT) (ly:LayT) (hl:l.length<1000000) (hQ:∀i:Int,Q (.exit 0) ⟨AKo9 l ly (.own 61 4 (rowsU (l.filter (fun x:UseT=>useIs x ly)))) l.length i, [],b⟩):
 WR Ev AQy9 (l.length+1) ⟨AKo9 l ly (.own 61 4 (rowsU [])) l.length (0:Nat), [],b⟩ Q:=by
 refine WR.gathL (X:=⟨BWd9, [],wlW Ev,Ev.Y,false⟩) (k:=100) [1,5,8,9,10] mixed (CX.Ok.of BMz9 Zag) l (AJq9 (fun x:UseT=>useIs x ly)) (AJy9 _) (fun acc i=>AKo9 l ly (.own 61 4 (rowsU acc)) l.length (i:Nat)) [] 0 (fun i x acc hi hx ha K k1=> ?_) (fun acc K k1=> ?_) ?_
 ·refine Eq.mpr (BZa9 _ _ _ K l ly _ l.length i) ?_;rw [ACj9 hx];refine Zba (by simp;omega) (Zba (natI i) ⟨_,_,_,_,rfl,x,ly,_,rfl,rfl,Zbe (fun g=>Zba (by simp [AAj9];omega) ?_) fun g=> ?_⟩)
  ·rw [AOi9 (p:=(fun x:UseT=>useIs x ly)) (x:=x) g,AVj9] at k1;rw [wrapN (by omega)];exact k1
  ·rw [AOj9 (p:=(fun x:UseT=>useIs x ly)) (x:=x) g,Zdu] at k1;rw [wrapN (by omega)];exact k1
 ·refine Eq.mpr (BZa9 _ _ _ K l ly _ l.length _) ?_;exact Zdd (by simp) k1
 ·rw [AEi9];exact hQ _
def BAz9 {β:Type}:WLT β:=fun cd tm hp b K=>∃(l:List UseT) (ly:LayT),cd= .loop AQy9∧ABc9 [1,5,8,9,10] 0 tm=AKo9 l ly nilA (rowsU l).length 0∧hp= []∧l.length<1000000∧
 ∀(i:Int) (r:List UseT),r=l.filter (fun x:UseT=>useIs x ly)→K (.exit 0) (AKo9 l ly (.own 61 4 (rowsU r)) l.length i) [] b
theorem BAy9 {Ev:Env prog} (c:Code) (tm:List AV) (hp:List Blk) (b:Ev.β) (K:Exit→List AV→List Blk→Ev.β→Prop) (h:BAz9 c tm hp b K):W Ev c ⟨tm,hp,b⟩ (fun e s=>K e s.tm s.hp s.b):=by
 obtain ⟨l,ly,rfl,htm,rfl,hl,hK⟩:=h;rw [AAj9] at htm;refine W.cast (htm▸AAd9 _ tm 0) (Zca _) ?_;refine W.cast (tm':=AKo9 l ly (.own 61 4 (rowsU [])) l.length 0) (LeL.at [_,_,_,_,_] _ (LeA.nilOwn rfl)) (Zca _) ?_;exact W.rounds (BWw9 (Q:=fun e s=>K e s.tm s.hp s.b) l ly hl fun i=>hK i _ rfl)
theorem AYj9 (l:List UseT) (ly:LayT):wpFn prog ⟨[], [],BAz9,y,false⟩ 100 f74 [.d (.sl 4 (rowsU l)), .fn (.func 75) [] [.rptr [i64 ly.no,i64 ly.da]]] b R=(∃(l0:List UseT) (ly1:LayT),Zay AQy9=Zay AQy9∧(Zac::Zaw (Fn.func 75) [] (Qz12 ly)::bds 3 (Zae (Zde (.slice none 0 0))::Zac::Zac::Zae (Zan 4 (rowsU l))::Zae (i64 ((Zaa (rowsU l):Nat):Int))::Zae (i64 0)::bds 12 []))=(Zac::Zaw (Fn.func 75) [] (Qz12 ly1)::bds 3 (Zae (Zde (.slice none 0 0))::Zac::Zac::Zae (Zan 4 (rowsU l0))::Zae (i64 ((Zaa (rowsU l0):Nat):Int))::Zae (i64 0)::bds 12 []))∧([]:List Blk)= []∧Zaa l0<1000000∧∀(i:Int) (r:List UseT),r=Zcl (fun (x2:UseT)=>useIs x2 ly1) l0→R (.d (Zan 4 (rowsU r))) b):=by kernel_rfl
theorem BCz9 (l:List UseT) (ly:LayT) (hl:l.length<1000000):PCall prog 74 [.d (.sl 4 (rowsU l)), .fn (.func 75) [] [.rptr [i64 ly.no,i64 ly.da]]] (.d (.sl 4 (rowsU (l.filter (fun x:UseT=>useIs x ly))))):=by
 refine Zfx (n:=100) (u:=false) (fun _=>BAz9) mixed Zak Zag (fun Ev=>BAy9) func74 (by rfl) (by rfl) fun Ev bb=> ?_;rw [AYj9];exact ⟨l,ly,rfl,rfl,rfl,hl,fun i r hr=>hr▸ .base LeA.rfl⟩
def AWi9 (args:List AV) (K:AV→Prop):Prop:=∃(l:List UseT) (ly:LayT) (q:List UseT),args= [.d (.sl 4 (rowsU l)), .fn (.func 75) [] [.rptr [i64 ly.no,i64 ly.da]]]∧(l.length<1000000∧q=l.filter (fun x:UseT=>useIs x ly))∧K (.d (.sl 4 (rowsU q)))
theorem ATz9:∀args K,AWi9 args K→∃x,PCall prog 74 args x∧K x:=by
 rintro _ K ⟨l,ly,_,rfl,⟨hl,rfl⟩,hk⟩;exact ⟨_,BCz9 l ly hl,hk⟩
theorem BLr9 (x:GraT) (ly:LayT):wpFn prog ⟨TIg, [],wl,y,false⟩ 100 f78 ([graA x]++ [.rptr [i64 ly.no,i64 ly.da]]) b R=(∃(x0:GraT) (ly1:LayT) (q2:Bool), [Zaq (Qz3 ly),Zaq (Qz5 x)]= [Zaq (Qz3 ly1),Zaq (Qz5 x0)]∧q2=graIs x0 ly1∧R (.d (bo q2)) b):=by kernel_rfl
theorem BSo9 (x:GraT) (ly:LayT):PCall prog 78 ([graA x]++ [.rptr [i64 ly.no,i64 ly.da]]) (.d (bo ((fun x:GraT=>graIs x ly) x))):=by
 refine Zbg (n:=100) (u:=false) mixed CFt9 Zag func78 (by rfl) (by rfl) fun Ev bb=> ?_;rw [BLr9];exact ⟨x,ly,_,rfl,rfl,rfl⟩
def BPe9 (args:List AV) (K:AV→Prop):Prop:=∃(x:GraT) (ly:LayT) (q:Bool),args= [graA x]++ [.rptr [i64 ly.no,i64 ly.da]]∧q=(fun x:GraT=>graIs x ly) x∧K (.d (bo q))
theorem BHf9:∀args K,BPe9 args K→∃x,PCall prog 78 args x∧K x:=by
 rintro _ K ⟨x,ly,_,rfl,rfl,hk⟩;exact ⟨_,BSo9 x ly,hk⟩
def BWe9:List (Nat×(List AV→(AV→Prop)→Prop)):= [(78,BPe9)]
theorem BNa9:AAb9 prog BWe9:=Zah BHf9 Zak
noncomputable def AQz9:Code:=sub [1,1,0,1,2,3] (code f77)
def AKp9 (l:List GraT) (ly:LayT) (acc:AV) (n i:Int):List AV:= [.bad, .fn (.func 78) [] [.rptr [i64 ly.no,i64 ly.da]], .bad, .bad, .bad,acc, .bad, .bad, .d (.sl 5 (rowsG l)), .d (i64 n), .d (i64 i)]++Zap 12 .bad
theorem BZb9 (l:List GraT) (ly:LayT) (xs:List (List Dv)) (n i:Int):wpc prog ⟨BWe9, [],wl,y,false⟩ 100 AQz9 (AKp9 l ly (.own 59 5 xs) n i) [] b (maskK 0 [1,5,8,9,10] K)=(BIf (decide (i<n)) (BIf (true&&decide (0≤i)) (∃(x0:Int) (x1:Int) (x2:Int) (x3:Int) (x4:Int),(rowsG l)[Zao i]? =some (Qz40 x0 x1 x2 x3 x4)∧∃(x7:GraT) (ly8:LayT) (q9:Bool), [Zaq (Qz22 x0 x1 x2 x3 x4),Zaf [i64 (Zeg ly),i64 (Zcw ly)]]= [Zaq (Qz5 x7),Zaf [i64 (Zeg ly8),i64 (Zcw ly8)]]∧q9=graIs x7 ly8∧BIf q9 (BIf (true&&decide ((Zaa xs+1)*40≤140737488355328)) (K .normal (Zac::Zaw (Fn.func 78) [] (Qz12 ly)::bds 3 (Zgo 59 5 (xs++ [Qz40 x0 x1 x2 x3 x4])::Zac::Zac::Zae (Zan 5 (rowsG l))::Zae (i64 n)::Zae (i64 (Zad .i64 (i+1)))::bds 12 [])) [] b) False) (K .normal (Zac::Zaw (Fn.func 78) [] (Qz12 ly)::bds 3 (Zgo 59 5 xs::Zac::Zac::Zae (Zan 5 (rowsG l))::Zae (i64 n)::Zae (i64 (Zad .i64 (i+1)))::bds 12 [])) [] b)) False) (K (Zbs 0) (Zac::Zaw (Fn.func 78) [] (Qz12 ly)::bds 3 (Zgo 59 5 xs::Zac::Zac::Zae (Zan 5 (rowsG l))::Zae (i64 n)::Zae (i64 i)::bds 12 [])) [] b)):=by kernel_rfl
theorem BWx9 {Ev:Env prog} {b:Ev.β} {Q:Exit→St Ev.β→Prop} (l:List GraT) (ly:LayT) (hl:l.length<1000000) (hQ:∀i:Int,Q (.exit 0) ⟨AKp9 l ly (.own 59 5 (rowsG (l.filter (fun x:GraT=>graIs x ly)))) l.length i, [],b⟩):
 WR Ev AQz9 (l.length+1) ⟨AKp9 l ly (.own 59 5 (rowsG [])) l.length (0:Nat), [],b⟩ Q:=by
 refine WR.gathL (X:=⟨BWe9, [],wlW Ev,Ev.Y,false⟩) (k:=100) [1,5,8,9,10] mixed (CX.Ok.of BNa9 Zag) l (AJq9 (fun x:GraT=>graIs x ly)) (AJy9 _) (fun acc i=>AKp9 l ly (.own 59 5 (rowsG acc)) l.length (i:Nat)) [] 0 (fun i x acc hi hx ha K k1=> ?_) (fun acc K k1=> ?_) ?_
 ·refine Eq.mpr (BZb9 _ _ _ K l ly _ l.length i) ?_;rw [ABw9 hx];refine Zba (by simp;omega) (Zba (natI i) ⟨_,_,_,_,_,rfl,x,ly,_,rfl,rfl,Zbe (fun g=>Zba (by simp [AAg9];omega) ?_) fun g=> ?_⟩)
  ·rw [AOi9 (p:=(fun x:GraT=>graIs x ly)) (x:=x) g,AOf9] at k1;rw [wrapN (by omega)];exact k1
  ·rw [AOj9 (p:=(fun x:GraT=>graIs x ly)) (x:=x) g,Zdu] at k1;rw [wrapN (by omega)];exact k1
 ·refine Eq.mpr (BZb9 _ _ _ K l ly _ l.length _) ?_;exact Zdd (by simp) k1
 ·rw [AEi9];exact hQ _
def BBb9 {β:Type}:WLT β:=fun cd tm hp b K=>∃(l:List GraT) (ly:LayT),cd= .loop AQz9∧ABc9 [1,5,8,9,10] 0 tm=AKp9 l ly nilA (rowsG l).length 0∧hp= []∧l.length<1000000∧
 ∀(i:Int) (r:List GraT),r=l.filter (fun x:GraT=>graIs x ly)→K (.exit 0) (AKp9 l ly (.own 59 5 (rowsG r)) l.length i) [] b
theorem BBa9 {Ev:Env prog} (c:Code) (tm:List AV) (hp:List Blk) (b:Ev.β) (K:Exit→List AV→List Blk→Ev.β→Prop) (h:BBb9 c tm hp b K):W Ev c ⟨tm,hp,b⟩ (fun e s=>K e s.tm s.hp s.b):=by
 obtain ⟨l,ly,rfl,htm,rfl,hl,hK⟩:=h;rw [AAg9] at htm;refine W.cast (htm▸AAd9 _ tm 0) (Zca _) ?_;refine W.cast (tm':=AKp9 l ly (.own 59 5 (rowsG [])) l.length 0) (LeL.at [_,_,_,_,_] _ (LeA.nilOwn rfl)) (Zca _) ?_;exact W.rounds (BWx9 (Q:=fun e s=>K e s.tm s.hp s.b) l ly hl fun i=>hK i _ rfl)
theorem AYk9 (l:List GraT) (ly:LayT):wpFn prog ⟨[], [],BBb9,y,false⟩ 100 f77 [.d (.sl 5 (rowsG l)), .fn (.func 78) [] [.rptr [i64 ly.no,i64 ly.da]]] b R=(∃(l0:List GraT) (ly1:LayT),Zay AQz9=Zay AQz9∧(Zac::Zaw (Fn.func 78) [] (Qz12 ly)::bds 3 (Zae (Zde (.slice none 0 0))::Zac::Zac::Zae (Zan 5 (rowsG l))::Zae (i64 ((Zaa (rowsG l):Nat):Int))::Zae (i64 0)::bds 12 []))=(Zac::Zaw (Fn.func 78) [] (Qz12 ly1)::bds 3 (Zae (Zde (.slice none 0 0))::Zac::Zac::Zae (Zan 5 (rowsG l0))::Zae (i64 ((Zaa (rowsG l0):Nat):Int))::Zae (i64 0)::bds 12 []))∧([]:List Blk)= []∧Zaa l0<1000000∧∀(i:Int) (r:List GraT),r=Zcl (fun (x2:GraT)=>graIs x2 ly1) l0→R (.d (Zan 5 (rowsG r))) b):=by kernel_rfl
theorem BDa9 (l:List GraT) (ly:LayT) (hl:l.length<1000000):PCall prog 77 [.d (.sl 5 (rowsG l)), .fn (.func 78) [] [.rptr [i64 ly.no,i64 ly.da]]] (.d (.sl 5 (rowsG (l.filter (fun x:GraT=>graIs x ly))))):=by
 refine Zfx (n:=100) (u:=false) (fun _=>BBb9) mixed Zak Zag (fun Ev=>BBa9) func77 (by rfl) (by rfl) fun Ev bb=> ?_;rw [AYk9];exact ⟨l,ly,rfl,rfl,rfl,hl,fun i r hr=>hr▸ .base LeA.rfl⟩
def AWj9 (args:List AV) (K:AV→Prop):Prop:=∃(l:List GraT) (ly:LayT) (q:List GraT),args= [.d (.sl 5 (rowsG l)), .fn (.func 78) [] [.rptr [i64 ly.no,i64 ly.da]]]∧(l.length<1000000∧q=l.filter (fun x:GraT=>graIs x ly))∧K (.d (.sl 5 (rowsG q)))
theorem AUa9:∀args K,AWj9 args K→∃x,PCall prog 77 args x∧K x:=by
 rintro _ K ⟨l,ly,_,rfl,⟨hl,rfl⟩,hk⟩;exact ⟨_,BDa9 l ly hl,hk⟩
theorem BLs9 (x:AskT) (ly:LayT):wpFn prog ⟨TIa, [],wl,y,false⟩ 100 f80 ([askA x]++ [.rptr [i64 ly.no,i64 ly.da]]) b R=(∃(sl0:Int) (of1:Int) (pe2:Int) (l3:LayT) (z4:Bool), [Zaq (Qz3 ly),Zaq [Zae (i64 (Zcs x)),Zae (i64 (AskT.of x))],Zae (i64 (Zge x))]= [Zaq (Qz3 l3),Zaq [Zae (i64 sl0),Zae (i64 of1)],Zae (i64 pe2)]∧z4=ABs9 sl0 of1 pe2 l3∧R (.d (bo z4)) b):=by kernel_rfl
theorem BSp9 (x:AskT) (ly:LayT):PCall prog 80 ([askA x]++ [.rptr [i64 ly.no,i64 ly.da]]) (.d (bo ((fun x:AskT=>ABs9 x.sl x.of x.pe ly) x))):=by
 refine Zbg (n:=100) (u:=false) mixed CFu9 Zag func80 (by rfl) (by rfl) fun Ev bb=> ?_;rw [BLs9];exact ⟨_,_,_,ly,_,rfl,rfl,rfl⟩
def BPf9 (args:List AV) (K:AV→Prop):Prop:=∃(x:AskT) (ly:LayT) (q:Bool),args= [askA x]++ [.rptr [i64 ly.no,i64 ly.da]]∧q=(fun x:AskT=>ABs9 x.sl x.of x.pe ly) x∧K (.d (bo q))
theorem BHg9:∀args K,BPf9 args K→∃x,PCall prog 80 args x∧K x:=by
 rintro _ K ⟨x,ly,_,rfl,rfl,hk⟩;exact ⟨_,BSp9 x ly,hk⟩
def BWf9:List (Nat×(List AV→(AV→Prop)→Prop)):= [(80,BPf9)]
theorem BNb9:AAb9 prog BWf9:=Zah BHg9 Zak
noncomputable def ARa9:Code:=sub [1,1,0,1,2,3] (code f40)
def AKq9 (l:List AskT) (ly:LayT) (acc:AV) (n i:Int):List AV:= [.bad, .fn (.func 80) [] [.rptr [i64 ly.no,i64 ly.da]], .bad, .bad, .bad,acc, .bad, .bad, .d (.sl 3 (rowsA l)), .d (i64 n), .d (i64 i)]++Zap 12 .bad
theorem BZc9 (l:List AskT) (ly:LayT) (xs:List (List Dv)) (n i:Int):wpc prog ⟨BWf9, [],wl,y,false⟩ 100 ARa9 (AKq9 l ly (.own 63 3 xs) n i) [] b (maskK 0 [1,5,8,9,10] K)=(BIf (decide (i<n)) (BIf (true&&decide (0≤i)) (∃(x0:Int) (x1:Int) (x2:Int),(rowsA l)[Zao i]? =some [i64 x0,i64 x1,i64 x2]∧∃(x5:AskT) (ly6:LayT) (q7:Bool), [Zaq (Qz26 x0 x1 x2),Zaf [i64 (Zeg ly),i64 (Zcw ly)]]= [Zaq (Qz11 x5),Zaf [i64 (Zeg ly6),i64 (Zcw ly6)]]∧q7=ABs9 (Zcs x5) (AskT.of x5) (Zge x5) ly6∧BIf q7 (BIf (true&&decide ((Zaa xs+1)*24≤140737488355328)) (K .normal (Zac::Zaw (Fn.func 80) [] (Qz12 ly)::bds 3 (Zgo 63 3 (xs++ [[i64 x0,i64 x1,i64 x2]])::Zac::Zac::Zae (Zan 3 (rowsA l))::Zae (i64 n)::Zae (i64 (Zad .i64 (i+1)))::bds 12 [])) [] b) False) (K .normal (Zac::Zaw (Fn.func 80) [] (Qz12 ly)::bds 3 (Zgo 63 3 xs::Zac::Zac::Zae (Zan 3 (rowsA l))::Zae (i64 n)::Zae (i64 (Zad .i64 (i+1)))::bds 12 [])) [] b)) False) (K (Zbs 0) (Zac::Zaw (Fn.func 80) [] (Qz12 ly)::bds 3 (Zgo 63 3 xs::Zac::Zac::Zae (Zan 3 (rowsA l))::Zae (i64 n)::Zae (i64 i)::bds 12 [])) [] b)):=by kernel_rfl
theorem BWy9 {Ev:Env prog} {b:Ev.β} {Q:Exit→St Ev.β→Prop} (l:List AskT) (ly:LayT) (hl:l.length<1000000) (hQ:∀i:Int,Q (.exit 0) ⟨AKq9 l ly (.own 63 3 (rowsA (l.filter (fun x:AskT=>ABs9 x.sl x.of x.pe ly)))) l.length i, [],b⟩):
 WR Ev ARa9 (l.length+1) ⟨AKq9 l ly (.own 63 3 (rowsA [])) l.length (0:Nat), [],b⟩ Q:=by
 refine WR.gathL (X:=⟨BWf9, [],wlW Ev,Ev.Y,false⟩) (k:=100) [1,5,8,9,10] mixed (CX.Ok.of BNb9 Zag) l (AJq9 (fun x:AskT=>ABs9 x.sl x.of x.pe ly)) (AJy9 _) (fun acc i=>AKq9 l ly (.own 63 3 (rowsA acc)) l.length (i:Nat)) [] 0 (fun i x acc hi hx ha K k1=> ?_) (fun acc K k1=> ?_) ?_
 ·refine Eq.mpr (BZc9 _ _ _ K l ly _ l.length i) ?_;rw [ABq9 hx];refine Zba (by simp;omega) (Zba (natI i) ⟨_,_,_,rfl,x,ly,_,rfl,rfl,Zbe (fun g=>Zba (by simp [AAo9];omega) ?_) fun g=> ?_⟩)
  ·rw [AOi9 (p:=(fun x:AskT=>ABs9 x.sl x.of x.pe ly)) (x:=x) g,AVk9] at k1;rw [wrapN (by omega)];exact k1
  ·rw [AOj9 (p:=(fun x:AskT=>ABs9 x.sl x.of x.pe ly)) (x:=x) g,Zdu] at k1;rw [wrapN (by omega)];exact k1
 ·refine Eq.mpr (BZc9 _ _ _ K l ly _ l.length _) ?_;exact Zdd (by simp) k1
 ·rw [AEi9];exact hQ _
def BBd9 {β:Type}:WLT β:=fun cd tm hp b K=>∃(l:List AskT) (ly:LayT),cd= .loop ARa9∧ABc9 [1,5,8,9,10] 0 tm=AKq9 l ly nilA (rowsA l).length 0∧hp= []∧l.length<1000000∧
 ∀(i:Int) (r:List AskT),r=l.filter (fun x:AskT=>ABs9 x.sl x.of x.pe ly)→K (.exit 0) (AKq9 l ly (.own 63 3 (rowsA r)) l.length i) [] b
theorem BBc9 {Ev:Env prog} (c:Code) (tm:List AV) (hp:List Blk) (b:Ev.β) (K:Exit→List AV→List Blk→Ev.β→Prop) (h:BBd9 c tm hp b K):W Ev c ⟨tm,hp,b⟩ (fun e s=>K e s.tm s.hp s.b):=by
 obtain ⟨l,ly,rfl,htm,rfl,hl,hK⟩:=h;rw [AAo9] at htm;refine W.cast (htm▸AAd9 _ tm 0) (Zca _) ?_;refine W.cast (tm':=AKq9 l ly (.own 63 3 (rowsA [])) l.length 0) (LeL.at [_,_,_,_,_] _ (LeA.nilOwn rfl)) (Zca _) ?_;exact W.rounds (BWy9 (Q:=fun e s=>K e s.tm s.hp s.b) l ly hl fun i=>hK i _ rfl)
theorem AYl9 (l:List AskT) (ly:LayT):wpFn prog ⟨[], [],BBd9,y,false⟩ 100 f40 [.d (.sl 3 (rowsA l)), .fn (.func 80) [] [.rptr [i64 ly.no,i64 ly.da]]] b R=(∃(l0:List AskT) (ly1:LayT),Zay ARa9=Zay ARa9∧(Zac::Zaw (Fn.func 80) [] (Qz12 ly)::bds 3 (Zae (Zde (.slice none 0 0))::Zac::Zac::Zae (Zan 3 (rowsA l))::Zae (i64 ((Zaa (rowsA l):Nat):Int))::Zae (i64 0)::bds 12 []))=(Zac::Zaw (Fn.func 80) [] (Qz12 ly1)::bds 3 (Zae (Zde (.slice none 0 0))::Zac::Zac::Zae (Zan 3 (rowsA l0))::Zae (i64 ((Zaa (rowsA l0):Nat):Int))::Zae (i64 0)::bds 12 []))∧([]:List Blk)= []∧Zaa l0<1000000∧∀(i:Int) (r:List AskT),r=Zcl (fun (x2:AskT)=>ABs9 (Zcs x2) (AskT.of x2) (Zge x2) ly1) l0→R (.d (Zan 3 (rowsA r))) b):=by kernel_rfl
theorem BDb9 (l:List AskT) (ly:LayT) (hl:l.length<1000000):PCall prog 40 [.d (.sl 3 (rowsA l)), .fn (.func 80) [] [.rptr [i64 ly.no,i64 ly.da]]] (.d (.sl 3 (rowsA (l.filter (fun x:AskT=>ABs9 x.sl x.of x.pe ly))))):=by
 refine Zfx (n:=100) (u:=false) (fun _=>BBd9) mixed Zak Zag (fun Ev=>BBc9) func40 (by rfl) (by rfl) fun Ev bb=> ?_;rw [AYl9];exact ⟨l,ly,rfl,rfl,rfl,hl,fun i r hr=>hr▸ .base LeA.rfl⟩
def AWk9 (args:List AV) (K:AV→Prop):Prop:=∃(l:List AskT) (ly:LayT) (q:List AskT),args= [.d (.sl 3 (rowsA l)), .fn (.func 80) [] [.rptr [i64 ly.no,i64 ly.da]]]∧(l.length<1000000∧q=l.filter (fun x:AskT=>ABs9 x.sl x.of x.pe ly))∧K (.d (.sl 3 (rowsA q)))
theorem AUb9:∀args K,AWk9 args K→∃x,PCall prog 40 args x∧K x:=by
 rintro _ K ⟨l,ly,_,rfl,⟨hl,rfl⟩,hk⟩;exact ⟨_,BDb9 l ly hl,hk⟩
theorem BLv9 (x:GraT) (s:SideT):wpFn prog ⟨[], [],wl,y,false⟩ 100 f106 ([graA x]++ [.rptr [.pt (sideD s)]]) b R=(BIf (Zft x==Zgq s) (R (Zae (bo (decide (Zdw x≥Zgr s)))) b) (R (Zae (bo false)) b)):=by kernel_rfl
theorem BSs9 (x:GraT) (s:SideT):PCall prog 106 ([graA x]++ [.rptr [.pt (sideD s)]]) (.d (bo ((fun x:GraT=>x.pe==s.me&&decide (x.un≥s.fr)) x))):=by
 refine Zbg (n:=100) (u:=false) mixed Zak Zag func106 (by rfl) (by rfl) fun Ev bb=> ?_;rw [BLv9];exact Zbe (fun h=>by have h':(x.pe==s.me)=true:=h;simp only [h',Zea]) fun h=>by have h':(x.pe==s.me)=false:=h;simp only [h',Zco]
def BPi9 (args:List AV) (K:AV→Prop):Prop:=∃(x:GraT) (s:SideT) (q:Bool),args= [graA x]++ [.rptr [.pt (sideD s)]]∧q=(fun x:GraT=>x.pe==s.me&&decide (x.un≥s.fr)) x∧K (.d (bo q))
theorem BHj9:∀args K,BPi9 args K→∃x,PCall prog 106 args x∧K x:=by
 rintro _ K ⟨x,s,_,rfl,rfl,hk⟩;exact ⟨_,BSs9 x s,hk⟩
def BWg9:List (Nat×(List AV→(AV→Prop)→Prop)):= [(106,BPi9)]
theorem BNc9:AAb9 prog BWg9:=Zah BHj9 Zak
noncomputable def ARb9:Code:=sub [1,1,0,1,2,3] (code f77)
def AKr9 (l:List GraT) (s:SideT) (acc:AV) (n i:Int):List AV:= [.bad, .fn (.func 106) [] [.rptr [.pt (sideD s)]], .bad, .bad, .bad,acc, .bad, .bad, .d (.sl 5 (rowsG l)), .d (i64 n), .d (i64 i)]++Zap 12 .bad
theorem BZd9 (l:List GraT) (s:SideT) (xs:List (List Dv)) (n i:Int):wpc prog ⟨BWg9, [],wl,y,false⟩ 100 ARb9 (AKr9 l s (.own 59 5 xs) n i) [] b (maskK 0 [1,5,8,9,10] K)=(BIf (decide (i<n)) (BIf (true&&decide (0≤i)) (∃(x0:Int) (x1:Int) (x2:Int) (x3:Int) (x4:Int),(rowsG l)[Zao i]? =some (Qz40 x0 x1 x2 x3 x4)∧∃(x7:GraT) (s8:SideT) (q9:Bool), [Zaq (Qz22 x0 x1 x2 x3 x4),Zaf [Zdr (Qz2 s)]]= [Zaq (Qz5 x7),Zaf [Zdr (Qz2 s8)]]∧q9=(Zft x7==Zgq s8&&decide (Zdw x7≥Zgr s8))∧BIf q9 (BIf (true&&decide ((Zaa xs+1)*40≤140737488355328)) (K .normal (Zac::Zaw (Fn.func 106) [] [Zaf [Zdr (Qz2 s)]]::bds 3 (Zgo 59 5 (xs++ [Qz40 x0 x1 x2 x3 x4])::Zac::Zac::Zae (Zan 5 (rowsG l))::Zae (i64 n)::Zae (i64 (Zad .i64 (i+1)))::bds 12 [])) [] b) False) (K .normal (Zac::Zaw (Fn.func 106) [] [Zaf [Zdr (Qz2 s)]]::bds 3 (Zgo 59 5 xs::Zac::Zac::Zae (Zan 5 (rowsG l))::Zae (i64 n)::Zae (i64 (Zad .i64 (i+1)))::bds 12 [])) [] b)) False) (K (Zbs 0) (Zac::Zaw (Fn.func 106) [] [Zaf [Zdr (Qz2 s)]]::bds 3 (Zgo 59 5 xs::Zac::Zac::Zae (Zan 5 (rowsG l))::Zae (i64 n)::Zae (i64 i)::bds 12 [])) [] b)):=by kernel_rfl
theorem BWz9 {Ev:Env prog} {b:Ev.β} {Q:Exit→St Ev.β→Prop} (l:List GraT) (s:SideT) (hl:l.length<1000000) (hQ:∀i:Int,Q (.exit 0) ⟨AKr9 l s (.own 59 5 (rowsG (l.filter (fun x:GraT=>x.pe==s.me&&decide (x.un≥s.fr))))) l.length i, [],b⟩):
 WR Ev ARb9 (l.length+1) ⟨AKr9 l s (.own 59 5 (rowsG [])) l.length (0:Nat), [],b⟩ Q:=by
 refine WR.gathL (X:=⟨BWg9, [],wlW Ev,Ev.Y,false⟩) (k:=100) [1,5,8,9,10] mixed (CX.Ok.of BNc9 Zag) l (AJq9 (fun x:GraT=>x.pe==s.me&&decide (x.un≥s.fr))) (AJy9 _) (fun acc i=>AKr9 l s (.own 59 5 (rowsG acc)) l.length (i:Nat)) [] 0 (fun i x acc hi hx ha K k1=> ?_) (fun acc K k1=> ?_) ?_
 ·refine Eq.mpr (BZd9 _ _ _ K l s _ l.length i) ?_;rw [ABw9 hx];refine Zba (by simp;omega) (Zba (natI i) ⟨_,_,_,_,_,rfl,x,s,_,rfl,rfl,Zbe (fun g=>Zba (by simp [AAg9];omega) ?_) fun g=> ?_⟩)
  ·rw [AOi9 (p:=(fun x:GraT=>x.pe==s.me&&decide (x.un≥s.fr))) (x:=x) g,AOf9] at k1;rw [wrapN (by omega)];exact k1
  ·rw [AOj9 (p:=(fun x:GraT=>x.pe==s.me&&decide (x.un≥s.fr))) (x:=x) g,Zdu] at k1;rw [wrapN (by omega)];exact k1
 ·refine Eq.mpr (BZd9 _ _ _ K l s _ l.length _) ?_;exact Zdd (by simp) k1
 ·rw [AEi9];exact hQ _
def BBf9 {β:Type}:WLT β:=fun cd tm hp b K=>∃(l:List GraT) (s:SideT),cd= .loop ARb9∧ABc9 [1,5,8,9,10] 0 tm=AKr9 l s nilA (rowsG l).length 0∧hp= []∧l.length<1000000∧
 ∀(i:Int) (r:List GraT),r=l.filter (fun x:GraT=>x.pe==s.me&&decide (x.un≥s.fr))→K (.exit 0) (AKr9 l s (.own 59 5 (rowsG r)) l.length i) [] b
theorem BBe9 {Ev:Env prog} (c:Code) (tm:List AV) (hp:List Blk) (b:Ev.β) (K:Exit→List AV→List Blk→Ev.β→Prop) (h:BBf9 c tm hp b K):W Ev c ⟨tm,hp,b⟩ (fun e s=>K e s.tm s.hp s.b):=by
 obtain ⟨l,s,rfl,htm,rfl,hl,hK⟩:=h;rw [AAg9] at htm;refine W.cast (htm▸AAd9 _ tm 0) (Zca _) ?_;refine W.cast (tm':=AKr9 l s (.own 59 5 (rowsG [])) l.length 0) (LeL.at [_,_,_,_,_] _ (LeA.nilOwn rfl)) (Zca _) ?_;exact W.rounds (BWz9 (Q:=fun e s=>K e s.tm s.hp s.b) l s hl fun i=>hK i _ rfl)
theorem AYm9 (l:List GraT) (s:SideT):wpFn prog ⟨[], [],BBf9,y,false⟩ 100 f77 [.d (.sl 5 (rowsG l)), .fn (.func 106) [] [.rptr [.pt (sideD s)]]] b R=(∃(l0:List GraT) (s1:SideT),Zay ARb9=Zay ARb9∧(Zac::Zaw (Fn.func 106) [] [Zaf [Zdr (Qz2 s)]]::bds 3 (Zae (Zde (.slice none 0 0))::Zac::Zac::Zae (Zan 5 (rowsG l))::Zae (i64 ((Zaa (rowsG l):Nat):Int))::Zae (i64 0)::bds 12 []))=(Zac::Zaw (Fn.func 106) [] [Zaf [Zdr (Qz2 s1)]]::bds 3 (Zae (Zde (.slice none 0 0))::Zac::Zac::Zae (Zan 5 (rowsG l0))::Zae (i64 ((Zaa (rowsG l0):Nat):Int))::Zae (i64 0)::bds 12 []))∧([]:List Blk)= []∧Zaa l0<1000000∧∀(i:Int) (r:List GraT),r=Zcl (fun (x2:GraT)=>Zft x2==Zgq s1&&decide (Zdw x2≥Zgr s1)) l0→R (.d (Zan 5 (rowsG r))) b):=by kernel_rfl
theorem BDc9 (l:List GraT) (s:SideT) (hl:l.length<1000000):PCall prog 77 [.d (.sl 5 (rowsG l)), .fn (.func 106) [] [.rptr [.pt (sideD s)]]] (.d (.sl 5 (rowsG (l.filter (fun x:GraT=>x.pe==s.me&&decide (x.un≥s.fr)))))):=by
 refine Zfx (n:=100) (u:=false) (fun _=>BBf9) mixed Zak Zag (fun Ev=>BBe9) func77 (by rfl) (by rfl) fun Ev bb=> ?_;rw [AYm9];exact ⟨l,s,rfl,rfl,rfl,hl,fun i r hr=>hr▸ .base LeA.rfl⟩
def AWl9 (args:List AV) (K:AV→Prop):Prop:=∃(l:List GraT) (s:SideT) (q:List GraT),args= [.d (.sl 5 (rowsG l)), .fn (.func 106) [] [.rptr [.pt (sideD s)]]]∧(l.length<1000000∧q=l.filter (fun x:GraT=>x.pe==s.me&&decide (x.un≥s.fr)))∧K (.d (.sl 5 (rowsG q)))
theorem AUc9:∀args K,AWl9 args K→∃x,PCall prog 77 args x∧K x:=by
 rintro _ K ⟨l,s,_,rfl,⟨hl,rfl⟩,hk⟩;exact ⟨_,BDc9 l s hl,hk⟩
def TGd:List (Nat×(List AV→(AV→Prop)→Prop)):= [(77,AWl9)]
theorem CFx9:AAb9 prog TGd:=Zah AUc9 Zak
theorem BEi9 (s:SideT) (n:NearT):wpFn prog ⟨TGd, [],wl,y,false⟩ 100 f53 [.rptr (sideD s),nearA n] b R=(∃(l0:List GraT) (s1:SideT) (q2:List GraT), [Zae (Zan 5 (rowsG (Zbk n))),Zaw (Fn.func 106) [] [Zaf [Zdr (Qz2 s)]]]= [Zae (Zan 5 (rowsG l0)),Zaw (Fn.func 106) [] [Zaf [Zdr (Qz2 s1)]]]∧(Zaa l0<1000000∧q2=Zcl (fun (x3:GraT)=>Zft x3==Zgq s1&&decide (Zdw x3≥Zgr s1)) l0)∧R (.d (Zan 5 (rowsG q2))) b):=by kernel_rfl
def AEb9 (s:SideT) (n:NearT):List GraT:=n.gs.filter (fun x=>x.pe==s.me&&decide (x.un≥s.fr))
theorem BKb9 (s:SideT) (n:NearT) (h:n.gs.length<1000000):PCall prog 53 [.rptr (sideD s),nearA n] (.d (.sl 5 (rowsG (AEb9 s n)))):=by
 refine Zbg (n:=100) (u:=false) mixed CFx9 Zag func53 (by rfl) (by rfl) fun Ev bb=> ?_;rw [BEi9];exact ⟨n.gs,s,_,rfl,⟨h,rfl⟩,rfl⟩
def BGo9 (args:List AV) (K:AV→Prop):Prop:=∃(s:SideT) (n:NearT) (q:List GraT),args= [.rptr (sideD s),nearA n]∧(n.gs.length<1000000∧q=AEb9 s n)∧K (.d (.sl 5 (rowsG q)))
theorem AZt9:∀args K,BGo9 args K→∃x,PCall prog 53 args x∧K x:=by
 rintro _ K ⟨s,n,_,rfl,⟨h,rfl⟩,hk⟩;exact ⟨_,BKb9 s n h,hk⟩
def TFi:List (Nat×(List AV→(AV→Prop)→Prop)):= [(82,BGk9)]
theorem CFy9:AAb9 prog TFi:=Zah AZr9 Zak
theorem CBe9 (s:SideT) (pe:Int):wpFn prog ⟨TFi, [],wl,y,false⟩ 100 f37 [.rptr (sideD s), .d (i64 pe)] b R=(∃(l0:List NearT) (pe1:Int) (q2:Int), [Zae (Zan 31 (rowsN (Zat s))),Zaw (Fn.func 83) [] [Zaf [i64 pe]]]= [Zae (Zan 31 (rowsN l0)),Zaw (Fn.func 83) [] [Zaf [i64 pe1]]]∧(Zaa l0≤9223372036854775807∧q2=idxS (fun (x3:NearT)=>Zdq x3==pe1) l0)∧BIf (decide (q2<(0:Int))) (R (.tup [Zaq [Zae (i64 0),Zae (i64 0),Zae (i64 0),Zae (i64 0),Zae (i64 0),Zae (i64 0),Zae (i64 0),Zae (i64 0),Zae (i64 0),Zae (i64 0),Zae (i64 0),Zae (i64 0),Zae (Zde (.slice none 0 0)),Zae (Zde (.slice none 0 0)),Zae (Zde (.slice none 0 0)),Zae (Zde (.slice none 0 0)),Zae (bo false),Zae (Zde (.slice none 0 0)),Zae (Zde (.slice none 0 0)),Zae (Zde (.slice none 0 0)),Zae (i64 0),Zae (i64 0),Zae (u64 0),Zae (i64 0),Zae (i64 0),Zae (i64 0),Zae (i64 0),Zae (i64 0),Zae (Zde (.slice none 0 0)),Zae (Zde (.slice none 0 0)),Zae (bo false)],Zae (bo false)]) b) (BIf (true&&decide (0≤q2)) (∃(n4:NearT),(rowsN (Zat s))[Zao q2]? =some (nearR n4)∧R (.tup [nearA n4,Zae (bo true)]) b) False)):=by kernel_rfl
theorem ALw9 {α:Type} (p:α→Bool) (l:List α):(l.findIdx? p=none∧l.find? p=none)∨∃j x,l.findIdx? p=some j∧l[j]? =some x∧l.find? p=some x∧p x=true:=by
 induction l with
 |nil=>exact .inl ⟨rfl,rfl⟩
 | cons a r ih=>
  rw [Zfb,List.find?_cons];by_cases h:p a=true
  ·exact .inr ⟨0,a,by simp [h],by simp,by simp [h],h⟩
  ·simp only [Bool.not_eq_true] at h;rcases ih with ⟨h1,h2⟩|⟨j,x,h1,h2,h3,h4⟩
   ·exact .inl ⟨by simp [h,h1],by simp [h,h2]⟩
   ·exact .inr ⟨j+1,x,by simp [h,h1],by simpa using h2,by simp [h,h3],h4⟩
def zeroN:NearT:=⟨0,0, [], [], [],0,0,0,0,0,0,0,0,0,0, [],false, [], [], [],0,0,0,0,0,0,0,0, [], [],false⟩
def sFind (s:SideT) (pe:Int):Option NearT:=s.ns.find? fun x=>x.fm==pe
def nearO (o:Option NearT):NearT:=match o with|some n=>n|none=>zeroN
theorem BWu9 (e:Bool):LeV (AV.tup [Zaq [Zae (i64 (0:Int)),Zae (i64 (0:Int)),Zae (i64 (0:Int)),Zae (i64 (0:Int)),Zae (i64 (0:Int)),Zae (i64 (0:Int)),Zae (i64 (0:Int)),Zae (i64 (0:Int)),Zae (i64 (0:Int)),Zae (i64 (0:Int)),Zae (i64 (0:Int)),Zae (i64 (0:Int)),Zae (Zde (Zda none 0 0)),Zae (Zde (Zda none 0 0)),Zae (Zde (Zda none 0 0)),Zae (Zde (Zda none 0 0)),Zae (bo false),Zae (Zde (Zda none 0 0)),Zae (Zde (Zda none 0 0)),Zae (Zde (Zda none 0 0)),Zae (i64 (0:Int)),Zae (i64 (0:Int)),Zae (u64 (0:Int)),Zae (i64 (0:Int)),Zae (i64 (0:Int)),Zae (i64 (0:Int)),Zae (i64 (0:Int)),Zae (i64 (0:Int)),Zae (Zde (Zda none 0 0)),Zae (Zde (Zda none 0 0)),Zae (bo false)],Zae (bo e)]) (.tup [nearA zeroN, .d (bo e)]):=
 LeV.tups (.cons (LeV.aggs (by repeat' (first|exact .nil|refine .cons .rfl ?_|refine .cons (.nil rfl) ?_))) (.cons .rfl .nil))
theorem CEm9 (s:SideT) (pe:Int) (h:s.ns.length≤9223372036854775807):PCall prog 37 [.rptr (sideD s), .d (i64 pe)] (.tup [nearA (nearO (sFind s pe)), .d (bo (sFind s pe).isSome)]):=by
 refine PCall.ofFnV (n:=100) (u:=false) (fun _=>fun _ _ _ _ _=>False) mixed CFy9 Zag (fun Ev _ _ _ _ _ h=>h.elim) func37 (by rfl) (by rfl) fun Ev bb=> ?_;rw [CBe9];refine ⟨s.ns,pe,_,rfl,⟨h,rfl⟩, ?_⟩;rcases ALw9 (fun x:NearT=>x.fm==pe) s.ns with ⟨h1,h2⟩|⟨j,x,h1,h2,h3,_⟩
 ·rw [AAy9 h1,show sFind s pe=none from h2];exact Zba (by decide) (BWu9 false)
 ·rw [AAi9 h1,show sFind s pe=some x from h3,ACk9 h2];exact Zdd (by simp) (Zba (natI j) ⟨_,rfl, .rfl⟩)
def cFind (args:List AV) (K:AV→Prop):Prop:=∃(s:SideT) (pe:Int) (q:NearT) (e:Bool),args= [.rptr (sideD s), .d (i64 pe)]∧(s.ns.length≤9223372036854775807∧q=nearO (sFind s pe)∧e=(sFind s pe).isSome)∧K (.tup [nearA q, .d (bo e)])
theorem AUj9:∀args K,cFind args K→∃x,PCall prog 37 args x∧K x:=by
 rintro _ K ⟨s,pe,_,_,rfl,⟨h,rfl,rfl⟩,hk⟩;exact ⟨_,CEm9 s pe h,hk⟩
theorem BUd9 (t:TabT):wpFn prog ⟨[], [],wl,y,false⟩ 100 f34 [tabA t] b R=(BIf (decide (((Zaa (rowsU (Zbn t)):Nat):Int)≤(70:Int))) (BIf (decide (((Zaa (rowsG (Zbo t)):Nat):Int)≤(70:Int))) (R (.d (bo (decide (((Zaa (rowsA (Zbq t)):Nat):Int)≤(70:Int))))) b) (R (.d (bo false)) b)) (R (.d (bo false)) b)):=by kernel_rfl
def AOy9 (t:TabT):Bool:=decide (t.us.length≤70)&&(decide (t.gs.length≤70)&&decide (t.ak.length≤70))
theorem BEu9 {t:TabT}:AOy9 t=true↔t.us.length≤70∧t.gs.length≤70∧t.ak.length≤70:=by simp [AOy9]
theorem CAe9 (t:TabT):PCall prog 34 [tabA t] (.d (bo (AOy9 t))):=by
 refine Zbg (n:=100) (u:=false) mixed Zak Zag func34 (by rfl) (by rfl) fun Ev bb=> ?_;rw [BUd9];simp only [AAj9,AAg9,AAo9];have e:∀n:Nat,decide (((n:Nat):Int)≤70)=decide (n≤70):=fun n=>by rw [decide_eq_decide];omega
 simp only [e];refine Zbe (fun h1=> ?_) fun h1=> ?_
 ·refine Zbe (fun h2=> ?_) fun h2=> ?_
  ·rw [AOy9,h1,h2];rfl
  ·rw [AOy9,h1,h2];rfl
 ·rw [AOy9,h1];rfl
def CCe9 (args:List AV) (K:AV→Prop):Prop:=∃(t:TabT) (q:Bool),args= [tabA t]∧q=AOy9 t∧K (.d (bo q))
theorem BMp9:∀args K,CCe9 args K→∃x,PCall prog 34 args x∧K x:=by
 rintro _ K ⟨t,_,rfl,rfl,hk⟩;exact ⟨_,CAe9 t,hk⟩
noncomputable def lpNb:Code:=sub [1,0,1,2,3] (code f69)
def tmNb (l:List NearT) (me fr i:Int):List AV:= [.bad, .d (i64 me), .d (.sl 31 (rowsN l)), .d (i64 fr), .ptr 0 0, .bad, .bad, .bad, .d (bo false), .d (i64 i)]++Zap 56 .bad
abbrev Qz23 (v0:Int) (v1:List NearT) (v2:Int) (v3:Int):=Zac::Zae (i64 v0)::Zae (Zan 31 (rowsN v1))::Zae (i64 v2)::Zai 0 0::bds 3 (Zae (bo false)::Zae (i64 v3)::bds 56 [])
theorem rNb (ly:LayT) (l:List NearT) (me fr i:Int):wpc prog ⟨[], [],wl,y,false⟩ 100 lpNb (tmNb l me fr i) [layB ly] b (maskK 1 [1,2,3,4,8,9] K)=(BIf (decide (i<((Zaa (rowsN l):Nat):Int))) (BIf (true&&decide (0≤i)) (∃(n0:NearT),(rowsN l)[Zao i]? =some (nearR n0)∧BIf (decide (Zdq n0<(0:Int))) (K .ret (Qz23 me l fr i) [Blk.mk (Qz3 ly) false false 0] b) (BIf (decide (Zdq n0≥Zeg ly)) (K .ret (Qz23 me l fr i) [Blk.mk (Qz3 ly) false false 0] b) (BIf (Zdq n0==me) (K .ret (Qz23 me l fr i) [Blk.mk (Qz3 ly) false false 0] b) (BIf (true&&decide (0≤i)) (∃(n3:NearT),(rowsN l)[Zao i]? =some (nearR n3)∧BIf (decide (Zgp n3<(0:Int))) (K .ret (Qz23 me l fr i) [Blk.mk (Qz3 ly) false false 0] b) (BIf (true&&decide (0≤i)) (∃(n6:NearT),(rowsN l)[Zao i]? =some (nearR n6)∧BIf (decide (Zgp n6>fr)) (K .ret (Qz23 me l fr i) [Blk.mk (Qz3 ly) false false 0] b) (BIf (decide (i>(0:Int))) (BIf (true&&decide ((0:Int)≤Zad .i64 (i - 1))) (∃(n9:NearT),(rowsN l)[Zao (Zad .i64 (i - 1))]? =some (nearR n9)∧BIf (decide (Zdq n9≥Zdq n0)) (K .ret (Qz23 me l fr i) [Blk.mk (Qz3 ly) false false 0] b) (K .normal (Zac::Zae (i64 me)::Zae (Zan 31 (rowsN l))::Zae (i64 fr)::Zai 0 0::bds 3 (Zae (bo false)::Zae (i64 (Zad .i64 (i+1)))::bds 56 [])) [Blk.mk (Qz3 ly) false false 0] b)) False) (K .normal (Zac::Zae (i64 me)::Zae (Zan 31 (rowsN l))::Zae (i64 fr)::Zai 0 0::bds 3 (Zae (bo false)::Zae (i64 (Zad .i64 (i+1)))::bds 56 [])) [Blk.mk (Qz3 ly) false false 0] b))) False)) False)))) False) (K (Zbs 0) (Qz23 me l fr i) [Blk.mk (Qz3 ly) false false 0] b)):=by kernel_rfl
def AAf9 {α:Type}:Option α→List α→List (Option α×α)
 |_, []=> []
 |o,x::r=>(o,x)::AAf9 (some x) r
theorem ADv9 {α:Type} (l:List α):∀o,(AAf9 o l).length=l.length:=by
 induction l with
 |nil=>intro o;rfl
 |cons x r ih=>intro o;simp [AAf9,ih]
theorem AEq9 {α:Type} (l:List α):∀(o:Option α) (i:Nat) (p:Option α×α),(AAf9 o l)[i]? =some p→l[i]? =some p.2∧(i=0→p.1=o)∧∀j,i=j+1→∃w,p.1=some w∧l[j]? =some w:=by
 induction l with
 |nil=>intro o i p h;simp [AAf9] at h
 | cons x r ih=>
  intro o i p h;cases i with
  | zero=>
   simp only [AAf9,List.getElem?_cons_zero,Option.some.injEq] at h;subst h;exact ⟨rfl,fun _=>rfl,fun j hj=>by omega⟩
  | succ i=>
   simp only [AAf9,List.getElem?_cons_succ] at h;obtain ⟨h1,h2,h3⟩:=ih (some x) i p h;refine ⟨by simpa using h1,fun hh=>by omega,fun j hj=> ?_⟩;cases i with
   |zero=>exact ⟨x,h2 rfl,by rw [show j=0 by omega];rfl⟩
   | succ i=>
    obtain ⟨w,hw,hl⟩:=h3 i rfl;exact ⟨w,hw,by rw [show j=i+1 by omega];simpa using hl⟩
def AVm9 (o:Option NearT) (fm:Int):Bool:=match o with|some w=>decide (w.fm≥fm)|none=>false
def badN (ly:LayT) (me fr:Int) (p:Option NearT×NearT):Bool:=decide (p.2.fm<0)||(decide (p.2.fm≥ly.no)||(p.2.fm==me||(decide (p.2.fr<0)||(decide (p.2.fr>fr)||AVm9 p.1 p.2.fm))))
theorem wrNb {Ev:Env prog} {b:Ev.β} {Q:Exit→St Ev.β→Prop} (ly:LayT) (l:List NearT) (me fr:Int) (hl:l.length≤9223372036854775807) (h1:(AAf9 none l).any (badN ly me fr)=false→∀i:Int,Q (.exit 0) ⟨tmNb l me fr i, [layB ly],b⟩) (h2:(AAf9 none l).any (badN ly me fr)=true→∀i:Int,Q .ret ⟨tmNb l me fr i, [layB ly],b⟩):
 WR Ev lpNb (l.length+1) ⟨tmNb l me fr (0:Nat), [layB ly],b⟩ Q:=by
 have e:=ADv9 l none;rw [←e];refine WR.scanL (X:=⟨[], [],wlW Ev,Ev.Y,false⟩) (k:=100) [1,2,3,4,8,9] mixed (CX.Ok.of Zak Zag) (AAf9 none l) (badN ly me fr) (fun i=>tmNb l me fr (i:Nat)) (fun i=>tmNb l me fr (i:Nat)) [layB ly] 0 (fun i x hi hx K k1 k2=> ?_) (fun K k1=> ?_) (fun h=>h1 h _) fun h i=>h2 h _
 ·obtain ⟨g1,g2,g3⟩:=AEq9 l none i x hx;obtain ⟨o,x⟩:=x;simp only at g1 g2 g3;refine Eq.mpr (rNb _ _ _ K ly l me fr i) ?_;rw [ACi9];refine Zba (by simp;omega) (Zba (natI i) ?_);refine ⟨_,ACk9 g1, ?_⟩;refine Zbe (fun c1=>k1 (by simp [badN,c1])) fun c1=>Zbe (fun c2=>k1 (by simp [badN,c2])) fun c2=>Zbe (fun c3=>k1 (by rw [badN];simp only [show (x.fm==me)=true from c3,Zet,Zej])) fun c3=>Zba (natI i) ⟨_,ACk9 g1,Zbe (fun c4=>k1 (by simp [badN,c4])) fun c4=>Zba (natI i) ⟨_,ACk9 g1,Zbe (fun c5=>k1 (by simp [badN,c5])) fun c5=> ?_⟩⟩;have hb:badN ly me fr (o,x)=AVm9 o x.fm:=by rw [badN,c1,c2,show (x.fm==me)=false from c3,c4,c5];rfl
  cases i with
  | zero=>
   refine Zdd (by decide) ?_;rw [wrapN (by omega)];exact k2 (by rw [hb,g2 rfl];rfl)
  | succ j=>
   obtain ⟨w,hw,hj⟩:=g3 j rfl;refine Zba (by simp) ?_;rw [show Zad Zbb (((j+1:Nat):Int) - 1)=((j:Nat):Int) by rw [AAz9 (by omega) (by omega)];omega];refine Zba (natI j) ⟨_,ACk9 hj,Zbe (fun c6=>k1 (by rw [hb,hw];exact c6)) fun c6=> ?_⟩;rw [wrapN (by omega)];exact k2 (by rw [hb,hw];exact c6)
 ·refine Eq.mpr (rNb _ _ _ K ly l me fr _) ?_;rw [ACi9];exact Zdd (by simp [e]) k1
def wlNb {β:Type}:WLT β:=fun cd tm hp b K=>∃(ly:LayT) (l:List NearT) (me fr:Int) (q:Bool),cd= .loop lpNb∧ABc9 [1,2,3,4,8,9] 0 tm=tmNb l me fr 0∧hp= [layB ly]∧(l.length≤9223372036854775807∧q=(AAf9 none l).any (badN ly me fr))∧BIf q (∀i:Int,K .ret (tmNb l me fr i) [layB ly] b) (∀i:Int,K (.exit 0) (tmNb l me fr i) [layB ly] b)
theorem BXr9 {Ev:Env prog} (c:Code) (tm:List AV) (hp:List Blk) (b:Ev.β) (K:Exit→List AV→List Blk→Ev.β→Prop) (h:wlNb c tm hp b K):W Ev c ⟨tm,hp,b⟩ (fun e s=>K e s.tm s.hp s.b):=by
 obtain ⟨ly,l,me,fr,q,rfl,htm,rfl,⟨hl,hz⟩,hK⟩:=h;refine W.cast (htm▸AAd9 _ tm 0) (Zca _) ?_;exact W.rounds (wrNb (Q:=fun e s=>K e s.tm s.hp s.b) ly l me fr hl (fun h=>by rw [hz,h] at hK;exact hK) fun h=>by rw [hz,h] at hK;exact hK)
abbrev Qz64 (v0:Int) (v1:List NearT) (v2:Int):=Zac::Zae (i64 v0)::Zae (Zan 31 (rowsN v1))::Zae (i64 v2)::Zai 0 0::bds 3 (Zae (bo false)::Zae (i64 0)::bds 56 [])
theorem nb_nf (ly:LayT) (l:List NearT) (me fr:Int):wpFn prog ⟨[], [],wlNb,y,false⟩ 100 f69 [layA ly, .d (i64 me), .d (.sl 31 (rowsN l)), .d (i64 fr)] b R=(∃(ly0:LayT) (l1:List NearT) (me2:Int) (fr3:Int) (q4:Bool),Zay lpNb=Zay lpNb∧(Qz64 me l fr)=(Qz64 me2 l1 fr3)∧ [Blk.mk (Qz3 ly) false false 0]= [Blk.mk (Qz3 ly0) false false 0]∧(Zaa l1≤9223372036854775807∧q4=Zdl (AAf9 none l1) (badN ly0 me2 fr3))∧BIf q4 (∀(i:Int),R (.d (bo false)) b) (∀(i:Int),R (.d (bo true)) b)):=by kernel_rfl
def nbS (ly:LayT) (l:List NearT) (me fr:Int):Bool:= !(AAf9 none l).any (badN ly me fr)
theorem pcNb (ly:LayT) (l:List NearT) (me fr:Int) (hl:l.length≤9223372036854775807):PCall prog 69 [layA ly, .d (i64 me), .d (.sl 31 (rowsN l)), .d (i64 fr)] (.d (bo (nbS ly l me fr))):=by
 refine Zdf (n:=100) (u:=false) (fun _=>wlNb) mixed Zak Zag (fun Ev=>BXr9) func69 (by rfl) (by rfl) fun Ev bb=> ?_;rw [nb_nf];exact ⟨ly,l,me,fr,_,rfl,rfl,rfl,⟨hl,rfl⟩,Zbe (fun h i=>by rw [nbS,h];rfl) fun h i=>by rw [nbS,h];rfl⟩
def cNb (args:List AV) (K:AV→Prop):Prop:=∃(ly:LayT) (l:List NearT) (me fr:Int) (q:Bool),args= [layA ly, .d (i64 me), .d (.sl 31 (rowsN l)), .d (i64 fr)]∧(l.length≤9223372036854775807∧q=nbS ly l me fr)∧K (.d (bo q))
theorem CFa9:∀args K,cNb args K→∃x,PCall prog 69 args x∧K x:=by
 rintro _ K ⟨ly,l,me,fr,_,rfl,⟨hl,rfl⟩,hk⟩;exact ⟨_,pcNb ly l me fr hl,hk⟩
noncomputable def lpFw:Code:=sub [1,0,1,2,3] (code f33)
def tmFw (l:List NearT) (i:Int):List AV:= [.d (.sl 31 (rowsN l)), .bad, .d (bo false), .d (i64 i)]++Zap 35 .bad
abbrev Qz38 (v0:List NearT) (v1:Int):=Zae (Zan 31 (rowsN v0))::Zac::Zae (bo false)::Zae (i64 v1)::bds 35 []
theorem rFw (l:List NearT) (i:Int):wpc prog ⟨[], [],wl,y,false⟩ 100 lpFw (tmFw l i) [] b (maskK 0 [0,2,3] K)=(BIf (decide (i<((Zaa (rowsN l):Nat):Int))) (BIf (decide (i<(70:Int))) (BIf (true&&decide (0≤i)) (∃(n0:NearT),(rowsN l)[Zao i]? =some (nearR n0)∧BIf (decide (((Zaa (rowsU (Zbl n0)):Nat):Int)>(40:Int))) (K .ret (Qz38 l i) [] b) (BIf (decide (((Zaa (rowsG (Zbk n0)):Nat):Int)>(40:Int))) (K .ret (Qz38 l i) [] b) (BIf (decide (((Zaa (rowsA (Zbw n0)):Nat):Int)>(40:Int))) (K .ret (Qz38 l i) [] b) (K .normal (Zae (Zan 31 (rowsN l))::Zac::Zae (bo false)::Zae (i64 (Zad .i64 (i+1)))::bds 35 []) [] b)))) False) (K (Zbs 0) (Qz38 l i) [] b)) (K (Zbs 0) (Qz38 l i) [] b)):=by kernel_rfl
def manyN (x:NearT):Bool:=decide ((x.us.length:Int)>40)||(decide ((x.gs.length:Int)>40)||decide ((x.ak.length:Int)>40))
theorem wrFw {Ev:Env prog} {b:Ev.β} {Q:Exit→St Ev.β→Prop} (l:List NearT) (h1:(l.take 70).any manyN=false→∀i:Int,Q (.exit 0) ⟨tmFw l i, [],b⟩) (h2:(l.take 70).any manyN=true→∀i:Int,Q .ret ⟨tmFw l i, [],b⟩):
 WR Ev lpFw ((l.take 70).length+1) ⟨tmFw l (0:Nat), [],b⟩ Q:=by
 refine WR.scanL (X:=⟨[], [],wlW Ev,Ev.Y,false⟩) (k:=100) [0,2,3] mixed (CX.Ok.of Zak Zag) (l.take 70) manyN (fun i=>tmFw l (i:Nat)) (fun i=>tmFw l (i:Nat)) [] 0 (fun i x hi hx K k1 k2=> ?_) (fun K k1=> ?_) (fun h=>h1 h _) fun h i=>h2 h _
 ·have hl:=Zcf (i:=70) (l:=l);have hx':l[i]? =some x:=by rw [List.getElem?_take_of_lt (by omega)] at hx;exact hx
  refine Eq.mpr (rFw _ _ _ K l i) ?_;rw [ACi9];refine Zba (by simp;omega) (Zba (by simp;omega) (Zba (natI i) ⟨_,ACk9 hx', ?_⟩));simp only [AAj9,AAg9,AAo9];refine Zbe (fun c1=>k1 (by rw [manyN,c1];rfl)) fun c1=>Zbe (fun c2=>k1 (by rw [manyN,c1,c2];rfl)) fun c2=>Zbe (fun c3=>k1 (by rw [manyN,c1,c2,c3];rfl)) fun c3=> ?_;rw [wrapN (by omega)];exact k2 (by rw [manyN,c1,c2,c3];rfl)
 ·have hl:=Zcf (i:=70) (l:=l);refine Eq.mpr (rFw _ _ _ K l _) ?_;rw [ACi9];exact Zbe (fun c=>Zdd (by simp at c ⊢;omega) k1) fun c=>k1
def wlFw {β:Type}:WLT β:=fun cd tm hp b K=>∃(l:List NearT) (q:Bool),cd= .loop lpFw∧ABc9 [0,2,3] 0 tm=tmFw l 0∧hp= []∧q=(l.take 70).any manyN∧BIf q (∀i:Int,K .ret (tmFw l i) [] b) (∀i:Int,K (.exit 0) (tmFw l i) [] b)
theorem BXw9 {Ev:Env prog} (c:Code) (tm:List AV) (hp:List Blk) (b:Ev.β) (K:Exit→List AV→List Blk→Ev.β→Prop) (h:wlFw c tm hp b K):W Ev c ⟨tm,hp,b⟩ (fun e s=>K e s.tm s.hp s.b):=by
 obtain ⟨l,q,rfl,htm,rfl,hz,hK⟩:=h;refine W.cast (htm▸AAd9 _ tm 0) (Zca _) ?_;exact W.rounds (wrFw (Q:=fun e s=>K e s.tm s.hp s.b) l (fun h=>by rw [hz,h] at hK;exact hK) fun h=>by rw [hz,h] at hK;exact hK)
theorem BUc9 (l:List NearT):wpFn prog ⟨[], [],wlFw,y,false⟩ 100 f33 [.d (.sl 31 (rowsN l))] b R=(∃(l0:List NearT) (q1:Bool),Zay lpFw=Zay lpFw∧(Zae (Zan 31 (rowsN l))::Zac::Zae (bo false)::Zae (i64 0)::bds 35 [])=(Zae (Zan 31 (rowsN l0))::Zac::Zae (bo false)::Zae (i64 0)::bds 35 [])∧([]:List Blk)= []∧q1=Zdl (Zbu 70 l0) manyN∧BIf q1 (∀(i:Int),R (.d (bo false)) b) (∀(i:Int),R (.d (bo (decide (((Zaa (rowsN l0):Nat):Int)≤(70:Int))))) b)):=by kernel_rfl
def ATu9 (l:List NearT):Bool:= !(l.take 70).any manyN&&decide ((l.length:Int)≤70)
theorem CAd9 (l:List NearT):PCall prog 33 [.d (.sl 31 (rowsN l))] (.d (bo (ATu9 l))):=by
 refine Zdf (n:=100) (u:=false) (fun _=>wlFw) mixed Zak Zag (fun Ev=>BXw9) func33 (by rfl) (by rfl) fun Ev bb=> ?_;rw [BUc9];refine ⟨l,_,rfl,rfl,rfl,rfl,Zbe (fun h i=> ?_) fun h i=> ?_⟩
 ·rw [ATu9,h];rfl
 ·rw [ATu9,h,ACi9];rfl
def CCd9 (args:List AV) (K:AV→Prop):Prop:=∃(l:List NearT) (q:Bool),args= [.d (.sl 31 (rowsN l))]∧q=ATu9 l∧K (.d (bo q))
theorem BMo9:∀args K,CCd9 args K→∃x,PCall prog 33 args x∧K x:=by
 rintro _ K ⟨l,_,rfl,rfl,hk⟩;exact ⟨_,CAd9 l,hk⟩
def TSm:List (Nat×(List AV→(AV→Prop)→Prop)):= [(33,CCd9),(34,CCe9)]
theorem CFl9:AAb9 prog TSm:=Zah BMo9 (Zah BMp9 Zak)
theorem BRj9 (t:TabT) (l:List NearT):wpFn prog ⟨TSm, [],wl,y,false⟩ 100 f11 [tabA t, .d (.sl 31 (rowsN l))] b R=(∃(l0:List NearT) (q1:Bool), [Zae (Zan 31 (rowsN l))]= [Zae (Zan 31 (rowsN l0))]∧q1=ATu9 l0∧BIf q1 (∃(t2:TabT) (q3:Bool), [Zaq (Qz1 t)]= [Zaq (Qz1 t2)]∧q3=AOy9 t2∧R (.d (bo q3)) b) (R (.d (bo false)) b)):=by kernel_rfl
def AQf9 (t:TabT) (l:List NearT):Bool:=ATu9 l&&AOy9 t
theorem BZx9 (t:TabT) (l:List NearT):PCall prog 11 [tabA t, .d (.sl 31 (rowsN l))] (.d (bo (AQf9 t l))):=by
 refine Zbg (n:=100) (u:=false) mixed CFl9 Zag func11 (by rfl) (by rfl) fun Ev bb=> ?_;rw [BRj9];refine ⟨l,_,rfl,rfl,Zbe (fun h=>⟨t,_,rfl,rfl, ?_⟩) fun h=> ?_⟩
 ·rw [AQf9,h];rfl
 ·rw [AQf9,h];rfl
def CBy9 (args:List AV) (K:AV→Prop):Prop:=∃(t:TabT) (l:List NearT) (q:Bool),args= [tabA t, .d (.sl 31 (rowsN l))]∧q=AQf9 t l∧K (.d (bo q))
theorem BMj9:∀args K,CBy9 args K→∃x,PCall prog 11 args x∧K x:=by
 rintro _ K ⟨t,l,_,rfl,rfl,hk⟩;exact ⟨_,BZx9 t l,hk⟩
theorem BYg9 (t:TabT) (me fr:Int):wpFn prog ⟨[], [],wl,y,false⟩ 100 f32 [.d (i64 me),tabA t, .d (i64 fr)] b R=(R (Zfh 31 [[i64 fr,i64 me,i64 0,i64 0,i64 0,i64 0,i64 0,i64 0,i64 0,i64 0,i64 0,i64 0,Zan 4 (rowsU (Zbn t)),Zan 5 (rowsG (Zbo t)),Zan 3 (rowsA (Zbq t)),Zde (.slice none 0 0),bo false,Zde (.slice none 0 0),Zde (.slice none 0 0),Zde (.slice none 0 0),i64 0,i64 0,u64 0,i64 0,i64 0,i64 0,i64 0,i64 0,Zde (.slice none 0 0),Zde (.slice none 0 0),bo false]]) b):=by kernel_rfl
theorem PCall.semRes {P:Program} {f:Nat} {args:List AV} {x y:AV} (h:SemV x.view y.view) (hp:PCall P f args x):PCall P f args y:=by
 refine ⟨hp.1,fun S w vs h1 h2 h3 h4=>CallsIn.mono (hp.2 S w vs h1 h2 h3 h4) ?_⟩;rintro e w' hq;obtain ⟨v,S',g1,g2,g3,g4,g5⟩:=hq;exact ⟨v,S',g1,g2,g3,g4,h _ _ _ _ _ g5⟩
def toldN (me:Int) (t:TabT) (fr:Int):NearT:=⟨fr,me,t.us,t.gs,t.ak,0,0,0,0,0,0,0,0,0,0, [],false, [], [], [],0,0,0,0,0,0,0,0, [], [],false⟩
def APt9 (me:Int) (t:TabT) (fr:Int):List Dv:= [i64 fr,i64 me,i64 0,i64 0,i64 0,i64 0,i64 0,i64 0,i64 0,i64 0,i64 0,i64 0,Zan 4 (rowsU t.us),Zan 5 (rowsG t.gs),Zan 3 (rowsA t.ak),Zde (Zda none 0 0),bo false,Zde (Zda none 0 0),Zde (Zda none 0 0),Zde (Zda none 0 0),i64 0,i64 0,u64 0,i64 0,i64 0,i64 0,i64 0,i64 0,Zde (Zda none 0 0),Zde (Zda none 0 0),bo false]
theorem APs9 (me:Int) (t:TabT) (fr:Int):AHa9 (APt9 me t fr) (nearR (toldN me t fr)):=by
 unfold APt9 nearR toldN;repeat' (first|exact .nil|refine .cons .rfl ?_|refine .cons .nil ?_)
theorem CDz9 (t:TabT) (me fr:Int):PCall prog 32 [.d (i64 me),tabA t, .d (i64 fr)] (.d (.sl 31 (rowsN [toldN me t fr]))):=by
 have h:PCall prog 32 [.d (i64 me),tabA t, .d (i64 fr)] (.full 31 [APt9 me t fr]):=by
  refine Zbg (n:=100) (u:=false) mixed Zak Zag func32 (by rfl) (by rfl) fun Ev bb=> ?_;rw [BYg9];rfl
 have g:SemV (Zfh 31 [APt9 me t fr]).view (Zae (Zan 31 (rowsN [toldN me t fr]))).view:=SemV.rows (.cons (APs9 me t fr) .nil);exact PCall.semRes g h
def cTold (args:List AV) (K:AV→Prop):Prop:=∃(t:TabT) (me fr:Int) (q:List NearT),args= [.d (i64 me),tabA t, .d (i64 fr)]∧q= [toldN me t fr]∧K (.d (.sl 31 (rowsN q)))
theorem BVc9:∀args K,cTold args K→∃x,PCall prog 32 args x∧K x:=by
 rintro _ K ⟨t,me,fr,_,rfl,rfl,hk⟩;exact ⟨_,CDz9 t me fr,hk⟩
def sortA (l:List AskT):Nat→List AskT
 |0=> []
 |n+1=>sortA l n++l.filter (fun x=>x.sl==((n:Nat):Int))
noncomputable def lpNs:Code:=sub [1,1,1,0,1,2,3] (code f35)
def nilP:Dv:= .s (.pointer none)
def tmNs (l:List NearT) (me fr i:Int):List AV:= [.bad, .bad, .d (i64 me), .d (.sl 31 (rowsN l)), .d (i64 fr), .ptr 0 0, .bad, .bad, .bad, .bad, .d nilP, .d (bo false), .ptr 2 0]++Zap 26 .bad++ [.d (.sl 31 (rowsN l)), .d (i64 l.length), .d (i64 i)]++Zap 75 .bad
def layF (l:LayT) (z:Bool):Blk:=⟨[.d (i64 l.no), .d (i64 l.da)],z,false,0⟩
def sideB (l:LayT) (me fr:Int) (x:AV):Blk:=⟨[.d (i64 l.no), .d (i64 l.da), .d (i64 me),x, .d (i64 fr)],false,false,0⟩
def TNs:List (Nat×(List AV→(AV→Prop)→Prop)):= [(73,BMc9),(36,cIn),(74,AWi9),(77,AWj9),(40,AWk9)]
theorem CCy9:AAb9 prog TNs:=Zah APe9 (Zah BGe9 (Zah ATz9 (Zah AUa9 (Zah AUb9 Zak))))
def junkB (cs:List AV):Blk:=⟨cs,false,false,0⟩
def growB (v:Nat) (cs:List AV):Blk:=⟨cs,false,true,v⟩
def UNs:List (Nat×(List AV→List Blk→(AV→List Blk→Prop)→Prop)):= [(1000055,fun _ _ _=>False)]
theorem CCr9:AAm9 prog UNs:=Zby (fun _ _ _ h=>h.elim) Zag
abbrev Qz6 (v0:NearT) (v1:List UseT) (v2:List GraT) (v3:List AskT):List AV:= [Zae (i64 (Zgp v0)),Zae (i64 (Zdq v0)),Zae (i64 0),Zae (i64 0),Zae (i64 0),Zae (i64 0),Zae (i64 0),Zae (i64 0),Zae (i64 0),Zae (i64 0),Zae (i64 0),Zae (i64 0),Zae (Zan 4 (rowsU v1)),Zae (Zan 5 (rowsG v2)),Zae (Zan 3 (rowsA v3)),Zae (Zde (.slice none 0 0)),Zae (bo false),Zae (Zde (.slice none 0 0)),Zae (Zde (.slice none 0 0)),Zae (Zde (.slice none 0 0)),Zae (i64 0),Zae (i64 0),Zae (u64 0),Zae (i64 0),Zae (i64 0),Zae (i64 0),Zae (i64 0),Zae (i64 0),Zae (Zde (.slice none 0 0)),Zae (Zde (.slice none 0 0)),Zae (bo false)]
abbrev Qz24 (v0:LayT) (v1:TabT) (v2:Int) (v3:Int) (v4:NearT):= [Blk.mk (Qz3 v0) false false 0,Blk.mk (Qz1 v1) false false 0,Blk.mk [Zae (i64 (Zeg v0)),Zae (i64 (Zcw v0)),Zae (i64 v2),Zae (Zde (.slice none 0 0)),Zae (i64 v3)] false false 0,nearB v4]
abbrev Qz27 (v0:NearT) (v1:List UseT) (v2:List GraT) (v3:List AskT):List AV:= [Zae (i64 (Zdq v0)),Zae (i64 0),Zae (i64 0),Zae (i64 0),Zae (i64 0),Zae (i64 0),Zae (i64 0),Zae (i64 0),Zae (i64 0),Zae (i64 0),Zae (i64 0),Zae (Zan 4 (rowsU v1)),Zae (Zan 5 (rowsG v2)),Zae (Zan 3 (rowsA v3)),Zae (Zde (.slice none 0 0)),Zae (bo false),Zae (Zde (.slice none 0 0)),Zae (Zde (.slice none 0 0)),Zae (Zde (.slice none 0 0)),Zae (i64 0),Zae (i64 0),Zae (u64 0),Zae (i64 0),Zae (i64 0),Zae (i64 0),Zae (i64 0),Zae (i64 0),Zae (Zde (.slice none 0 0)),Zae (Zde (.slice none 0 0)),Zae (bo false)]
abbrev Qz36 (v0:LayT) (v1:TabT) (v2:Int) (v3:Int):= [Blk.mk (Qz3 v0) false false 0,Blk.mk (Qz1 v1) false false 0,Blk.mk [Zae (i64 (Zeg v0)),Zae (i64 (Zcw v0)),Zae (i64 v2),Zae (Zde (.slice none 0 0)),Zae (i64 v3)] false false 0]
theorem rNs0 (ly:LayT) (t:TabT) (l:List NearT) (me fr i:Int):wpc prog ⟨TNs,UNs,wl,y,false⟩ 100 lpNs (tmNs l me fr i) [layF ly false,tabB t,sideB ly me fr (.d (.s (.slice none 0 0)))] b (maskT [2,3,4,5,10,11,12,39,40,41] K)=(BIf (decide (i<((Zaa l:Nat):Int))) (BIf (true&&decide (0≤i)) (∃(n0:NearT),(rowsN l)[Zao i]? =some (nearR n0)∧∃(n3:Int) (h4:Int) (z5:Bool), [Zae (i64 (Zdq n0)),Zae (i64 (Zad .i64 (Zeg ly - (1:Int))))]= [Zae (i64 n3),Zae (i64 h4)]∧z5=inN n3 h4∧BIf (!z5) (K .ret (Zac::Zac::Zae (i64 me)::Zae (Zan 31 (rowsN l))::Zae (i64 fr)::Zai 0 0::bds 4 (Zae (Zde (Zch none))::Zae (bo false)::Zai 2 0::bds 26 (Zae (Zan 31 (rowsN l))::Zae (i64 ((Zaa l:Nat):Int))::Zae (i64 i)::bds 75 []))) (Qz24 ly t me fr n0) b) (BIf (Zdq n0==me) (K .ret (Zac::Zac::Zae (i64 me)::Zae (Zan 31 (rowsN l))::Zae (i64 fr)::Zai 0 0::bds 4 (Zae (Zde (Zch none))::Zae (bo false)::Zai 2 0::bds 26 (Zae (Zan 31 (rowsN l))::Zae (i64 ((Zaa l:Nat):Int))::Zae (i64 i)::bds 75 []))) (Qz24 ly t me fr n0) b) (BIf (decide (i>(0:Int))) (BIf (true&&decide ((0:Int)≤Zad .i64 (i - 1))) (∃(n6:NearT),(rowsN l)[Zao (Zad .i64 (i - 1))]? =some (nearR n6)∧BIf (decide (Zdq n0≤Zdq n6)) (K .ret (Zac::Zac::Zae (i64 me)::Zae (Zan 31 (rowsN l))::Zae (i64 fr)::Zai 0 0::bds 4 (Zae (Zde (Zch none))::Zae (bo false)::Zai 2 0::bds 26 (Zae (Zan 31 (rowsN l))::Zae (i64 ((Zaa l:Nat):Int))::Zae (i64 i)::bds 75 []))) (Qz24 ly t me fr n0) b) (∃(n9:Int) (h10:Int) (z11:Bool), [Zae (i64 (Zgp n0)),Zae (i64 fr)]= [Zae (i64 n9),Zae (i64 h10)]∧z11=inN n9 h10∧BIf (!z11) (K .ret (Zac::Zac::Zae (i64 me)::Zae (Zan 31 (rowsN l))::Zae (i64 fr)::Zai 0 0::bds 4 (Zae (Zde (Zch none))::Zae (bo false)::Zai 2 0::bds 26 (Zae (Zan 31 (rowsN l))::Zae (i64 ((Zaa l:Nat):Int))::Zae (i64 i)::bds 75 []))) (Qz24 ly t me fr n0) b) (∃(l12:List UseT) (ly13:LayT) (q14:List UseT), [Zae (Zan 4 (rowsU (Zbl n0))),Zaw (Fn.func 75) [] (Qz12 ly)]= [Zae (Zan 4 (rowsU l12)),Zaw (Fn.func 75) [] (Qz12 ly13)]∧(Zaa l12<1000000∧q14=Zcl (fun (x15:UseT)=>useIs x15 ly13) l12)∧∃(l16:List GraT) (ly17:LayT) (q18:List GraT), [Zae (Zan 5 (rowsG (Zbk n0))),Zaw (Fn.func 78) [] (Qz12 ly)]= [Zae (Zan 5 (rowsG l16)),Zaw (Fn.func 78) [] (Qz12 ly17)]∧(Zaa l16<1000000∧q18=Zcl (fun (x19:GraT)=>graIs x19 ly17) l16)∧∃(l20:List AskT) (ly21:LayT) (q22:List AskT), [Zae (Zan 3 (rowsA (Zbw n0))),Zaw (Fn.func 80) [] (Qz12 ly)]= [Zae (Zan 3 (rowsA l20)),Zaw (Fn.func 80) [] (Qz12 ly21)]∧(Zaa l20<1000000∧q22=Zcl (fun (x23:AskT)=>ABs9 (Zcs x23) (AskT.of x23) (Zge x23) ly21) l20)∧1*392≤140737488355328∧K .normal (Zac::Zac::Zae (i64 me)::Zae (Zan 31 (rowsN l))::Zae (i64 fr)::Zai 0 0::bds 4 (Zae (Zde (Zch none))::Zae (bo false)::Zai 2 0::bds 26 (Zae (Zan 31 (rowsN l))::Zae (i64 ((Zaa l:Nat):Int))::Zae (i64 (Zad .i64 (i+1)))::bds 75 []))) [Blk.mk (Qz3 ly) true false 0,Blk.mk (Qz1 t) false false 0,Blk.mk [Zae (i64 (Zeg ly)),Zae (i64 (Zcw ly)),Zae (i64 me),Zbj 5 0 1 31,Zae (i64 fr)] false false 0,nearB n0,Blk.mk (Qz27 n0 q14 q18 q22) false false 0,Blk.mk (Qz6 n0 q14 q18 q22) false true 0] b))) False) (∃(n24:Int) (h25:Int) (z26:Bool), [Zae (i64 (Zgp n0)),Zae (i64 fr)]= [Zae (i64 n24),Zae (i64 h25)]∧z26=inN n24 h25∧BIf (!z26) (K .ret (Zac::Zac::Zae (i64 me)::Zae (Zan 31 (rowsN l))::Zae (i64 fr)::Zai 0 0::bds 4 (Zae (Zde (Zch none))::Zae (bo false)::Zai 2 0::bds 26 (Zae (Zan 31 (rowsN l))::Zae (i64 ((Zaa l:Nat):Int))::Zae (i64 i)::bds 75 []))) (Qz24 ly t me fr n0) b) (∃(l27:List UseT) (ly28:LayT) (q29:List UseT), [Zae (Zan 4 (rowsU (Zbl n0))),Zaw (Fn.func 75) [] (Qz12 ly)]= [Zae (Zan 4 (rowsU l27)),Zaw (Fn.func 75) [] (Qz12 ly28)]∧(Zaa l27<1000000∧q29=Zcl (fun (x30:UseT)=>useIs x30 ly28) l27)∧∃(l31:List GraT) (ly32:LayT) (q33:List GraT), [Zae (Zan 5 (rowsG (Zbk n0))),Zaw (Fn.func 78) [] (Qz12 ly)]= [Zae (Zan 5 (rowsG l31)),Zaw (Fn.func 78) [] (Qz12 ly32)]∧(Zaa l31<1000000∧q33=Zcl (fun (x34:GraT)=>graIs x34 ly32) l31)∧∃(l35:List AskT) (ly36:LayT) (q37:List AskT), [Zae (Zan 3 (rowsA (Zbw n0))),Zaw (Fn.func 80) [] (Qz12 ly)]= [Zae (Zan 3 (rowsA l35)),Zaw (Fn.func 80) [] (Qz12 ly36)]∧(Zaa l35<1000000∧q37=Zcl (fun (x38:AskT)=>ABs9 (Zcs x38) (AskT.of x38) (Zge x38) ly36) l35)∧1*392≤140737488355328∧K .normal (Zac::Zac::Zae (i64 me)::Zae (Zan 31 (rowsN l))::Zae (i64 fr)::Zai 0 0::bds 4 (Zae (Zde (Zch none))::Zae (bo false)::Zai 2 0::bds 26 (Zae (Zan 31 (rowsN l))::Zae (i64 ((Zaa l:Nat):Int))::Zae (i64 (Zad .i64 (i+1)))::bds 75 []))) [Blk.mk (Qz3 ly) true false 0,Blk.mk (Qz1 t) false false 0,Blk.mk [Zae (i64 (Zeg ly)),Zae (i64 (Zcw ly)),Zae (i64 me),Zbj 5 0 1 31,Zae (i64 fr)] false false 0,nearB n0,Blk.mk (Qz27 n0 q29 q33 q37) false false 0,Blk.mk (Qz6 n0 q29 q33 q37) false true 0] b))))) False) (K (Zbs 0) (Zac::Zac::Zae (i64 me)::Zae (Zan 31 (rowsN l))::Zae (i64 fr)::Zai 0 0::bds 4 (Zae (Zde (Zch none))::Zae (bo false)::Zai 2 0::bds 26 (Zae (Zan 31 (rowsN l))::Zae (i64 ((Zaa l:Nat):Int))::Zae (i64 i)::bds 75 []))) (Qz36 ly t me fr) b)):=by kernel_rfl
abbrev Qz21 (v0:LayT) (v1:Int) (v2:Nat) (v3:Nat) (v4:Int):List AV:= [Zae (i64 (Zeg v0)),Zae (i64 (Zcw v0)),Zae (i64 v1),Zbj 5 v2 v3 31,Zae (i64 v4)]
abbrev Qz43 (v0:LayT) (v1:Int) (v2:Nat) (v3:Nat) (v4:Int):List AV:= [Zae (i64 (Zeg v0)),Zae (i64 (Zcw v0)),Zae (i64 v1),Zbj 5 (v2+1) (v3+1) 31,Zae (i64 v4)]
theorem rNs (ly:LayT) (t:TabT) (l:List NearT) (me fr i:Int) (v n:Nat) (c3 c4 cs:List AV):wpc prog ⟨TNs,UNs,wl,y,false⟩ 100 lpNs (tmNs l me fr i) [layF ly true,tabB t,sideB ly me fr (.gref 5 v n 31),junkB c3,junkB c4,growB v cs] b (maskK 6 [2,3,4,5,10,11,12,39,40,41] K)=(BIf (decide (i<((Zaa l:Nat):Int))) (BIf (true&&decide (0≤i)) (∃(n0:NearT),(rowsN l)[Zao i]? =some (nearR n0)∧∃(n3:Int) (h4:Int) (z5:Bool), [Zae (i64 (Zdq n0)),Zae (i64 (Zad .i64 (Zeg ly - (1:Int))))]= [Zae (i64 n3),Zae (i64 h4)]∧z5=inN n3 h4∧BIf (!z5) (BIf (Zbm [Blk.mk (Qz3 ly) true false 0,Blk.mk (Qz1 t) false false 0,Blk.mk (Qz21 ly me v n fr) false false 0,Blk.mk c3 false false 0,Blk.mk c4 false false 0,Blk.mk cs false true v] fun (blk6:Blk)=>lows 6 blk6.1) (K .ret (Zac::Zac::Zae (i64 me)::Zae (Zan 31 (rowsN l))::Zae (i64 fr)::Zai 0 0::bds 4 (Zae (Zde (Zch none))::Zae (bo false)::Zai 2 0::bds 26 (Zae (Zan 31 (rowsN l))::Zae (i64 ((Zaa l:Nat):Int))::Zae (i64 i)::bds 75 []))) [Blk.mk (Qz3 ly) true false 0,Blk.mk (Qz1 t) false false 0,Blk.mk (Qz21 ly me v n fr) false false 0,Blk.mk c3 false false 0,Blk.mk c4 false false 0,Blk.mk cs false true v] b) False) (BIf (Zdq n0==me) (BIf (Zbm [Blk.mk (Qz3 ly) true false 0,Blk.mk (Qz1 t) false false 0,Blk.mk (Qz21 ly me v n fr) false false 0,Blk.mk c3 false false 0,Blk.mk c4 false false 0,Blk.mk cs false true v] fun (blk7:Blk)=>lows 6 blk7.1) (K .ret (Zac::Zac::Zae (i64 me)::Zae (Zan 31 (rowsN l))::Zae (i64 fr)::Zai 0 0::bds 4 (Zae (Zde (Zch none))::Zae (bo false)::Zai 2 0::bds 26 (Zae (Zan 31 (rowsN l))::Zae (i64 ((Zaa l:Nat):Int))::Zae (i64 i)::bds 75 []))) [Blk.mk (Qz3 ly) true false 0,Blk.mk (Qz1 t) false false 0,Blk.mk (Qz21 ly me v n fr) false false 0,Blk.mk c3 false false 0,Blk.mk c4 false false 0,Blk.mk cs false true v] b) False) (BIf (decide (i>(0:Int))) (BIf (true&&decide ((0:Int)≤Zad .i64 (i - 1))) (∃(n8:NearT),(rowsN l)[Zao (Zad .i64 (i - 1))]? =some (nearR n8)∧BIf (decide (Zdq n0≤Zdq n8)) (BIf (Zbm [Blk.mk (Qz3 ly) true false 0,Blk.mk (Qz1 t) false false 0,Blk.mk (Qz21 ly me v n fr) false false 0,Blk.mk c3 false false 0,Blk.mk c4 false false 0,Blk.mk cs false true v] fun (blk11:Blk)=>lows 6 blk11.1) (K .ret (Zac::Zac::Zae (i64 me)::Zae (Zan 31 (rowsN l))::Zae (i64 fr)::Zai 0 0::bds 4 (Zae (Zde (Zch none))::Zae (bo false)::Zai 2 0::bds 26 (Zae (Zan 31 (rowsN l))::Zae (i64 ((Zaa l:Nat):Int))::Zae (i64 i)::bds 75 []))) [Blk.mk (Qz3 ly) true false 0,Blk.mk (Qz1 t) false false 0,Blk.mk (Qz21 ly me v n fr) false false 0,Blk.mk c3 false false 0,Blk.mk c4 false false 0,Blk.mk cs false true v] b) False) (∃(n12:Int) (h13:Int) (z14:Bool), [Zae (i64 (Zgp n0)),Zae (i64 fr)]= [Zae (i64 n12),Zae (i64 h13)]∧z14=inN n12 h13∧BIf (!z14) (BIf (Zbm [Blk.mk (Qz3 ly) true false 0,Blk.mk (Qz1 t) false false 0,Blk.mk (Qz21 ly me v n fr) false false 0,Blk.mk c3 false false 0,Blk.mk c4 false false 0,Blk.mk cs false true v] fun (blk15:Blk)=>lows 6 blk15.1) (K .ret (Zac::Zac::Zae (i64 me)::Zae (Zan 31 (rowsN l))::Zae (i64 fr)::Zai 0 0::bds 4 (Zae (Zde (Zch none))::Zae (bo false)::Zai 2 0::bds 26 (Zae (Zan 31 (rowsN l))::Zae (i64 ((Zaa l:Nat):Int))::Zae (i64 i)::bds 75 []))) [Blk.mk (Qz3 ly) true false 0,Blk.mk (Qz1 t) false false 0,Blk.mk (Qz21 ly me v n fr) false false 0,Blk.mk c3 false false 0,Blk.mk c4 false false 0,Blk.mk cs false true v] b) False) (∃(l16:List UseT) (ly17:LayT) (q18:List UseT), [Zae (Zan 4 (rowsU (Zbl n0))),Zaw (Fn.func 75) [] (Qz12 ly)]= [Zae (Zan 4 (rowsU l16)),Zaw (Fn.func 75) [] (Qz12 ly17)]∧(Zaa l16<1000000∧q18=Zcl (fun (x19:UseT)=>useIs x19 ly17) l16)∧∃(l20:List GraT) (ly21:LayT) (q22:List GraT), [Zae (Zan 5 (rowsG (Zbk n0))),Zaw (Fn.func 78) [] (Qz12 ly)]= [Zae (Zan 5 (rowsG l20)),Zaw (Fn.func 78) [] (Qz12 ly21)]∧(Zaa l20<1000000∧q22=Zcl (fun (x23:GraT)=>graIs x23 ly21) l20)∧∃(l24:List AskT) (ly25:LayT) (q26:List AskT), [Zae (Zan 3 (rowsA (Zbw n0))),Zaw (Fn.func 80) [] (Qz12 ly)]= [Zae (Zan 3 (rowsA l24)),Zaw (Fn.func 80) [] (Qz12 ly25)]∧(Zaa l24<1000000∧q26=Zcl (fun (x27:AskT)=>ABs9 (Zcs x27) (AskT.of x27) (Zge x27) ly25) l24)∧v=v∧(n+1)*392≤140737488355328∧BIf (Zbm [Blk.mk (Qz3 ly) true false 0,Blk.mk (Qz1 t) false false 0,Blk.mk (Qz43 ly me v n fr) false false 0,Blk.mk c3 false false 0,Blk.mk c4 false false 0,Blk.mk (cs++(Qz6 n0 q18 q22 q26)) false true (v+1)] fun (blk28:Blk)=>lows 6 blk28.1) (K .normal (Zac::Zac::Zae (i64 me)::Zae (Zan 31 (rowsN l))::Zae (i64 fr)::Zai 0 0::bds 4 (Zae (Zde (Zch none))::Zae (bo false)::Zai 2 0::bds 26 (Zae (Zan 31 (rowsN l))::Zae (i64 ((Zaa l:Nat):Int))::Zae (i64 (Zad .i64 (i+1)))::bds 75 []))) [Blk.mk (Qz3 ly) true false 0,Blk.mk (Qz1 t) false false 0,Blk.mk (Qz43 ly me v n fr) false false 0,Blk.mk c3 false false 0,Blk.mk c4 false false 0,Blk.mk (cs++(Qz6 n0 q18 q22 q26)) false true (v+1)] b) False))) False) (∃(n29:Int) (h30:Int) (z31:Bool), [Zae (i64 (Zgp n0)),Zae (i64 fr)]= [Zae (i64 n29),Zae (i64 h30)]∧z31=inN n29 h30∧BIf (!z31) (BIf (Zbm [Blk.mk (Qz3 ly) true false 0,Blk.mk (Qz1 t) false false 0,Blk.mk (Qz21 ly me v n fr) false false 0,Blk.mk c3 false false 0,Blk.mk c4 false false 0,Blk.mk cs false true v] fun (blk32:Blk)=>lows 6 blk32.1) (K .ret (Zac::Zac::Zae (i64 me)::Zae (Zan 31 (rowsN l))::Zae (i64 fr)::Zai 0 0::bds 4 (Zae (Zde (Zch none))::Zae (bo false)::Zai 2 0::bds 26 (Zae (Zan 31 (rowsN l))::Zae (i64 ((Zaa l:Nat):Int))::Zae (i64 i)::bds 75 []))) [Blk.mk (Qz3 ly) true false 0,Blk.mk (Qz1 t) false false 0,Blk.mk (Qz21 ly me v n fr) false false 0,Blk.mk c3 false false 0,Blk.mk c4 false false 0,Blk.mk cs false true v] b) False) (∃(l33:List UseT) (ly34:LayT) (q35:List UseT), [Zae (Zan 4 (rowsU (Zbl n0))),Zaw (Fn.func 75) [] (Qz12 ly)]= [Zae (Zan 4 (rowsU l33)),Zaw (Fn.func 75) [] (Qz12 ly34)]∧(Zaa l33<1000000∧q35=Zcl (fun (x36:UseT)=>useIs x36 ly34) l33)∧∃(l37:List GraT) (ly38:LayT) (q39:List GraT), [Zae (Zan 5 (rowsG (Zbk n0))),Zaw (Fn.func 78) [] (Qz12 ly)]= [Zae (Zan 5 (rowsG l37)),Zaw (Fn.func 78) [] (Qz12 ly38)]∧(Zaa l37<1000000∧q39=Zcl (fun (x40:GraT)=>graIs x40 ly38) l37)∧∃(l41:List AskT) (ly42:LayT) (q43:List AskT), [Zae (Zan 3 (rowsA (Zbw n0))),Zaw (Fn.func 80) [] (Qz12 ly)]= [Zae (Zan 3 (rowsA l41)),Zaw (Fn.func 80) [] (Qz12 ly42)]∧(Zaa l41<1000000∧q43=Zcl (fun (x44:AskT)=>ABs9 (Zcs x44) (AskT.of x44) (Zge x44) ly42) l41)∧v=v∧(n+1)*392≤140737488355328∧BIf (Zbm [Blk.mk (Qz3 ly) true false 0,Blk.mk (Qz1 t) false false 0,Blk.mk (Qz43 ly me v n fr) false false 0,Blk.mk c3 false false 0,Blk.mk c4 false false 0,Blk.mk (cs++(Qz6 n0 q35 q39 q43)) false true (v+1)] fun (blk45:Blk)=>lows 6 blk45.1) (K .normal (Zac::Zac::Zae (i64 me)::Zae (Zan 31 (rowsN l))::Zae (i64 fr)::Zai 0 0::bds 4 (Zae (Zde (Zch none))::Zae (bo false)::Zai 2 0::bds 26 (Zae (Zan 31 (rowsN l))::Zae (i64 ((Zaa l:Nat):Int))::Zae (i64 (Zad .i64 (i+1)))::bds 75 []))) [Blk.mk (Qz3 ly) true false 0,Blk.mk (Qz1 t) false false 0,Blk.mk (Qz43 ly me v n fr) false false 0,Blk.mk c3 false false 0,Blk.mk c4 false false 0,Blk.mk (cs++(Qz6 n0 q35 q39 q43)) false true (v+1)] b) False))))) False) (BIf (Zbm [Blk.mk (Qz3 ly) true false 0,Blk.mk (Qz1 t) false false 0,Blk.mk (Qz21 ly me v n fr) false false 0,Blk.mk c3 false false 0,Blk.mk c4 false false 0,Blk.mk cs false true v] fun (blk46:Blk)=>lows 6 blk46.1) (K (Zbs 0) (Zac::Zac::Zae (i64 me)::Zae (Zan 31 (rowsN l))::Zae (i64 fr)::Zai 0 0::bds 4 (Zae (Zde (Zch none))::Zae (bo false)::Zai 2 0::bds 26 (Zae (Zan 31 (rowsN l))::Zae (i64 ((Zaa l:Nat):Int))::Zae (i64 i)::bds 75 []))) [Blk.mk (Qz3 ly) true false 0,Blk.mk (Qz1 t) false false 0,Blk.mk (Qz21 ly me v n fr) false false 0,Blk.mk c3 false false 0,Blk.mk c4 false false 0,Blk.mk cs false true v] b) False)):=by kernel_rfl
def fTab (ly:LayT) (n:NearT):TabT:=⟨n.us.filter (fun x:UseT=>useIs x ly),n.gs.filter (fun x:GraT=>graIs x ly),n.ak.filter (fun x:AskT=>ABs9 x.sl x.of x.pe ly)⟩
def filN (ly:LayT) (n:NearT):NearT:=toldN n.fm (fTab ly n) n.fr
def ALx9 (ly:LayT) (n:NearT):List Dv:=APt9 n.fm (fTab ly n) n.fr
def AFc9 (x:NearT):Prop:=x.us.length<1000000∧x.gs.length<1000000∧x.ak.length<1000000
theorem WR.scanG {α:Type} {P:Program} {Ev:Env P} {X:CX Ev.β} {lp:Code} {b:Ev.β} {Q:Exit→St Ev.β→Prop} {k L:Nat} (keep:List Nat) (hm:P.follows .mixedOrders=true) (hX:X.Ok) (xs:List α) (p:α→Bool) (tmOf:Nat→List AV) (hpOf:Nat→List Blk) (hL:∀i,(hpOf i).length=L) (id:Nat) (s:Nat)
 (hr:∀(i:Nat) (x:α),s≤i→i<xs.length→xs[i]? =some x→∀K:Exit→List AV→List Blk→Ev.β→Prop,(p x=true→K .ret (tmOf i) (hpOf i) b)→(p x=false→K .normal (tmOf (i+1)) (hpOf (i+1)) b)→wpc P X k lp (tmOf i) (hpOf i) b (maskK L keep K))
 (he:∀K:Exit→List AV→List Blk→Ev.β→Prop,K (.exit id) (tmOf xs.length) (hpOf xs.length) b→wpc P X k lp (tmOf xs.length) (hpOf xs.length) b (maskK L keep K))
 (h1:(xs.drop s).any p=false→Q (.exit id) ⟨tmOf xs.length,hpOf xs.length,b⟩) (h2:(xs.drop s).any p=true→∀i,Q .ret ⟨tmOf i,hpOf i,b⟩):
 ∀(m i:Nat),i+m=xs.length→s≤i→((xs.drop s).any p=(xs.drop i).any p)→WR Ev lp (m+1) ⟨tmOf i,hpOf i,b⟩ Q
 | 0,i,hi,hs,hj=>by
  have e:i=xs.length:=by omega
  subst e;refine Zdn keep hm hX (k:=k) (by rw [hL];exact he _ (h1 (by rw [hj,List.drop_length];rfl)))
 | m+1,i,hi,hs,hj=>by
  have hlt:i<xs.length:=by omega
  have hx:xs[i]? =some xs[i]:=Zaz hlt;have hd:xs.drop i=xs[i]::xs.drop (i+1):=List.drop_eq_getElem_cons hlt;refine Zdn keep hm hX (k:=k) (by
   rw [hL];refine hr i xs[i] hs hlt hx _ (fun hp=>h2 (by rw [hj,hd,List.any_cons,hp];rfl) i) fun hp=> ?_;exact WR.scanG keep hm hX xs p tmOf hpOf hL id s hr he h1 h2 m (i+1) (by omega) (by omega) (by rw [hj,hd,List.any_cons,hp];rfl))
theorem BEq9 (xs:List (List Dv)) (r:List Dv):flatA (xs++ [r])=flatA xs++r.map .d:=by simp [flatA]
def nsB (ly:LayT) (t:TabT) (l:List NearT) (me fr:Int) (c3 c4:List AV) (i:Nat):List Blk:= [layF ly true,tabB t,sideB ly me fr (.gref 5 (i - 1) i 31),junkB c3,junkB c4,growB (i - 1) (flatA ((l.take i).map (ALx9 ly)))]
theorem CEp9 {ly:LayT} {t:TabT} {l:List NearT} {me fr:Int} {c3 c4:List AV} (h3:lows 6 c3=true) (h4:lows 6 c4=true) (i:Nat):Zbm (nsB ly t l me fr c3 c4 i) (fun blk=>lows 6 blk.1)=true:=by
 simp only [nsB,List.all_cons,List.all_nil,Zgd,Zaj];exact ⟨rfl,rfl,rfl,h3,h4,ACt9 6 _⟩
theorem BOg9 {ly:LayT} (h:1≤ly.no∧ly.no≤1000000) (n:Int):inN n (Zad Zbb (ly.no - 1))= !(decide (n<0)||decide (n≥ly.no)):=by
 rw [AAz9 (by omega) (by omega),inN];by_cases h1:n<0
 ·simp [h1];omega
 ·by_cases h2:n≥ly.no
  ·simp [h1,h2];omega
  ·simp [h1,h2];omega
theorem CAy9 (n fr:Int):inN n fr= !(decide (n<0)||decide (n>fr)):=by
 rw [inN];by_cases h1:n<0
 ·simp [h1];omega
 ·by_cases h2:n>fr
  ·simp [h1,h2]
  ·simp [h1,h2];omega
theorem wrNs1 {Ev:Env prog} {b:Ev.β} {Q:Exit→St Ev.β→Prop} (ly:LayT) (t:TabT) (l:List NearT) (me fr:Int) (c3 c4:List AV) (hc3:lows 6 c3=true) (hc4:lows 6 c4=true) (hno:1≤ly.no∧ly.no≤1000000) (hl:l.length<1000000) (hx:∀x∈l,AFc9 x)
 (h1:((AAf9 none l).drop 1).any (badN ly me fr)=false→Q (.exit 0) ⟨tmNs l me fr l.length,nsB ly t l me fr c3 c4 l.length,b⟩) (h2:((AAf9 none l).drop 1).any (badN ly me fr)=true→∀(i:Nat),Q .ret ⟨tmNs l me fr i,nsB ly t l me fr c3 c4 i,b⟩) (m:Nat) (hm:1+m=l.length):
 WR Ev lpNs (m+1) ⟨tmNs l me fr (1:Nat),nsB ly t l me fr c3 c4 1,b⟩ Q:=by
 have e:=ADv9 l none;have low:=fun i=>CEp9 (ly:=ly) (t:=t) (l:=l) (me:=me) (fr:=fr) hc3 hc4 i;refine WR.scanG (X:=⟨TNs,UNs,wlW Ev,Ev.Y,false⟩) (k:=100) (L:=6) [2,3,4,5,10,11,12,39,40,41] mixed (CX.Ok.of CCy9 CCr9) (AAf9 none l) (badN ly me fr) (fun i=>tmNs l me fr (i:Nat)) (fun i=>nsB ly t l me fr c3 c4 i) (fun i=>rfl) 0 1 (fun i p hs hi hp K k1 k2=> ?_) (fun K k1=> ?_) (fun h=>by simp only [e];exact h1 h) (fun h i=>h2 h i) m 1 (by rw [e];exact hm) (Zav _) rfl
 ·obtain ⟨g1,g2,g3⟩:=AEq9 l none i p hp;obtain ⟨o,x⟩:=p;simp only at g1 g2 g3;have hxl:AFc9 x:=hx x (List.mem_of_getElem? g1);obtain ⟨j,rfl⟩:∃j,i=j+1:=⟨i - 1,by omega⟩;obtain ⟨w,hw,hj⟩:=g3 j rfl;refine Eq.mpr (rNs _ _ _ K ly t l me fr ((j+1:Nat):Int) j (j+1) c3 c4 _) ?_;refine Zba (by simp;omega) (Zba (natI _) ⟨_,ACk9 g1, ?_⟩);refine ⟨_,_,_,rfl,rfl, ?_⟩;rw [BOg9 hno,Zfp];refine Zbe (fun c1=>Zba (low (j+1)) (k1 (by rw [badN,←Bool.or_assoc];simp only [c1,Zet]))) fun c1=>Zbe (fun c2=>Zba (low (j+1)) (k1 (by rw [badN];simp only [show (x.fm==me)=true from c2,Zet,Zej]))) fun c2=>Zba (by simp) ?_;rw [show Zad Zbb (((j+1:Nat):Int) - 1)=((j:Nat):Int) by rw [AAz9 (by omega) (by omega)];omega];refine Zba (natI j) ⟨_,ACk9 hj,Zbe (fun c3=>Zba (low (j+1)) (k1 ?_)) fun c3=>⟨_,_,_,rfl,rfl, ?_⟩⟩
  ·have hpv:AVm9 o x.fm=true:=by rw [hw];exact c3
   rw [badN];simp only [hpv,Zej]
  ·rw [CAy9,Zfp];refine Zbe (fun c4=>Zba (low (j+1)) (k1 ?_)) fun c4=> ?_
   ·rcases (Zeq ..).mp c4 with c4|c4<;> · rw [badN];simp only [c4,Zet,Zej]
   ·have hpv:AVm9 o x.fm=false:=by rw [hw];exact c3
    have hb:badN ly me fr (o,x)=false:=by
     rw [Bool.or_eq_false_iff] at c1 c4;rw [badN,c1.1,c1.2,show (x.fm==me)=false from c2,c4.1,c4.2,hpv];rfl
    have hk:=k2 hb;have htk:(l.take (j+1+1)).map (ALx9 ly)=(l.take (j+1)).map (ALx9 ly)++ [ALx9 ly x]:=by
     rw [Zel,g1];simp
    have hl2:=low (j+1+1);simp only [nsB,htk,BEq9] at hk hl2;refine ⟨x.us,ly,_,rfl,⟨hxl.1,rfl⟩,x.gs,ly,_,rfl,⟨hxl.2.1,rfl⟩,x.ak,ly,_,rfl,⟨hxl.2.2,rfl⟩,rfl,by omega,Zba hl2 ?_⟩;rw [wrapN (by omega)];exact hk
 ·simp only [e] at k1 ⊢;refine Eq.mpr (rNs _ _ _ K ly t l me fr l.length (l.length - 1) l.length c3 c4 _) ?_;exact Zdd (by simp) (Zba (low l.length) k1)
def nsB0 (ly:LayT) (t:TabT) (me fr:Int):List Blk:= [layF ly false,tabB t,sideB ly me fr (.d (.s (.slice none 0 0)))]
theorem wrNs {Ev:Env prog} {b:Ev.β} {Q:Exit→St Ev.β→Prop} (ly:LayT) (t:TabT) (l:List NearT) (me fr:Int) (hno:1≤ly.no∧ly.no≤1000000) (hl:l.length<1000000) (hx:∀x∈l,AFc9 x)
 (h0:l= []→Q (.exit 0) ⟨tmNs l me fr l.length,nsB0 ly t me fr,b⟩) (h1:l≠ []→(AAf9 none l).any (badN ly me fr)=false→∀c3 c4,Q (.exit 0) ⟨tmNs l me fr l.length,nsB ly t l me fr c3 c4 l.length,b⟩) (h2:(AAf9 none l).any (badN ly me fr)=true→∀(i:Nat) (hp:List Blk),Q .ret ⟨tmNs l me fr i,hp,b⟩):
 WR Ev lpNs (l.length+1) ⟨tmNs l me fr (0:Nat),nsB0 ly t me fr,b⟩ Q:=by
 refine WR.ofMaskT (X:=⟨TNs,UNs,wlW Ev,Ev.Y,false⟩) (k:=100) [2,3,4,5,10,11,12,39,40,41] mixed (CX.Ok.of CCy9 CCr9) ?_;refine Eq.mpr (rNs0 _ _ _ _ ly t l me fr ((0:Nat):Int)) ?_;cases l with
 |nil=>exact Zdd (by simp) (h0 rfl)
 | cons x r=>
  have hxl:AFc9 x:=hx x (Zcb ..);have g1:(x::r)[0]? =some x:=rfl;have hwp:AAf9 none (x::r)=(none,x)::AAf9 (some x) r:=rfl;refine Zba (by simp) (Zba (natI 0) ⟨_,ACk9 g1, ?_⟩);refine ⟨_,_,_,rfl,rfl, ?_⟩;rw [BOg9 hno,Zfp];have bad:badN ly me fr (none,x)=true→∀(i:Nat) (hp:List Blk),Q .ret ⟨tmNs (x::r) me fr i,hp,b⟩:=fun h=>h2 (by rw [hwp,List.any_cons,h];rfl);refine Zbe (fun c1=>bad (by rw [badN,←Bool.or_assoc];simp only [c1,Zet]) 0 _) fun c1=>Zbe (fun c2=>bad (by rw [badN];simp only [show (x.fm==me)=true from c2,Zet,Zej]) 0 _) fun c2=>Zdd (by decide) ?_;refine ⟨_,_,_,rfl,rfl, ?_⟩;rw [CAy9,Zfp];refine Zbe (fun c4=>bad ?_ 0 _) fun c4=> ?_
  ·rcases (Zeq ..).mp c4 with c4|c4<;> · rw [badN];simp only [c4,Zet,Zej]
  ·have hb:badN ly me fr (none,x)=false:=by
    rw [Bool.or_eq_false_iff] at c1 c4;rw [badN,c1.1,c1.2,show (x.fm==me)=false from c2,c4.1,c4.2];rfl
   have hd:(AAf9 none (x::r)).drop 1=AAf9 (some x) r:=rfl;have hk:=fun c3 c4 h3 h4=>wrNs1 (Q:=Q) ly t (x::r) me fr c3 c4 h3 h4 hno hl hx (fun h=>h1 (by simp) (by rw [hwp,List.any_cons,hb];rw [hd] at h;exact h) c3 c4) (fun h i=>h2 (by rw [hwp,List.any_cons,hb];rw [hd] at h;exact h) i _) r.length (by simp;omega);refine ⟨x.us,ly,_,rfl,⟨hxl.1,rfl⟩,x.gs,ly,_,rfl,⟨hxl.2.1,rfl⟩,x.ak,ly,_,rfl,⟨hxl.2.2,rfl⟩,by decide, ?_⟩;rw [wrapN (by omega)];exact hk _ _ rfl rfl
def wlNs {β:Type}:WLT β:=fun cd tm hp b K=>∃(ly:LayT) (t:TabT) (l:List NearT) (me fr:Int) (q:Bool),cd= .loop lpNs∧ABc9 [2,3,4,5,10,11,12,39,40,41] 0 tm=tmNs l me fr 0∧hp=nsB0 ly t me fr∧
 ((1≤ly.no∧ly.no≤1000000)∧l.length<1000000∧(∀x∈l,AFc9 x)∧q=(AAf9 none l).any (badN ly me fr))∧
 BIf q (∀(i:Nat) (hp:List Blk),K .ret (tmNs l me fr i) hp b) (BIf l.isEmpty (K (.exit 0) (tmNs l me fr l.length) (nsB0 ly t me fr) b) (∀(c3 c4:List AV),K (.exit 0) (tmNs l me fr l.length) [layF ly true,tabB t,sideB ly me fr (.gref 5 (l.length - 1) l.length 31),junkB c3,junkB c4,growB (l.length - 1) (flatA (l.map (ALx9 ly)))] b))
theorem BXq9 {Ev:Env prog} (c:Code) (tm:List AV) (hp:List Blk) (b:Ev.β) (K:Exit→List AV→List Blk→Ev.β→Prop) (h:wlNs c tm hp b K):W Ev c ⟨tm,hp,b⟩ (fun e s=>K e s.tm s.hp s.b):=by
 obtain ⟨ly,t,l,me,fr,q,rfl,htm,rfl,⟨hno,hl,hx,hz⟩,hK⟩:=h;refine W.cast (htm▸AAd9 _ tm 0) (Zca _) ?_;refine W.rounds (wrNs (Q:=fun e s=>K e s.tm s.hp s.b) ly t l me fr hno hl hx (fun h=> ?_) (fun hne h c3 c4=> ?_) fun h=>by rw [hz,h] at hK;exact hK)
 ·subst h;rw [hz] at hK;exact hK
 ·rw [hz,h] at hK;cases l with
  |nil=>exact absurd rfl hne
  | cons x r=>
   have hK':=(show ∀(c3 c4:List AV),_ from hK) c3 c4;simp only [nsB,Zdh];exact hK'
def TNf:List (Nat×(List AV→(AV→Prop)→Prop)):= [(73,BMc9),(36,cIn)]
theorem CFp9:AAb9 prog TNf:=Zah APe9 (Zah BGe9 Zak)
abbrev Qz52:List AV:= [Zae (Zde (Zch none)),Zae (bo false)]
theorem ns_nf (ly:LayT) (t:TabT) (l:List NearT) (me fr:Int):wpFn prog ⟨TNf, [],wlNs,y,false⟩ 100 f35 [layA ly,tabA t, .d (i64 me), .d (.sl 31 (rowsN l)), .d (i64 fr)] b R=(∃(t0:TabT) (l1:LayT) (q2:Bool), [Zaq (Qz1 t),Zaq (Qz3 ly)]= [Zaq (Qz1 t0),Zaq (Qz3 l1)]∧((Zaa (Zbn t0)<10000∧Zaa (Zbo t0)<10000∧Zaa (Zbq t0)<10000)∧q2=ACp9 t0 l1)∧BIf (!q2) (R (.tup Qz52) b) (∃(n3:Int) (h4:Int) (z5:Bool), [Zae (i64 me),Zae (i64 (Zad .i64 (Zeg ly - (1:Int))))]= [Zae (i64 n3),Zae (i64 h4)]∧z5=inN n3 h4∧BIf (!z5) (R (.tup Qz52) b) (∃(n6:Int) (h7:Int) (z8:Bool), [Zae (i64 fr),Zae (i64 999999992)]= [Zae (i64 n6),Zae (i64 h7)]∧z8=inN n6 h7∧BIf (!z8) (R (.tup Qz52) b) (∃(ly9:LayT) (t10:TabT) (l11:List NearT) (me12:Int) (fr13:Int) (q14:Bool),Zay lpNs=Zay lpNs∧(Zac::Zac::Zae (i64 me)::Zae (Zan 31 (rowsN l))::Zae (i64 fr)::Zai 0 0::bds 4 (Zae (Zde (Zch none))::Zae (bo false)::Zai 2 0::bds 26 (Zae (Zan 31 (rowsN l))::Zae (i64 ((Zaa (rowsN l):Nat):Int))::Zae (i64 0)::bds 75 [])))=(Zac::Zac::Zae (i64 me12)::Zae (Zan 31 (rowsN l11))::Zae (i64 fr13)::Zai 0 0::bds 4 (Zae (Zde (Zch none))::Zae (bo false)::Zai 2 0::bds 26 (Zae (Zan 31 (rowsN l11))::Zae (i64 ((Zaa l11:Nat):Int))::Zae (i64 0)::bds 75 [])))∧(Qz36 ly t me fr)=(Qz36 ly9 t10 me12 fr13)∧(((1:Int)≤Zeg ly9∧Zeg ly9≤(1000000:Int))∧Zaa l11<1000000∧(∀(x:NearT),x∈l11→Zaa (Zbl x)<1000000∧Zaa (Zbk x)<1000000∧Zaa (Zbw x)<1000000)∧q14=Zdl (AAf9 none l11) (badN ly9 me12 fr13))∧BIf q14 (∀(i:Nat) (hp:List Blk),R (.tup Qz52) b) (BIf (Zfu l11) (R (.tup [Zaf [i64 (Zeg ly9),i64 (Zcw ly9),i64 me12,Zde (.slice none 0 0),i64 fr13],Zae (bo true)]) b) (∀(c3 c4:List AV),Zaa l11 - 1=Zaa l11 - 1∧∃(xs15:List (List Dv)),flatA (List.map (ALx9 ly9) l11)=flatA xs15∧Zaa xs15=Zaa l11∧(∀(r:List Dv),r∈xs15→Zaa r=31)∧R (.tup [Zaf [i64 (Zeg ly9),i64 (Zcw ly9),i64 me12,Zan 31 xs15,i64 fr13],Zae (bo true)]) b)))))):=by kernel_rfl
theorem SemV.tup2 {a a' b:AV} (h:SemV a a'):SemV (.tup [a,b]) (.tup [a',b]):=by
 intro S w m yv v hr;cases hr with
 | tup hl h0=>
  refine .tup hl fun i c v hc hv=> ?_
  match i,hc with
  |0,hc=>simp at hc;subst hc;exact h _ _ _ _ _ (h0 0 a v (by simp) hv)
  |1,hc=>exact h0 1 c v hc hv
theorem SemV.rptr {cs ds:List Dv} (hl:cs.length=ds.length) (h:∀(j:Nat) (c d:Dv),cs[j]? =some c→ds[j]? =some d→ASj9 c d∨∃k xs ys,c= .sl k xs∧d= .sl k ys∧AJs9 xs ys):SemV (.rptr cs) (.rptr ds):=by
 intro S w m yv v hr;cases hr with
 | rptr vals hne hsp hs hc hr h1=>
  have get:∀(j:Nat) (d:Dv),ds[j]? =some d→∃c,cs[j]? =some c:=fun j d hd=>by
   have:=(Zab.1 hd).1;exact ⟨cs[j]'(by omega),Zaz (by omega)⟩
  refine .rptr vals (fun e=>hne (List.length_eq_zero_iff.1 (by rw [hl,e];rfl))) hsp (fun j d hd=> ?_) (fun j d hd=> ?_) (fun j d hd=> ?_) (fun j d hd=> ?_);all_goals obtain ⟨c,hc0⟩:=get j d hd
  ·exact hs j c hc0
  ·exact hc j c hc0
  ·rcases h j c d hc0 hd with h2|⟨k,xs,ys,rfl,rfl,h2⟩
   ·exact h2.dr (hr j c hc0)
   ·exact h2.dr (hr j _ hc0)
  ·exact h1 j c hc0
def newS (ly:LayT) (t:TabT) (me:Int) (l:List NearT) (fr:Int):Bool:=ACp9 t ly&&(inN me (Zad Zbb (ly.no - 1))&&(inN fr 999999992&& !(AAf9 none l).any (badN ly me fr)))
def sideS (ly:LayT) (me:Int) (l:List NearT) (fr:Int):SideT:=⟨ly,me,l.map (filN ly),fr⟩
def nsA (q:Bool) (s:SideT):AV:= .tup [if q then .rptr (sideD s) else .d nilP, .d (bo q)]
theorem AVy9 (ly:LayT):∀l:List NearT,AJs9 (l.map (ALx9 ly)) (rowsN (l.map (filN ly)))
 | []=> .nil
 |n::r=> .cons (APs9 n.fm (fTab ly n) n.fr) (AVy9 ly r)
theorem BYl9 (ly:LayT) (me:Int) (l:List NearT) (fr:Int):SemV (.rptr [i64 ly.no,i64 ly.da,i64 me, .sl 31 (l.map (ALx9 ly)),i64 fr]) (.rptr (sideD (sideS ly me l fr))):=by
 refine SemV.rptr rfl fun j c d hc hd=> ?_
 match j,hc,hd with
 |0,hc,hd=>simp [sideD,sideS] at hc hd;subst hc;subst hd;exact .inl .rfl
 |1,hc,hd=>simp [sideD,sideS] at hc hd;subst hc;subst hd;exact .inl .rfl
 |2,hc,hd=>simp [sideD,sideS] at hc hd;subst hc;subst hd;exact .inl .rfl
 |3,hc,hd=>simp [sideD,sideS] at hc hd;subst hc;subst hd;exact .inr ⟨31,_,_,rfl,rfl,AVy9 ly l⟩
 |4,hc,hd=>simp [sideD,sideS] at hc hd;subst hc;subst hd;exact .inl .rfl
theorem BRl9 (ly:LayT) (me fr:Int):SemV (.rptr [i64 ly.no,i64 ly.da,i64 me,Zde (Zda none 0 0),i64 fr]) (.rptr (sideD (sideS ly me [] fr))):=by
 refine SemV.rptr rfl fun j c d hc hd=> ?_
 match j,hc,hd with
 |0,hc,hd=>simp [sideD,sideS] at hc hd;subst hc;subst hd;exact .inl .rfl
 |1,hc,hd=>simp [sideD,sideS] at hc hd;subst hc;subst hd;exact .inl .rfl
 |2,hc,hd=>simp [sideD,sideS] at hc hd;subst hc;subst hd;exact .inl .rfl
 |3,hc,hd=>simp [sideD,sideS,rowsN] at hc hd;subst hc;subst hd;exact .inl .nil
 |4,hc,hd=>simp [sideD,sideS] at hc hd;subst hc;subst hd;exact .inl .rfl
theorem BEt9 (ly:LayT) (l:List NearT):∀r∈l.map (ALx9 ly),r.length=31:=by
 intro r hr;simp only [Zbh] at hr;obtain ⟨x,_,rfl⟩:=hr;rfl
theorem ACe9 {t:TabT} {l:LayT} (h:ACp9 t l=true):(1≤l.no∧l.no≤60)∧(1≤l.da∧l.da≤60):=by
 unfold ACp9 at h;split at h<;>try (cases h;done)
 split at h<;>try (cases h;done)
 split at h<;>try (cases h;done)
 split at h<;>try (cases h;done)
 omega
theorem pcNew (ly:LayT) (t:TabT) (me:Int) (l:List NearT) (fr:Int) (ht:TabOk t) (hl:l.length<1000000) (hx:∀x∈l,AFc9 x):
 PCall prog 35 [layA ly,tabA t, .d (i64 me), .d (.sl 31 (rowsN l)), .d (i64 fr)] (nsA (newS ly t me l fr) (sideS ly me l fr)):=by
 have key:PCall prog 35 [layA ly,tabA t, .d (i64 me), .d (.sl 31 (rowsN l)), .d (i64 fr)] (.tup [if newS ly t me l fr then .rptr [i64 ly.no,i64 ly.da,i64 me,if l.isEmpty then Zde (Zda none 0 0) else .sl 31 (l.map (ALx9 ly)),i64 fr] else .d nilP, .d (bo (newS ly t me l fr))]):=by
  refine Zdf (n:=100) (u:=false) (fun _=>wlNs) mixed CFp9 Zag (fun Ev=>BXq9) func35 (by rfl) (by rfl) fun Ev bb=> ?_;rw [ns_nf,ACi9];refine ⟨t,ly,_,rfl,⟨ht,rfl⟩,Zbe (fun h1=> ?_) fun h1=>⟨_,_,_,rfl,rfl,Zbe (fun h2=> ?_) fun h2=>⟨_,_,_,rfl,rfl,Zbe (fun h3=> ?_) fun h3=> ?_⟩⟩⟩
  ·rw [Zcq] at h1;rw [newS,h1];rfl
  ·rw [Zcq] at h2;rw [newS,h2,Zco,Zcu];rfl
  ·rw [Zcq] at h3;rw [newS,h3,Zco,Zcu,Zcu];rfl
  ·rw [Zek] at h1 h2 h3;have hv:=ACe9 h1;refine ⟨ly,t,l,me,fr,_,rfl,rfl,rfl,⟨⟨hv.1.1,by omega⟩,hl,hx,rfl⟩,Zbe (fun h4 i hp=> ?_) fun h4=> ?_⟩
   ·rw [newS,h1,h2,h3,h4];rfl
   ·rw [newS,h1,h2,h3,h4];refine Zbe (fun h5=> ?_) fun h5=> ?_
    ·rw [h5];rfl
    ·intro c3 c4;rw [h5];exact ⟨rfl,l.map (ALx9 ly),rfl,by simp,BEt9 ly l,rfl⟩
 refine PCall.semRes ?_ key;cases hq:newS ly t me l fr with
 |false=>exact SemV.rfl
 | true=>
  refine SemV.tup2 ?_;cases l with
  |nil=>exact BRl9 ly me fr
  |cons x r=>exact BYl9 ly me (x::r) fr
def cNew (args:List AV) (K:AV→Prop):Prop:=∃(ly:LayT) (t:TabT) (me:Int) (l:List NearT) (fr:Int) (s:SideT) (q:Bool),args= [layA ly,tabA t, .d (i64 me), .d (.sl 31 (rowsN l)), .d (i64 fr)]∧(TabOk t∧l.length<1000000∧(∀x∈l,AFc9 x)∧q=newS ly t me l fr∧s=sideS ly me l fr)∧BIf q (K (.tup [.rptr (sideD s), .d (bo true)])) (K (.tup [.d nilP, .d (bo false)]))
theorem BFz9:∀args K,cNew args K→∃x,PCall prog 35 args x∧K x:=by
 rintro _ K ⟨ly,t,me,l,fr,_,q,rfl,⟨ht,hl,hx,hq,rfl⟩,hk⟩;refine ⟨_,pcNew ly t me l fr ht hl hx, ?_⟩;rw [←hq];cases q with
 |true=>exact hk
 |false=>exact hk
theorem CAl9 (x:GraT) (fr:Int):wpFn prog ⟨[], [],wl,y,false⟩ 100 f96 [graA x, .rptr [i64 fr]] b R=(R (Zae (bo (decide (Zdw x<fr)))) b):=by kernel_rfl
theorem CAm9 (x:AskT) (sl:Int):wpFn prog ⟨[], [],wl,y,false⟩ 100 f138 [askA x, .rptr [i64 sl]] b R=(R (Zae (bo (Zcs x==sl))) b):=by kernel_rfl
theorem CEg9 (x:GraT) (fr:Int):PCall prog 96 [graA x, .rptr [i64 fr]] (.d (bo (decide (x.un<fr)))):=by
 refine Zbg (n:=100) (u:=false) mixed Zak Zag func96 (by rfl) (by rfl) fun Ev bb=> ?_;rw [CAl9]
def cOutG (args:List AV) (K:AV→Prop):Prop:=∃(x:GraT) (fr:Int) (q:Bool),args= [graA x, .rptr [i64 fr]]∧q=decide (x.un<fr)∧K (.d (bo q))
theorem BVk9:∀args K,cOutG args K→∃x,PCall prog 96 args x∧K x:=by
 rintro _ K ⟨x,fr,_,rfl,rfl,hk⟩;exact ⟨_,CEg9 x fr,hk⟩
theorem CEh9 (x:AskT) (sl:Int):PCall prog 138 [askA x, .rptr [i64 sl]] (.d (bo (x.sl==sl))):=by
 refine Zbg (n:=100) (u:=false) mixed Zak Zag func138 (by rfl) (by rfl) fun Ev bb=> ?_;rw [CAm9]
def cOutA (args:List AV) (K:AV→Prop):Prop:=∃(x:AskT) (sl:Int) (q:Bool),args= [askA x, .rptr [i64 sl]]∧q=(x.sl==sl)∧K (.d (bo q))
theorem BVl9:∀args K,cOutA args K→∃x,PCall prog 138 args x∧K x:=by
 rintro _ K ⟨x,sl,_,rfl,rfl,hk⟩;exact ⟨_,CEh9 x sl,hk⟩
def TOutG:List (Nat×(List AV→(AV→Prop)→Prop)):= [(95,BMg9),(96,cOutG)]
theorem BWb9:AAb9 prog TOutG:=Zah APf9 (Zah BVk9 Zak)
def TOutA:List (Nat×(List AV→(AV→Prop)→Prop)):= [(118,BVe9),(138,cOutA)]
theorem BWc9:AAb9 prog TOutA:=Zah AWg9 (Zah BVl9 Zak)
def TInsG:List (Nat×(List AV→(AV→Prop)→Prop)):= [(95,BMg9),(167,BMu9)]
theorem BWi9:AAb9 prog TInsG:=Zah APf9 (Zah APh9 Zak)
def TInsU:List (Nat×(List AV→(AV→Prop)→Prop)):= [(108,BVd9),(170,BMt9)]
theorem BWh9:AAb9 prog TInsU:=Zah AWf9 (Zah APg9 Zak)
theorem BLo9 (x:GraT) (fr:Int):wpFn prog ⟨TOutG, [],wl,y,false⟩ 100 f132 ([graA x]++ [.rptr [.fn (.func 96) [.pt [i64 fr]]], .rptr [.fn (.func 95) []]]) b R=(∃(u0:GraT), [Zaq (Qz5 x)]= [Zaq (Qz5 u0)]∧∃(x1:GraT) (fr2:Int) (q3:Bool), [Zaq (Qz5 u0),Zaf [i64 fr]]= [Zaq (Qz5 x1),Zaf [i64 fr2]]∧q3=decide (Zdw x1<fr2)∧R (.d (bo q3)) b):=by kernel_rfl
theorem BSl9 (x:GraT) (fr:Int):PCall prog 132 ([graA x]++ [.rptr [.fn (.func 96) [.pt [i64 fr]]], .rptr [.fn (.func 95) []]]) (.d (bo ((fun x:GraT=>decide (x.un<fr)) x))):=by
 refine Zbg (n:=100) (u:=false) mixed BWb9 Zag func132 (by rfl) (by rfl) fun Ev bb=> ?_;rw [BLo9];exact ⟨x,rfl,x,fr,_,rfl,rfl,rfl⟩
def BHc9 (args:List AV) (K:AV→Prop):Prop:=∃(x:GraT) (fr:Int) (q:Bool),args= [graA x]++ [.rptr [.fn (.func 96) [.pt [i64 fr]]], .rptr [.fn (.func 95) []]]∧(q=(fun x:GraT=>decide (x.un<fr)) x)∧K (.d (bo q))
theorem ASa9:∀args K,BHc9 args K→∃x,PCall prog 132 args x∧K x:=by
 rintro _ K ⟨x,fr,_,rfl,rfl,hk⟩;exact ⟨_,BSl9 x fr,hk⟩
def BWk9:List (Nat×(List AV→(AV→Prop)→Prop)):= [(132,BHc9)]
theorem BNf9:AAb9 prog BWk9:=Zah ASa9 Zak
noncomputable def ARd9:Code:=sub [1,0,1,2,3] (code f54)
def AHu9 (l:List GraT) (fr:Int) (q i:Int):List AV:= [.d (.sl 5 (rowsG l)), .fn (.func 132) [] [.rptr [.fn (.func 96) [.pt [i64 fr]]], .rptr [.fn (.func 95) []]], .bad, .bad, .d (i64 q), .bad, .bad, .d (i64 l.length), .d (i64 i)]++Zap 10 .bad
theorem BZf9 (l:List GraT) (fr:Int) (i:Int):wpc prog ⟨BWk9, [],wl,y,false⟩ 100 ARd9 (AHu9 l fr 0 i) [] b (maskK 0 [0,1,4,7,8] K)=(BIf (decide (i<((Zaa l:Nat):Int))) (BIf (true&&decide (0≤i)) (∃(x0:Int) (x1:Int) (x2:Int) (x3:Int) (x4:Int),(rowsG l)[Zao i]? =some (Qz40 x0 x1 x2 x3 x4)∧∃(x7:GraT) (fr8:Int) (q9:Bool), [Zaq (Qz22 x0 x1 x2 x3 x4),Zaf [Zcv (Fn.func 96) [Zdr [i64 fr]]],Zaf [Zcv (Fn.func 95) []]]= [Zaq (Qz5 x7),Zaf [Zcv (Fn.func 96) [Zdr [i64 fr8]]],Zaf [Zcv (Fn.func 95) []]]∧q9=decide (Zdw x7<fr8)∧BIf q9 (K .ret (Zae (Zan 5 (rowsG l))::Zaw (Fn.func 132) [] [Zaf [Zcv (Fn.func 96) [Zdr [i64 fr]]],Zaf [Zcv (Fn.func 95) []]]::Zac::Zac::Zae (i64 i)::Zac::Zac::Zae (i64 ((Zaa l:Nat):Int))::Zae (i64 i)::bds 10 []) [] b) (K .normal (Zae (Zan 5 (rowsG l))::Zaw (Fn.func 132) [] [Zaf [Zcv (Fn.func 96) [Zdr [i64 fr]]],Zaf [Zcv (Fn.func 95) []]]::Zac::Zac::Zae (i64 0)::Zac::Zac::Zae (i64 ((Zaa l:Nat):Int))::Zae (i64 (Zad .i64 (i+1)))::bds 10 []) [] b)) False) (K (Zbs 0) (Zae (Zan 5 (rowsG l))::Zaw (Fn.func 132) [] [Zaf [Zcv (Fn.func 96) [Zdr [i64 fr]]],Zaf [Zcv (Fn.func 95) []]]::Zac::Zac::Zae (i64 0)::Zac::Zac::Zae (i64 ((Zaa l:Nat):Int))::Zae (i64 i)::bds 10 []) [] b)):=by kernel_rfl
theorem BXb9 {Ev:Env prog} {b:Ev.β} {Q:Exit→St Ev.β→Prop} (l:List GraT) (fr:Int) (hl:l.length≤9223372036854775807) (h1:l.findIdx? (fun x:GraT=>decide (x.un<fr))=none→∀i:Int,Q (.exit 0) ⟨AHu9 l fr 0 i, [],b⟩) (h2:∀j:Nat,l.findIdx? (fun x:GraT=>decide (x.un<fr))=some j→Q .ret ⟨AHu9 l fr j j, [],b⟩):
 WR Ev ARd9 (l.length+1) ⟨AHu9 l fr 0 (0:Nat), [],b⟩ Q:=by
 refine WR.findL (X:=⟨BWk9, [],wlW Ev,Ev.Y,false⟩) (k:=100) [0,1,4,7,8] mixed (CX.Ok.of BNf9 Zag) l (fun x:GraT=>decide (x.un<fr)) (fun i=>AHu9 l fr 0 (i:Nat)) (fun i=>AHu9 l fr (i:Nat) (i:Nat)) [] 0 (fun i x hi hxi K k1 k2=> ?_) (fun K k1=> ?_) (fun h=>h1 h _) h2
 ·refine Eq.mpr (BZf9 _ _ _ K l fr i) ?_;rw [ABw9 hxi];refine Zba (by simp;omega) (Zba (natI i) ⟨_,_,_,_,_,rfl,x,fr,_,rfl,rfl,Zbe (fun g=>k1 g) fun g=> ?_⟩);rw [wrapN (by omega)];exact k2 g
 ·refine Eq.mpr (BZf9 _ _ _ K l fr _) ?_;exact Zdd (by simp) k1
def BBj9 {β:Type}:WLT β:=fun cd tm hp b K=>∃(l:List GraT) (fr:Int) (q:Int),cd= .loop ARd9∧ABc9 [0,1,4,7,8] 0 tm=AHu9 l fr 0 0∧hp= []∧(l.length≤9223372036854775807∧q=idxS (fun x:GraT=>decide (x.un<fr)) l)∧(∀i:Int,q= -1→K (.exit 0) (AHu9 l fr 0 i) [] b)∧(∀i:Int,0≤q→K .ret (AHu9 l fr q i) [] b)
theorem BBi9 {Ev:Env prog} (c:Code) (tm:List AV) (hp:List Blk) (b:Ev.β) (K:Exit→List AV→List Blk→Ev.β→Prop) (h:BBj9 c tm hp b K):W Ev c ⟨tm,hp,b⟩ (fun e s=>K e s.tm s.hp s.b):=by
 obtain ⟨l,fr,q,rfl,htm,rfl,⟨hl,rfl⟩,hK1,hK2⟩:=h;refine W.cast (htm▸AAd9 _ tm 0) (Zca _) ?_;exact W.rounds (BXb9 (Q:=fun e s=>K e s.tm s.hp s.b) l fr hl (fun h i=>hK1 i (AAy9 h)) fun j h=>by have:=hK2 j (by rw [AAi9 h];omega);rwa [AAi9 h] at this)
theorem BEa9 (l:List GraT) (fr:Int):wpFn prog ⟨[], [],BBj9,y,false⟩ 100 f54 [.d (.sl 5 (rowsG l)), .fn (.func 132) [] [.rptr [.fn (.func 96) [.pt [i64 fr]]], .rptr [.fn (.func 95) []]]] b R=(∃(l0:List GraT) (fr1:Int) (q2:Int),Zay ARd9=Zay ARd9∧(Zae (Zan 5 (rowsG l))::Zaw (Fn.func 132) [] [Zaf [Zcv (Fn.func 96) [Zdr [i64 fr]]],Zaf [Zcv (Fn.func 95) []]]::Zac::Zac::Zae (i64 0)::Zac::Zac::Zae (i64 ((Zaa (rowsG l):Nat):Int))::Zae (i64 0)::bds 10 [])=(Zae (Zan 5 (rowsG l0))::Zaw (Fn.func 132) [] [Zaf [Zcv (Fn.func 96) [Zdr [i64 fr1]]],Zaf [Zcv (Fn.func 95) []]]::Zac::Zac::Zae (i64 0)::Zac::Zac::Zae (i64 ((Zaa l0:Nat):Int))::Zae (i64 0)::bds 10 [])∧([]:List Blk)= []∧(Zaa l0≤9223372036854775807∧q2=idxS (fun (x3:GraT)=>decide (Zdw x3<fr1)) l0)∧(∀(i:Int),q2=(-1:Int)→R (.d (i64 (-1))) b)∧∀(i:Int),(0:Int)≤q2→R (.d (i64 q2)) b):=by kernel_rfl
theorem BJv9 (l:List GraT) (fr:Int) (hl:l.length≤9223372036854775807):PCall prog 54 [.d (.sl 5 (rowsG l)), .fn (.func 132) [] [.rptr [.fn (.func 96) [.pt [i64 fr]]], .rptr [.fn (.func 95) []]]] (.d (i64 (idxS (fun x:GraT=>decide (x.un<fr)) l))):=by
 refine Zdf (n:=100) (u:=false) (fun _=>BBj9) mixed Zak Zag (fun Ev=>BBi9) func54 (by rfl) (by rfl) fun Ev bb=> ?_;rw [BEa9,AAg9];exact ⟨l,fr,_,rfl,rfl,rfl,⟨hl,rfl⟩,fun i h=>by rw [h],fun i h=>rfl⟩
def BGg9 (args:List AV) (K:AV→Prop):Prop:=∃(l:List GraT) (fr:Int) (q:Int),args= [.d (.sl 5 (rowsG l)), .fn (.func 132) [] [.rptr [.fn (.func 96) [.pt [i64 fr]]], .rptr [.fn (.func 95) []]]]∧(l.length≤9223372036854775807∧q=idxS (fun x:GraT=>decide (x.un<fr)) l)∧K (.d (i64 q))
theorem AZn9:∀args K,BGg9 args K→∃x,PCall prog 54 args x∧K x:=by
 rintro _ K ⟨l,fr,_,rfl,⟨hl,rfl⟩,hk⟩;exact ⟨_,BJv9 l fr hl,hk⟩
theorem BLp9 (x:AskT) (sl:Int):wpFn prog ⟨TOutA, [],wl,y,false⟩ 100 f148 ([askA x]++ [.rptr [.fn (.func 138) [.pt [i64 sl]]], .rptr [.fn (.func 118) []]]) b R=(∃(u0:AskT), [Zaq (Qz11 x)]= [Zaq (Qz11 u0)]∧∃(x1:AskT) (sl2:Int) (q3:Bool), [Zaq (Qz11 u0),Zaf [i64 sl]]= [Zaq (Qz11 x1),Zaf [i64 sl2]]∧q3=(Zcs x1==sl2)∧R (.d (bo q3)) b):=by kernel_rfl
theorem BSm9 (x:AskT) (sl:Int):PCall prog 148 ([askA x]++ [.rptr [.fn (.func 138) [.pt [i64 sl]]], .rptr [.fn (.func 118) []]]) (.d (bo ((fun x:AskT=>x.sl==sl) x))):=by
 refine Zbg (n:=100) (u:=false) mixed BWc9 Zag func148 (by rfl) (by rfl) fun Ev bb=> ?_;rw [BLp9];exact ⟨x,rfl,x,sl,_,rfl,rfl,rfl⟩
def BHd9 (args:List AV) (K:AV→Prop):Prop:=∃(x:AskT) (sl:Int) (q:Bool),args= [askA x]++ [.rptr [.fn (.func 138) [.pt [i64 sl]]], .rptr [.fn (.func 118) []]]∧(q=(fun x:AskT=>x.sl==sl) x)∧K (.d (bo q))
theorem ASb9:∀args K,BHd9 args K→∃x,PCall prog 148 args x∧K x:=by
 rintro _ K ⟨x,sl,_,rfl,rfl,hk⟩;exact ⟨_,BSm9 x sl,hk⟩
def BWl9:List (Nat×(List AV→(AV→Prop)→Prop)):= [(148,BHd9)]
theorem BNg9:AAb9 prog BWl9:=Zah ASb9 Zak
noncomputable def ARe9:Code:=sub [1,0,1,2,3] (code f90)
def AHv9 (l:List AskT) (sl:Int) (q i:Int):List AV:= [.d (.sl 3 (rowsA l)), .fn (.func 148) [] [.rptr [.fn (.func 138) [.pt [i64 sl]]], .rptr [.fn (.func 118) []]], .bad, .bad, .d (i64 q), .bad, .bad, .d (i64 l.length), .d (i64 i)]++Zap 10 .bad
theorem BZg9 (l:List AskT) (sl:Int) (i:Int):wpc prog ⟨BWl9, [],wl,y,false⟩ 100 ARe9 (AHv9 l sl 0 i) [] b (maskK 0 [0,1,4,7,8] K)=(BIf (decide (i<((Zaa l:Nat):Int))) (BIf (true&&decide (0≤i)) (∃(x0:Int) (x1:Int) (x2:Int),(rowsA l)[Zao i]? =some [i64 x0,i64 x1,i64 x2]∧∃(x5:AskT) (sl6:Int) (q7:Bool), [Zaq (Qz26 x0 x1 x2),Zaf [Zcv (Fn.func 138) [Zdr [i64 sl]]],Zaf [Zcv (Fn.func 118) []]]= [Zaq (Qz11 x5),Zaf [Zcv (Fn.func 138) [Zdr [i64 sl6]]],Zaf [Zcv (Fn.func 118) []]]∧q7=(Zcs x5==sl6)∧BIf q7 (K .ret (Zae (Zan 3 (rowsA l))::Zaw (Fn.func 148) [] [Zaf [Zcv (Fn.func 138) [Zdr [i64 sl]]],Zaf [Zcv (Fn.func 118) []]]::Zac::Zac::Zae (i64 i)::Zac::Zac::Zae (i64 ((Zaa l:Nat):Int))::Zae (i64 i)::bds 10 []) [] b) (K .normal (Zae (Zan 3 (rowsA l))::Zaw (Fn.func 148) [] [Zaf [Zcv (Fn.func 138) [Zdr [i64 sl]]],Zaf [Zcv (Fn.func 118) []]]::Zac::Zac::Zae (i64 0)::Zac::Zac::Zae (i64 ((Zaa l:Nat):Int))::Zae (i64 (Zad .i64 (i+1)))::bds 10 []) [] b)) False) (K (Zbs 0) (Zae (Zan 3 (rowsA l))::Zaw (Fn.func 148) [] [Zaf [Zcv (Fn.func 138) [Zdr [i64 sl]]],Zaf [Zcv (Fn.func 118) []]]::Zac::Zac::Zae (i64 0)::Zac::Zac::Zae (i64 ((Zaa l:Nat):Int))::Zae (i64 i)::bds 10 []) [] b)):=by kernel_rfl
theorem BXc9 {Ev:Env prog} {b:Ev.β} {Q:Exit→St Ev.β→Prop} (l:List AskT) (sl:Int) (hl:l.length≤9223372036854775807) (h1:l.findIdx? (fun x:AskT=>x.sl==sl)=none→∀i:Int,Q (.exit 0) ⟨AHv9 l sl 0 i, [],b⟩) (h2:∀j:Nat,l.findIdx? (fun x:AskT=>x.sl==sl)=some j→Q .ret ⟨AHv9 l sl j j, [],b⟩):
 WR Ev ARe9 (l.length+1) ⟨AHv9 l sl 0 (0:Nat), [],b⟩ Q:=by
 refine WR.findL (X:=⟨BWl9, [],wlW Ev,Ev.Y,false⟩) (k:=100) [0,1,4,7,8] mixed (CX.Ok.of BNg9 Zag) l (fun x:AskT=>x.sl==sl) (fun i=>AHv9 l sl 0 (i:Nat)) (fun i=>AHv9 l sl (i:Nat) (i:Nat)) [] 0 (fun i x hi hxi K k1 k2=> ?_) (fun K k1=> ?_) (fun h=>h1 h _) h2
 ·refine Eq.mpr (BZg9 _ _ _ K l sl i) ?_;rw [ABq9 hxi];refine Zba (by simp;omega) (Zba (natI i) ⟨_,_,_,rfl,x,sl,_,rfl,rfl,Zbe (fun g=>k1 g) fun g=> ?_⟩);rw [wrapN (by omega)];exact k2 g
 ·refine Eq.mpr (BZg9 _ _ _ K l sl _) ?_;exact Zdd (by simp) k1
def BBl9 {β:Type}:WLT β:=fun cd tm hp b K=>∃(l:List AskT) (sl:Int) (q:Int),cd= .loop ARe9∧ABc9 [0,1,4,7,8] 0 tm=AHv9 l sl 0 0∧hp= []∧(l.length≤9223372036854775807∧q=idxS (fun x:AskT=>x.sl==sl) l)∧(∀i:Int,q= -1→K (.exit 0) (AHv9 l sl 0 i) [] b)∧(∀i:Int,0≤q→K .ret (AHv9 l sl q i) [] b)
theorem BBk9 {Ev:Env prog} (c:Code) (tm:List AV) (hp:List Blk) (b:Ev.β) (K:Exit→List AV→List Blk→Ev.β→Prop) (h:BBl9 c tm hp b K):W Ev c ⟨tm,hp,b⟩ (fun e s=>K e s.tm s.hp s.b):=by
 obtain ⟨l,sl,q,rfl,htm,rfl,⟨hl,rfl⟩,hK1,hK2⟩:=h;refine W.cast (htm▸AAd9 _ tm 0) (Zca _) ?_;exact W.rounds (BXc9 (Q:=fun e s=>K e s.tm s.hp s.b) l sl hl (fun h i=>hK1 i (AAy9 h)) fun j h=>by have:=hK2 j (by rw [AAi9 h];omega);rwa [AAi9 h] at this)
theorem BEb9 (l:List AskT) (sl:Int):wpFn prog ⟨[], [],BBl9,y,false⟩ 100 f90 [.d (.sl 3 (rowsA l)), .fn (.func 148) [] [.rptr [.fn (.func 138) [.pt [i64 sl]]], .rptr [.fn (.func 118) []]]] b R=(∃(l0:List AskT) (sl1:Int) (q2:Int),Zay ARe9=Zay ARe9∧(Zae (Zan 3 (rowsA l))::Zaw (Fn.func 148) [] [Zaf [Zcv (Fn.func 138) [Zdr [i64 sl]]],Zaf [Zcv (Fn.func 118) []]]::Zac::Zac::Zae (i64 0)::Zac::Zac::Zae (i64 ((Zaa (rowsA l):Nat):Int))::Zae (i64 0)::bds 10 [])=(Zae (Zan 3 (rowsA l0))::Zaw (Fn.func 148) [] [Zaf [Zcv (Fn.func 138) [Zdr [i64 sl1]]],Zaf [Zcv (Fn.func 118) []]]::Zac::Zac::Zae (i64 0)::Zac::Zac::Zae (i64 ((Zaa l0:Nat):Int))::Zae (i64 0)::bds 10 [])∧([]:List Blk)= []∧(Zaa l0≤9223372036854775807∧q2=idxS (fun (x3:AskT)=>Zcs x3==sl1) l0)∧(∀(i:Int),q2=(-1:Int)→R (.d (i64 (-1))) b)∧∀(i:Int),(0:Int)≤q2→R (.d (i64 q2)) b):=by kernel_rfl
theorem BJw9 (l:List AskT) (sl:Int) (hl:l.length≤9223372036854775807):PCall prog 90 [.d (.sl 3 (rowsA l)), .fn (.func 148) [] [.rptr [.fn (.func 138) [.pt [i64 sl]]], .rptr [.fn (.func 118) []]]] (.d (i64 (idxS (fun x:AskT=>x.sl==sl) l))):=by
 refine Zdf (n:=100) (u:=false) (fun _=>BBl9) mixed Zak Zag (fun Ev=>BBk9) func90 (by rfl) (by rfl) fun Ev bb=> ?_;rw [BEb9,AAo9];exact ⟨l,sl,_,rfl,rfl,rfl,⟨hl,rfl⟩,fun i h=>by rw [h],fun i h=>rfl⟩
def BGh9 (args:List AV) (K:AV→Prop):Prop:=∃(l:List AskT) (sl:Int) (q:Int),args= [.d (.sl 3 (rowsA l)), .fn (.func 148) [] [.rptr [.fn (.func 138) [.pt [i64 sl]]], .rptr [.fn (.func 118) []]]]∧(l.length≤9223372036854775807∧q=idxS (fun x:AskT=>x.sl==sl) l)∧K (.d (i64 q))
theorem AZo9:∀args K,BGh9 args K→∃x,PCall prog 90 args x∧K x:=by
 rintro _ K ⟨l,sl,_,rfl,⟨hl,rfl⟩,hk⟩;exact ⟨_,BJw9 l sl hl,hk⟩
theorem BLu9 (x:GraT) (g:GraT):wpFn prog ⟨TInsG, [],wl,y,false⟩ 100 f135 ([graA x]++ [.rptr [.fn (.func 95) []], .rptr (graR g)]) b R=(∃(u0:GraT), [Zaq (Qz5 x)]= [Zaq (Qz5 u0)]∧∃(u1:GraT), [Zaq (Qz5 u0)]= [Zaq (Qz5 u1)]∧∃(u2:GraT), [Zaq (Qz5 g)]= [Zaq (Qz5 u2)]∧∃(u3:GraT), [Zaq (Qz5 u2)]= [Zaq (Qz5 u3)]∧R (.d (bo (decide (Zdc u1>Zdc u3)))) b):=by kernel_rfl
theorem BSr9 (x:GraT) (g:GraT):PCall prog 135 ([graA x]++ [.rptr [.fn (.func 95) []], .rptr (graR g)]) (.d (bo ((fun x:GraT=>decide (x.sl>g.sl)) x))):=by
 refine Zbg (n:=100) (u:=false) mixed BWi9 Zag func135 (by rfl) (by rfl) fun Ev bb=> ?_;rw [BLu9];exact ⟨x,rfl,x,rfl,g,rfl,g,rfl,rfl⟩
def BPh9 (args:List AV) (K:AV→Prop):Prop:=∃(x:GraT) (g:GraT) (q:Bool),args= [graA x]++ [.rptr [.fn (.func 95) []], .rptr (graR g)]∧(q=(fun x:GraT=>decide (x.sl>g.sl)) x)∧K (.d (bo q))
theorem BHi9:∀args K,BPh9 args K→∃x,PCall prog 135 args x∧K x:=by
 rintro _ K ⟨x,g,_,rfl,rfl,hk⟩;exact ⟨_,BSr9 x g,hk⟩
def BWn9:List (Nat×(List AV→(AV→Prop)→Prop)):= [(135,BPh9)]
theorem BNi9:AAb9 prog BWn9:=Zah BHi9 Zak
noncomputable def ARg9:Code:=sub [1,0,1,2,3] (code f54)
def AHx9 (l:List GraT) (g:GraT) (q i:Int):List AV:= [.d (.sl 5 (rowsG l)), .fn (.func 135) [] [.rptr [.fn (.func 95) []], .rptr (graR g)], .bad, .bad, .d (i64 q), .bad, .bad, .d (i64 l.length), .d (i64 i)]++Zap 10 .bad
theorem BZi9 (l:List GraT) (g:GraT) (i:Int):wpc prog ⟨BWn9, [],wl,y,false⟩ 100 ARg9 (AHx9 l g 0 i) [] b (maskK 0 [0,1,4,7,8] K)=(BIf (decide (i<((Zaa l:Nat):Int))) (BIf (true&&decide (0≤i)) (∃(x0:Int) (x1:Int) (x2:Int) (x3:Int) (x4:Int),(rowsG l)[Zao i]? =some (Qz40 x0 x1 x2 x3 x4)∧∃(x7:GraT) (g8:GraT) (q9:Bool), [Zaq (Qz22 x0 x1 x2 x3 x4),Zaf [Zcv (Fn.func 95) []],Zaf (Qz15 g)]= [Zaq (Qz5 x7),Zaf [Zcv (Fn.func 95) []],Zaf (Qz15 g8)]∧q9=decide (Zdc x7>Zdc g8)∧BIf q9 (K .ret (Zae (Zan 5 (rowsG l))::Zaw (Fn.func 135) [] [Zaf [Zcv (Fn.func 95) []],Zaf (Qz15 g)]::Zac::Zac::Zae (i64 i)::Zac::Zac::Zae (i64 ((Zaa l:Nat):Int))::Zae (i64 i)::bds 10 []) [] b) (K .normal (Zae (Zan 5 (rowsG l))::Zaw (Fn.func 135) [] [Zaf [Zcv (Fn.func 95) []],Zaf (Qz15 g)]::Zac::Zac::Zae (i64 0)::Zac::Zac::Zae (i64 ((Zaa l:Nat):Int))::Zae (i64 (Zad .i64 (i+1)))::bds 10 []) [] b)) False) (K (Zbs 0) (Zae (Zan 5 (rowsG l))::Zaw (Fn.func 135) [] [Zaf [Zcv (Fn.func 95) []],Zaf (Qz15 g)]::Zac::Zac::Zae (i64 0)::Zac::Zac::Zae (i64 ((Zaa l:Nat):Int))::Zae (i64 i)::bds 10 []) [] b)):=by kernel_rfl
theorem BXe9 {Ev:Env prog} {b:Ev.β} {Q:Exit→St Ev.β→Prop} (l:List GraT) (g:GraT) (hl:l.length≤9223372036854775807) (h1:l.findIdx? (fun x:GraT=>decide (x.sl>g.sl))=none→∀i:Int,Q (.exit 0) ⟨AHx9 l g 0 i, [],b⟩) (h2:∀j:Nat,l.findIdx? (fun x:GraT=>decide (x.sl>g.sl))=some j→Q .ret ⟨AHx9 l g j j, [],b⟩):
 WR Ev ARg9 (l.length+1) ⟨AHx9 l g 0 (0:Nat), [],b⟩ Q:=by
 refine WR.findL (X:=⟨BWn9, [],wlW Ev,Ev.Y,false⟩) (k:=100) [0,1,4,7,8] mixed (CX.Ok.of BNi9 Zag) l (fun x:GraT=>decide (x.sl>g.sl)) (fun i=>AHx9 l g 0 (i:Nat)) (fun i=>AHx9 l g (i:Nat) (i:Nat)) [] 0 (fun i x hi hxi K k1 k2=> ?_) (fun K k1=> ?_) (fun h=>h1 h _) h2
 ·refine Eq.mpr (BZi9 _ _ _ K l g i) ?_;rw [ABw9 hxi];refine Zba (by simp;omega) (Zba (natI i) ⟨_,_,_,_,_,rfl,x,g,_,rfl,rfl,Zbe (fun g=>k1 g) fun g=> ?_⟩);rw [wrapN (by omega)];exact k2 g
 ·refine Eq.mpr (BZi9 _ _ _ K l g _) ?_;exact Zdd (by simp) k1
def BBp9 {β:Type}:WLT β:=fun cd tm hp b K=>∃(l:List GraT) (g:GraT) (q:Int),cd= .loop ARg9∧ABc9 [0,1,4,7,8] 0 tm=AHx9 l g 0 0∧hp= []∧(l.length≤9223372036854775807∧q=idxS (fun x:GraT=>decide (x.sl>g.sl)) l)∧(∀i:Int,q= -1→K (.exit 0) (AHx9 l g 0 i) [] b)∧(∀i:Int,0≤q→K .ret (AHx9 l g q i) [] b)
theorem BBo9 {Ev:Env prog} (c:Code) (tm:List AV) (hp:List Blk) (b:Ev.β) (K:Exit→List AV→List Blk→Ev.β→Prop) (h:BBp9 c tm hp b K):W Ev c ⟨tm,hp,b⟩ (fun e s=>K e s.tm s.hp s.b):=by
 obtain ⟨l,g,q,rfl,htm,rfl,⟨hl,rfl⟩,hK1,hK2⟩:=h;refine W.cast (htm▸AAd9 _ tm 0) (Zca _) ?_;exact W.rounds (BXe9 (Q:=fun e s=>K e s.tm s.hp s.b) l g hl (fun h i=>hK1 i (AAy9 h)) fun j h=>by have:=hK2 j (by rw [AAi9 h];omega);rwa [AAi9 h] at this)
theorem BEd9 (l:List GraT) (g:GraT):wpFn prog ⟨[], [],BBp9,y,false⟩ 100 f54 [.d (.sl 5 (rowsG l)), .fn (.func 135) [] [.rptr [.fn (.func 95) []], .rptr (graR g)]] b R=(∃(l0:List GraT) (g1:GraT) (q2:Int),Zay ARg9=Zay ARg9∧(Zae (Zan 5 (rowsG l))::Zaw (Fn.func 135) [] [Zaf [Zcv (Fn.func 95) []],Zaf (Qz15 g)]::Zac::Zac::Zae (i64 0)::Zac::Zac::Zae (i64 ((Zaa (rowsG l):Nat):Int))::Zae (i64 0)::bds 10 [])=(Zae (Zan 5 (rowsG l0))::Zaw (Fn.func 135) [] [Zaf [Zcv (Fn.func 95) []],Zaf (Qz15 g1)]::Zac::Zac::Zae (i64 0)::Zac::Zac::Zae (i64 ((Zaa l0:Nat):Int))::Zae (i64 0)::bds 10 [])∧([]:List Blk)= []∧(Zaa l0≤9223372036854775807∧q2=idxS (fun (x3:GraT)=>decide (Zdc x3>Zdc g1)) l0)∧(∀(i:Int),q2=(-1:Int)→R (.d (i64 (-1))) b)∧∀(i:Int),(0:Int)≤q2→R (.d (i64 q2)) b):=by kernel_rfl
theorem BJy9 (l:List GraT) (g:GraT) (hl:l.length≤9223372036854775807):PCall prog 54 [.d (.sl 5 (rowsG l)), .fn (.func 135) [] [.rptr [.fn (.func 95) []], .rptr (graR g)]] (.d (i64 (idxS (fun x:GraT=>decide (x.sl>g.sl)) l))):=by
 refine Zdf (n:=100) (u:=false) (fun _=>BBp9) mixed Zak Zag (fun Ev=>BBo9) func54 (by rfl) (by rfl) fun Ev bb=> ?_;rw [BEd9,AAg9];exact ⟨l,g,_,rfl,rfl,rfl,⟨hl,rfl⟩,fun i h=>by rw [h],fun i h=>rfl⟩
def BGj9 (args:List AV) (K:AV→Prop):Prop:=∃(l:List GraT) (g:GraT) (q:Int),args= [.d (.sl 5 (rowsG l)), .fn (.func 135) [] [.rptr [.fn (.func 95) []], .rptr (graR g)]]∧(l.length≤9223372036854775807∧q=idxS (fun x:GraT=>decide (x.sl>g.sl)) l)∧K (.d (i64 q))
theorem AZq9:∀args K,BGj9 args K→∃x,PCall prog 54 args x∧K x:=by
 rintro _ K ⟨l,g,_,rfl,⟨hl,rfl⟩,hk⟩;exact ⟨_,BJy9 l g hl,hk⟩
theorem BLt9 (x:UseT) (g:UseT):wpFn prog ⟨TInsU, [],wl,y,false⟩ 100 f139 ([useA x]++ [.rptr [.fn (.func 108) []], .rptr (useR g)]) b R=(∃(u0:UseT), [Zaq (Qz7 x)]= [Zaq (Qz7 u0)]∧∃(u1:UseT), [Zaq (Qz7 u0)]= [Zaq (Qz7 u1)]∧∃(u2:UseT), [Zaq (Qz7 g)]= [Zaq (Qz7 u2)]∧∃(u3:UseT), [Zaq (Qz7 u2)]= [Zaq (Qz7 u3)]∧R (.d (bo (decide (Zcy u1>Zcy u3)))) b):=by kernel_rfl
theorem BSq9 (x:UseT) (g:UseT):PCall prog 139 ([useA x]++ [.rptr [.fn (.func 108) []], .rptr (useR g)]) (.d (bo ((fun x:UseT=>decide (x.sl>g.sl)) x))):=by
 refine Zbg (n:=100) (u:=false) mixed BWh9 Zag func139 (by rfl) (by rfl) fun Ev bb=> ?_;rw [BLt9];exact ⟨x,rfl,x,rfl,g,rfl,g,rfl,rfl⟩
def BPg9 (args:List AV) (K:AV→Prop):Prop:=∃(x:UseT) (g:UseT) (q:Bool),args= [useA x]++ [.rptr [.fn (.func 108) []], .rptr (useR g)]∧(q=(fun x:UseT=>decide (x.sl>g.sl)) x)∧K (.d (bo q))
theorem BHh9:∀args K,BPg9 args K→∃x,PCall prog 139 args x∧K x:=by
 rintro _ K ⟨x,g,_,rfl,rfl,hk⟩;exact ⟨_,BSq9 x g,hk⟩
def BWm9:List (Nat×(List AV→(AV→Prop)→Prop)):= [(139,BPg9)]
theorem BNh9:AAb9 prog BWm9:=Zah BHh9 Zak
noncomputable def ARf9:Code:=sub [1,0,1,2,3] (code f133)
def AHw9 (l:List UseT) (g:UseT) (q i:Int):List AV:= [.d (.sl 4 (rowsU l)), .fn (.func 139) [] [.rptr [.fn (.func 108) []], .rptr (useR g)], .bad, .bad, .d (i64 q), .bad, .bad, .d (i64 l.length), .d (i64 i)]++Zap 10 .bad
theorem BZh9 (l:List UseT) (g:UseT) (i:Int):wpc prog ⟨BWm9, [],wl,y,false⟩ 100 ARf9 (AHw9 l g 0 i) [] b (maskK 0 [0,1,4,7,8] K)=(BIf (decide (i<((Zaa l:Nat):Int))) (BIf (true&&decide (0≤i)) (∃(x0:Int) (x1:Int) (x2:Int) (x3:Int),(rowsU l)[Zao i]? =some [i64 x0,i64 x1,i64 x2,i64 x3]∧∃(x6:UseT) (g7:UseT) (q8:Bool), [Zaq (Qz37 x0 x1 x2 x3),Zaf [Zcv (Fn.func 108) []],Zaf (Qz13 g)]= [Zaq (Qz7 x6),Zaf [Zcv (Fn.func 108) []],Zaf (Qz13 g7)]∧q8=decide (Zcy x6>Zcy g7)∧BIf q8 (K .ret (Zae (Zan 4 (rowsU l))::Zaw (Fn.func 139) [] [Zaf [Zcv (Fn.func 108) []],Zaf (Qz13 g)]::Zac::Zac::Zae (i64 i)::Zac::Zac::Zae (i64 ((Zaa l:Nat):Int))::Zae (i64 i)::bds 10 []) [] b) (K .normal (Zae (Zan 4 (rowsU l))::Zaw (Fn.func 139) [] [Zaf [Zcv (Fn.func 108) []],Zaf (Qz13 g)]::Zac::Zac::Zae (i64 0)::Zac::Zac::Zae (i64 ((Zaa l:Nat):Int))::Zae (i64 (Zad .i64 (i+1)))::bds 10 []) [] b)) False) (K (Zbs 0) (Zae (Zan 4 (rowsU l))::Zaw (Fn.func 139) [] [Zaf [Zcv (Fn.func 108) []],Zaf (Qz13 g)]::Zac::Zac::Zae (i64 0)::Zac::Zac::Zae (i64 ((Zaa l:Nat):Int))::Zae (i64 i)::bds 10 []) [] b)):=by kernel_rfl
theorem BXd9 {Ev:Env prog} {b:Ev.β} {Q:Exit→St Ev.β→Prop} (l:List UseT) (g:UseT) (hl:l.length≤9223372036854775807) (h1:l.findIdx? (fun x:UseT=>decide (x.sl>g.sl))=none→∀i:Int,Q (.exit 0) ⟨AHw9 l g 0 i, [],b⟩) (h2:∀j:Nat,l.findIdx? (fun x:UseT=>decide (x.sl>g.sl))=some j→Q .ret ⟨AHw9 l g j j, [],b⟩):
 WR Ev ARf9 (l.length+1) ⟨AHw9 l g 0 (0:Nat), [],b⟩ Q:=by
 refine WR.findL (X:=⟨BWm9, [],wlW Ev,Ev.Y,false⟩) (k:=100) [0,1,4,7,8] mixed (CX.Ok.of BNh9 Zag) l (fun x:UseT=>decide (x.sl>g.sl)) (fun i=>AHw9 l g 0 (i:Nat)) (fun i=>AHw9 l g (i:Nat) (i:Nat)) [] 0 (fun i x hi hxi K k1 k2=> ?_) (fun K k1=> ?_) (fun h=>h1 h _) h2
 ·refine Eq.mpr (BZh9 _ _ _ K l g i) ?_;rw [ACj9 hxi];refine Zba (by simp;omega) (Zba (natI i) ⟨_,_,_,_,rfl,x,g,_,rfl,rfl,Zbe (fun g=>k1 g) fun g=> ?_⟩);rw [wrapN (by omega)];exact k2 g
 ·refine Eq.mpr (BZh9 _ _ _ K l g _) ?_;exact Zdd (by simp) k1
def BBn9 {β:Type}:WLT β:=fun cd tm hp b K=>∃(l:List UseT) (g:UseT) (q:Int),cd= .loop ARf9∧ABc9 [0,1,4,7,8] 0 tm=AHw9 l g 0 0∧hp= []∧(l.length≤9223372036854775807∧q=idxS (fun x:UseT=>decide (x.sl>g.sl)) l)∧(∀i:Int,q= -1→K (.exit 0) (AHw9 l g 0 i) [] b)∧(∀i:Int,0≤q→K .ret (AHw9 l g q i) [] b)
theorem BBm9 {Ev:Env prog} (c:Code) (tm:List AV) (hp:List Blk) (b:Ev.β) (K:Exit→List AV→List Blk→Ev.β→Prop) (h:BBn9 c tm hp b K):W Ev c ⟨tm,hp,b⟩ (fun e s=>K e s.tm s.hp s.b):=by
 obtain ⟨l,g,q,rfl,htm,rfl,⟨hl,rfl⟩,hK1,hK2⟩:=h;refine W.cast (htm▸AAd9 _ tm 0) (Zca _) ?_;exact W.rounds (BXd9 (Q:=fun e s=>K e s.tm s.hp s.b) l g hl (fun h i=>hK1 i (AAy9 h)) fun j h=>by have:=hK2 j (by rw [AAi9 h];omega);rwa [AAi9 h] at this)
theorem BEc9 (l:List UseT) (g:UseT):wpFn prog ⟨[], [],BBn9,y,false⟩ 100 f133 [.d (.sl 4 (rowsU l)), .fn (.func 139) [] [.rptr [.fn (.func 108) []], .rptr (useR g)]] b R=(∃(l0:List UseT) (g1:UseT) (q2:Int),Zay ARf9=Zay ARf9∧(Zae (Zan 4 (rowsU l))::Zaw (Fn.func 139) [] [Zaf [Zcv (Fn.func 108) []],Zaf (Qz13 g)]::Zac::Zac::Zae (i64 0)::Zac::Zac::Zae (i64 ((Zaa (rowsU l):Nat):Int))::Zae (i64 0)::bds 10 [])=(Zae (Zan 4 (rowsU l0))::Zaw (Fn.func 139) [] [Zaf [Zcv (Fn.func 108) []],Zaf (Qz13 g1)]::Zac::Zac::Zae (i64 0)::Zac::Zac::Zae (i64 ((Zaa l0:Nat):Int))::Zae (i64 0)::bds 10 [])∧([]:List Blk)= []∧(Zaa l0≤9223372036854775807∧q2=idxS (fun (x3:UseT)=>decide (Zcy x3>Zcy g1)) l0)∧(∀(i:Int),q2=(-1:Int)→R (.d (i64 (-1))) b)∧∀(i:Int),(0:Int)≤q2→R (.d (i64 q2)) b):=by kernel_rfl
theorem BJx9 (l:List UseT) (g:UseT) (hl:l.length≤9223372036854775807):PCall prog 133 [.d (.sl 4 (rowsU l)), .fn (.func 139) [] [.rptr [.fn (.func 108) []], .rptr (useR g)]] (.d (i64 (idxS (fun x:UseT=>decide (x.sl>g.sl)) l))):=by
 refine Zdf (n:=100) (u:=false) (fun _=>BBn9) mixed Zak Zag (fun Ev=>BBm9) func133 (by rfl) (by rfl) fun Ev bb=> ?_;rw [BEc9,AAj9];exact ⟨l,g,_,rfl,rfl,rfl,⟨hl,rfl⟩,fun i h=>by rw [h],fun i h=>rfl⟩
def BGi9 (args:List AV) (K:AV→Prop):Prop:=∃(l:List UseT) (g:UseT) (q:Int),args= [.d (.sl 4 (rowsU l)), .fn (.func 139) [] [.rptr [.fn (.func 108) []], .rptr (useR g)]]∧(l.length≤9223372036854775807∧q=idxS (fun x:UseT=>decide (x.sl>g.sl)) l)∧K (.d (i64 q))
theorem AZp9:∀args K,BGi9 args K→∃x,PCall prog 133 args x∧K x:=by
 rintro _ K ⟨l,g,_,rfl,⟨hl,rfl⟩,hk⟩;exact ⟨_,BJx9 l g hl,hk⟩
section
variable {α:Type} {row:α→List Dv} {k:Nat} (hk:∀x,(row x).length=k)
theorem ANk9 (x:α) (hs:List α):flatA ((x::hs).map row)=(row x).map .d++flatA (hs.map row):=by rw [Zeb,AGg9]
theorem ATt9 (a b:List α):flatA ((a++b).map row)=flatA (a.map row)++flatA (b.map row):=by simp [flatA]
include hk
theorem AZa9:∀hs:List α,(flatA (hs.map row)).length=hs.length*k
 | []=>by simp [flatA]
 |h::hs=>by rw [ANk9,Zcm,AZa9 hs,Zgh,hk,Zfl,Zcz];omega
theorem ARr9:∀(hs:List α) (i:Nat),(flatA (hs.map row)).take (i*k)=flatA ((hs.take i).map row)
 | [],i=>by simp [flatA]
 |h::hs,0=>by simp [flatA]
 | h::hs,i+1=>by
  rw [ANk9,List.take_succ_cons,ANk9,←ARr9 hs i,List.take_append];have e:((row h).map Zae).length=k:=by rw [Zgh,hk]
  rw [e,List.take_of_length_le (by rw [e,Zcz];omega)];congr 2;rw [Zcz];omega
theorem BEr9:∀(hs:List α) (i:Nat),(flatA (hs.map row)).drop (i*k)=flatA ((hs.drop i).map row)
 | [],i=>by simp [flatA]
 |h::hs,0=>by simp
 | h::hs,i+1=>by
  rw [ANk9,List.drop_succ_cons,←BEr9 hs i,List.drop_append];have e:((row h).map Zae).length=k:=by rw [Zgh,hk]
  rw [e,List.drop_eq_nil_of_le (by rw [e,Zcz];omega),List.nil_append];congr 1;rw [Zcz];omega
theorem fl_at {hs:List α} {j:Nat} {x:α} (h:hs[j]? =some x):((flatA (hs.map row)).drop (j*k)).take k=(row x).map .d:=by
 obtain ⟨hj,rfl⟩:=Zab.1 h;rw [BEr9 hk,List.drop_eq_getElem_cons hj,ANk9];have e:((row hs[j]).map Zae).length=k:=by rw [Zgh,hk]
 rw [Zey (by rw [e];exact Zav _),List.take_of_length_le (by rw [e];exact Zav _)]
theorem BUb9 {hs:List α} {i:Nat} (hi:i<hs.length) (x:α):(flatA (hs.map row)).take (i*k)++(row x).map .d++(flatA (hs.map row)).drop (i*k+k)=flatA ((hs.set i x).map row):=by
 have e:i*k+k=(i+1)*k:=by rw [Zcz];omega
 rw [e,ARr9 hk,BEr9 hk,List.set_eq_take_append_cons_drop,if_pos hi,ATt9,ANk9,Zbr]
end
theorem WR.delL {α:Type} {P:Program} {Ev:Env P} {X:CX Ev.β} {lp:Code} {b:Ev.β} {Q:Exit→St Ev.β→Prop} {k L:Nat} (keep:List Nat) (hm:P.follows .mixedOrders=true) (hX:X.Ok) (hs:List α) (p:α→Bool) (tmOf:Nat→Nat→List AV) (hpOf:List α→List Blk) (hL:∀c,(hpOf c).length=L) (id:Nat)
 (hr:∀(i j:Nat) (cur:List α) (x:α),cur[j]? =some x→i≤j→j<hs.length→cur.length=hs.length→∀K:Exit→List AV→List Blk→Ev.β→Prop,(p x=true→K .normal (tmOf i (j+1)) (hpOf cur) b)→(p x=false→K .normal (tmOf (i+1) (j+1)) (hpOf (cur.set i x)) b)→wpc P X k lp (tmOf i j) (hpOf cur) b (maskK L keep K))
 (he:∀(i:Nat) (cur:List α) (K:Exit→List AV→List Blk→Ev.β→Prop),cur.length=hs.length→K (.exit id) (tmOf i hs.length) (hpOf cur) b→wpc P X k lp (tmOf i hs.length) (hpOf cur) b (maskK L keep K))
 (hQ:∀cur:List α,cur.length=hs.length→cur.take (hs.filter fun x=> !p x).length=(hs.filter fun x=> !p x)→Q (.exit id) ⟨tmOf (hs.filter fun x=> !p x).length hs.length,hpOf cur,b⟩):
 ∀ (rest:List α) (j i:Nat) (cur:List α),hs.drop j=rest→j≤hs.length→i≤j→cur.length=hs.length→cur.take i=(hs.take j).filter (fun x=> !p x)→cur.drop j=rest→
  WR Ev lp (rest.length+1) ⟨tmOf i j,hpOf cur,b⟩ Q
 | [],j,i,cur,hd,hj,hi,hcl,ht,hcd=>by
  have hjl:j=hs.length:=by have:=List.drop_eq_nil_iff.1 hd;omega
  subst hjl;rw [Zdh] at ht;have hil:i=(hs.filter fun x=> !p x).length:=by rw [←ht,Zcf];omega
  refine Zdn keep hm hX (k:=k) (by rw [hL];exact he i cur _ hcl (by rw [hil] at ht ⊢;exact hQ cur hcl ht))
 | h::rest,j,i,cur,hd,hj,hi,hcl,ht,hcd=>by
  have hj1:j<hs.length:=by
   apply Classical.byContradiction;intro hn;rw [List.drop_eq_nil_of_le (by omega)] at hd;cases hd
  rw [List.drop_eq_getElem_cons hj1] at hd;rw [List.drop_eq_getElem_cons (by omega:j<cur.length)] at hcd;injection hd with hh1 hd1
  injection hcd with hh2 hd2
  have htake:hs.take (j+1)=hs.take j++ [h]:=by rw [List.take_succ_eq_append_getElem hj1,hh1]
  have hx:cur[j]? =some h:=by rw [Zaz (by omega),hh2]
  refine Zdn keep hm hX (k:=k) (by
   rw [hL];refine hr i j cur h hx hi hj1 hcl _ (fun hp=> ?_) fun hp=> ?_
   ·refine WR.delL keep hm hX hs p tmOf hpOf hL id hr he hQ rest (j+1) i cur hd1 hj1 (by omega) hcl ?_ hd2;rw [htake,List.filter_append,ht];simp [hp]
   ·refine WR.delL keep hm hX hs p tmOf hpOf hL id hr he hQ rest (j+1) (i+1) (cur.set i h) hd1 hj1 (by omega) (by simpa using hcl) ?_ ?_
    ·rw [htake,List.filter_append,←ht,List.take_succ_eq_append_getElem (by simp;omega)];simp [hp,List.take_set_of_le]
    ·rw [List.drop_set_of_lt (by omega)];exact hd2)
theorem AFs9 {α:Type} {p:α→Bool}:∀ {hs:List α} {j:Nat},hs.findIdx? p=some j→j<hs.length∧hs.take j=(hs.take (j+1)).filter (fun x=> !p x)
 | [],j,h=>by simp at h
 | x::r,j,h=>by
  rw [Zfb] at h;cases hp:p x with
  |true=>rw [hp] at h;simp at h;subst h;simp [hp]
  | false=>
   rw [hp] at h;simp only [Zds,if_false,Zam] at h;obtain ⟨j',h1,rfl⟩:=h;obtain ⟨h2,h3⟩:=AFs9 h1;exact ⟨by simp;omega,by simp [hp,h3]⟩
theorem BEs9 {α:Type} {p:α→Bool} {hs:List α} (h:hs.findIdx? p=none):hs.filter (fun x=> !p x)=hs:=by
 have:=List.findIdx?_eq_none_iff.1 h;exact List.filter_eq_self.2 fun x hx=>by rw [this x hx];rfl
def boxA (x:AV):Blk:=⟨[x],false,false,0⟩
theorem SCall.toSl {P:Program} {f k:Nat} {args:List AV} {hp hp':List Blk} {xs:List (List Dv)} (h:SCall P f args hp (.full k xs) hp'):SCall P f args hp (.d (.sl k xs)) hp':=by
 refine ⟨h.1,fun S X yv w m B hv vs hl hr=>CallsIn.mono (h.2 S X yv w m B hv vs hl hr) ?_⟩;rintro e w' ⟨v,S',m',hv',he,h1,h2⟩;have hrv:=h2.rv _ (Zcb ..);refine ⟨v,S',m',hv',he,h1,(h2.sub (List.sublist_cons_self _ _)).cons ?_ rfl⟩;cases hrv with|full h=>exact .d h
theorem ASi9.pc {P:Program} {f k:Nat} (hc:ASi9 P f k) (xs:List (List Dv)) (hl:xs.length≤1000000) (hk:∀r∈xs,r.length=k):PCall P f [.d (.sl k xs)] (.d (.sl k xs)):=by
 have h:=hc xs hl;cases xs with
 |nil=>exact PCall.semRes (x:= .full k []) (y:= .d (.sl k [])) (SemV.rows .nil) (h.toP (y:= .full k []) (.r (.v rfl)))
 |cons a r=>exact h.toP (.r (.gref rfl rfl rfl rfl rfl hk))
def GCG:List (Nat×(List AV→List Blk→(AV→List Blk→Prop)→Prop)):= [(1000000+59,fun _ _ _=>False)]
theorem BAj9:AAm9 prog GCG:=Zby (fun _ _ _ h=>h.elim) Zag
theorem BLl9 (xs:List (List Dv)):wpFnS prog ⟨[],GCG,wl,y,false⟩ 100 f48 [.d (.sl 5 xs)] b Kr=(∀(t:Bool),(t=true→xs= [])→BIf t (Kr (Zae (Zde (.slice none 0 0))) [] b) (BIf (true&&decide (Zaa xs*40≤140737488355328)) (BIf (decide (0<Zaa xs)) (Kr (Zbj 0 0 (Zaa xs) 5) [Blk.mk (flatA xs) false true 0] b) (Kr (Zfh 5 []) [] b)) False)):=by kernel_rfl
theorem BEv9:ASi9 prog 48 5:=fun xs hl=>by
 refine Zgt (n:=100) (u:=false) (fun _=>fun _ _ _ _ _=>False) mixed Zak BAj9 (fun Ev _ _ _ _ _ h=>h.elim) func48 (by rfl) (by rfl) (by split<;>rfl) fun Ev bb=> ?_;rw [BLl9];refine fun t ht=>Zbe (fun h=>by rw [ht h];exact ⟨.nilFull rfl,rfl⟩) fun h=>Zba (by simp<;>omega) ?_;cases xs with
 |nil=>exact Zdd rfl ⟨.rfl,rfl⟩
 |cons a xs=>exact Zba (by simp) ⟨.rfl,rfl⟩
theorem AFp9 (x:GraT):(graR x).length=5:=rfl
theorem AQl9 (l:List GraT):∀r∈rowsG l,r.length=5:=by
 intro r hr;simp only [rowsG,Zbh] at hr;obtain ⟨x,_,rfl⟩:=hr;rfl
def BPa9 (args:List AV) (K:AV→Prop):Prop:=∃l:List GraT,args= [.d (.sl 5 (rowsG l))]∧l.length≤1000000∧K (.d (.sl 5 (rowsG l)))
theorem BGw9:∀args K,BPa9 args K→∃x,PCall prog 48 args x∧K x:=by
 rintro _ K ⟨l,rfl,hl,hk⟩;exact ⟨_,ASi9.pc BEv9 (rowsG l) (by rw [AAg9];exact hl) (AQl9 l),hk⟩
def BCl9 (args:List AV) (hp:List Blk) (K:AV→List Blk→Prop):Prop:=∃(hs:List GraT),args= [.d (.sl 5 (rowsG hs))]∧hs.length≤1000000∧BIf hs.isEmpty (K (.d (.sl 5 [])) hp) (K (.gref hp.length 0 hs.length 5) (hp++ [growB 0 (flatA (rowsG hs))]))
theorem AQj9:∀args hp K,BCl9 args hp K→∃x hp',SCall prog 48 args hp x hp'∧K x hp':=by
 rintro _ hp K ⟨hs,rfl,hl,hK⟩;have h1:=(BEv9 (rowsG hs) (by rw [AAg9];omega)).toS rfl hp;cases hs with
 |nil=>exact ⟨_,_,SCall.toSl h1,by simpa [rowsG,AGb9,BIf] using hK⟩
 | cons a r=>
  refine ⟨_,_,h1, ?_⟩;simpa [rowsG,shift,AGb9,AQg9,blkG,AHe9,BIf,growB] using hK
noncomputable def lpDfG:Code:=sub [1,1,1,0,1,2,3] (code f131)
def tmDfG (v n:Nat) (i j:Int):List AV:= [.gref 2 v n 5, .fn (.func 132) [] [.ptr 1 0, .ptr 0 0], .bad, .bad, .bad, .d (i64 i), .d (i64 j)]++Zap 35 .bad
def UDrG:List (Nat×(List AV→List Blk→(AV→List Blk→Prop)→Prop)):= [(1000000+59,fun _ _ _=>False),(132,lendC BHc9)]
theorem CCs9:AAm9 prog UDrG:=Zby (fun _ _ _ h=>h.elim) (Zby (AFl9 ASa9) Zag)
def hpDfG (fr:Int) (v':Nat) (cs:List AV):List Blk:= [boxA (.fn (.func 95) [] []),boxA (.fn (.func 96) [] [.rptr [i64 fr]]),growB v' cs]
abbrev Qz53 (v0:Int) (v1:Int):=Zae (i64 v0)::Zae (i64 v1)::bds 35 []
theorem rDfG (v' n:Nat) (i j fr:Int) (cs:List AV):wpc prog ⟨[],UDrG,wl,y,false⟩ 100 lpDfG (tmDfG v' n i j) (hpDfG fr v' cs) b (maskK 3 [0,1,5,6] K)=(v'=v'∧BIf (decide (j<(n:Int))) (v'=v'∧BIf (decide (0≤j)&&decide (j<(n:Int))) (v'=v'∧∃(x0:Int) (x1:Int) (x2:Int) (x3:Int) (x4:Int),Zbu 5 (Zce (Zao j*5) cs)=(Qz22 x0 x1 x2 x3 x4)∧∃(x5:GraT) (fr6:Int) (q7:Bool), [Zaq (Qz22 x0 x1 x2 x3 x4),Zaf [Zcv (Fn.func 96) [Zdr [i64 fr]]],Zaf [Zcv (Fn.func 95) []]]= [Zaq (Qz5 x5),Zaf [Zcv (Fn.func 96) [Zdr [i64 fr6]]],Zaf [Zcv (Fn.func 95) []]]∧q7=decide (Zdw x5<fr6)∧BIf (!q7) (v'=v'∧BIf (decide (0≤i)&&decide (i<(n:Int))) (v'=v'∧BIf (decide (Zao i*5+5≤Zaa cs)) (BIf (Zbm [Blk.mk [Zaw (Fn.func 95) [] []] false false 0,Blk.mk [Zaw (Fn.func 96) [] [Zaf [i64 fr]]] false false 0,Blk.mk (Zbu (Zao i*5) cs++(Qz22 x0 x1 x2 x3 x4)++Zce (Zao i*5+5) cs) false true v'] fun (blk8:Blk)=>lows 3 blk8.1) (K .normal (Zbj 2 v' n 5::Zaw (Fn.func 132) [] [Zai 1 0,Zai 0 0]::bds 3 (Zae (i64 (Zad .i64 (i+1)))::Zae (i64 (Zad .i64 (j+1)))::bds 35 [])) [Blk.mk [Zaw (Fn.func 95) [] []] false false 0,Blk.mk [Zaw (Fn.func 96) [] [Zaf [i64 fr]]] false false 0,Blk.mk (Zbu (Zao i*5) cs++(Qz22 x0 x1 x2 x3 x4)++Zce (Zao i*5+5) cs) false true v'] b) False) False) False) (BIf (Zbm [Blk.mk [Zaw (Fn.func 95) [] []] false false 0,Blk.mk [Zaw (Fn.func 96) [] [Zaf [i64 fr]]] false false 0,Blk.mk cs false true v'] fun (blk9:Blk)=>lows 3 blk9.1) (K .normal (Zbj 2 v' n 5::Zaw (Fn.func 132) [] [Zai 1 0,Zai 0 0]::bds 3 (Zae (i64 i)::Zae (i64 (Zad .i64 (j+1)))::bds 35 [])) [Blk.mk [Zaw (Fn.func 95) [] []] false false 0,Blk.mk [Zaw (Fn.func 96) [] [Zaf [i64 fr]]] false false 0,Blk.mk cs false true v'] b) False)) False) (BIf (Zbm [Blk.mk [Zaw (Fn.func 95) [] []] false false 0,Blk.mk [Zaw (Fn.func 96) [] [Zaf [i64 fr]]] false false 0,Blk.mk cs false true v'] fun (blk10:Blk)=>lows 3 blk10.1) (K (Zbs 0) (Zbj 2 v' n 5::Zaw (Fn.func 132) [] [Zai 1 0,Zai 0 0]::bds 3 (Qz53 i j)) [Blk.mk [Zaw (Fn.func 95) [] []] false false 0,Blk.mk [Zaw (Fn.func 96) [] [Zaf [i64 fr]]] false false 0,Blk.mk cs false true v'] b) False)):=by kernel_rfl
theorem BFe9 (fr:Int) (v':Nat) (hs:List GraT):Zbm (hpDfG fr v' (flatA (rowsG hs))) (fun blk=>lows 3 blk.1)=true:=by
 simp only [hpDfG,List.all_cons,List.all_nil,Zgd,Zaj];exact ⟨rfl,rfl,ACt9 3 _⟩
theorem wrDfG {Ev:Env prog} {b:Ev.β} {Q:Exit→St Ev.β→Prop} (v':Nat) (fr:Int) (hs:List GraT) (hl:hs.length<1000000)
 (hQ:∀cur:List GraT,cur.length=hs.length→cur.take (hs.filter fun x=> !(fun x:GraT=>decide (x.un<fr)) x).length=(hs.filter fun x=> !(fun x:GraT=>decide (x.un<fr)) x)→Q (.exit 0) ⟨tmDfG v' hs.length ((hs.filter fun x=> !(fun x:GraT=>decide (x.un<fr)) x).length:Nat) hs.length,hpDfG fr v' (flatA (rowsG cur)),b⟩)
 (j:Nat) (hj:hs.findIdx? (fun x:GraT=>decide (x.un<fr))=some j):WR Ev lpDfG ((hs.drop (j+1)).length+1) ⟨tmDfG v' hs.length (j:Nat) ((j+1:Nat):Int),hpDfG fr v' (flatA (rowsG hs)),b⟩ Q:=by
 obtain ⟨hj1,hj2⟩:=AFs9 hj;refine WR.delL (X:=⟨[],UDrG,wlW Ev,Ev.Y,false⟩) (k:=100) (L:=3) [0,1,5,6] mixed (CX.Ok.of Zak CCs9) hs (fun x:GraT=>decide (x.un<fr)) (fun i j=>tmDfG v' hs.length (i:Nat) (j:Nat)) (fun c=>hpDfG fr v' (flatA (rowsG c))) (fun _=>rfl) 0 (fun i j cur x hx hi hj hcl K k1 k2=> ?_) (fun i cur K hcl k1=> ?_) hQ (hs.drop (j+1)) (j+1) j hs rfl hj1 (by omega) rfl hj2 rfl
 ·refine Eq.mpr (rDfG _ _ _ K v' hs.length i j fr _) ?_;refine ⟨rfl,Zba (by simp;omega) ⟨rfl,Zba (by simp;omega) ⟨rfl,_,_,_,_,_,by rw [Zcn];exact fl_at AFp9 hx,x,fr,_,rfl,rfl,Zbe (fun h1=> ?_) fun h1=> ?_⟩⟩⟩
  ·rw [Zcq] at h1;have hk2:=k2 h1;have e:=BUb9 AFp9 (hs:=cur) (i:=i) (by omega) x;refine ⟨rfl,Zba (by simp;omega) ⟨rfl,Zba (by rw [Zcn];have:=AZa9 AFp9 cur;rw [show flatA (rowsG cur)=flatA (cur.map graR) from rfl,this];simp;omega) ?_⟩⟩;rw [Zcn,wrapN (by omega),wrapN (by omega)];have hlow:=BFe9 fr v' (cur.set i x);simp only [hpDfG,rowsG] at hk2 hlow;rw [←e] at hk2 hlow;exact Zba hlow hk2
  ·rw [Zek] at h1;rw [wrapN (by omega)];exact Zba (BFe9 fr v' cur) (k1 h1)
 ·refine Eq.mpr (rDfG _ _ _ K v' hs.length i hs.length fr _) ?_;exact ⟨rfl,Zdd (by simp) (Zba (BFe9 fr v' cur) k1)⟩
def BYa9 {β:Type}:WLT β:=fun c tm hp b K=>∃(v':Nat) (fr i j:Int) (hs out:List GraT),c= .loop lpDfG∧ABc9 [0,1,5,6] 0 tm=tmDfG v' hs.length i j∧hp=hpDfG fr v' (flatA (rowsG hs))∧(hs.length<1000000∧0≤i∧i=idxS (fun x:GraT=>decide (x.un<fr)) hs∧j=Zad Zbb (i+1)∧out=hs.filter fun x=> !(fun x:GraT=>decide (x.un<fr)) x)∧
 ∀(cur:List GraT),cur.length=hs.length→cur.take out.length=out→K (.exit 0) (tmDfG v' hs.length (out.length:Nat) hs.length) (hpDfG fr v' (flatA (rowsG cur))) b
theorem BIx9 {Ev:Env prog} (c:Code) (tm:List AV) (hp:List Blk) (b:Ev.β) (K:Exit→List AV→List Blk→Ev.β→Prop) (h:BYa9 c tm hp b K):W Ev c ⟨tm,hp,b⟩ (fun e s=>K e s.tm s.hp s.b):=by
 obtain ⟨v',fr,i,j,hs,_,rfl,htm,rfl,⟨hl,h0,hi,rfl,rfl⟩,hK⟩:=h;cases hf:hs.findIdx? (fun x:GraT=>decide (x.un<fr)) with
 |none=>rw [AAy9 hf] at hi;omega
 | some j0=>
  rw [AAi9 hf] at hi;subst hi;have hj1:=(AFs9 hf).1;rw [wrapN (by omega)] at htm;refine W.cast (htm▸AAd9 _ tm 0) (Zca _) ?_;exact W.rounds (wrDfG (Q:=fun e s=>K e s.tm s.hp s.b) v' fr hs hl hK j0 hf)
def TDfG:List (Nat×(List AV→(AV→Prop)→Prop)):= [(4000011,cNone)]
theorem BPv9:AAb9 prog TDfG:=Zah (ABu9 _) Zak
def UDfG:List (Nat×(List AV→List Blk→(AV→List Blk→Prop)→Prop)):= [(1000000+59,fun _ _ _=>False),(54,lendC BGg9)]
theorem BPt9:AAm9 prog UDfG:=Zby (fun _ _ _ h=>h.elim) (Zby (AFl9 AZn9) Zag)
def wlDfG {β:Type} (y:ACw9 β):WLT β:=wlZ prog ⟨TDfG,UDfG,fun _ _ _ _ _=>False,y,false⟩ BYa9
theorem CBm9 (v' n:Nat) (fr:Int) (cs:List AV):wpc prog ⟨TDfG,UDfG,wlDfG y,y,false⟩ 100 (code f131) (ACa9 f131 [.gref 2 v' n 5, .fn (.func 132) [] [.ptr 1 0, .ptr 0 0]]) (hpDfG fr v' cs) b (fnKS prog f131 Kr)=(v'=v'∧∃(xs0:List (List Dv)),cs=flatA xs0∧Zaa xs0=n∧(∀(r:List Dv),r∈xs0→Zaa r=5)∧∃(l1:List GraT) (fr2:Int) (q3:Int), [Zae (Zan 5 xs0),Zaw (Fn.func 132) [] [Zaf [Zcv (Fn.func 96) [Zdr [i64 fr]]],Zaf [Zcv (Fn.func 95) []]]]= [Zae (Zan 5 (rowsG l1)),Zaw (Fn.func 132) [] [Zaf [Zcv (Fn.func 96) [Zdr [i64 fr2]]],Zaf [Zcv (Fn.func 95) []]]]∧(Zaa l1≤9223372036854775807∧q3=idxS (fun (x4:GraT)=>decide (Zdw x4<fr2)) l1)∧BIf (q3==(-1:Int)) (Kr (Zbj 2 v' n 5) [Blk.mk [Zaw (Fn.func 95) [] []] false false 0,Blk.mk [Zaw (Fn.func 96) [] [Zaf [i64 fr]]] false false 0,Blk.mk cs false true v'] b) (∃(v5:Nat) (fr6:Int) (i7:Int) (j8:Int) (hs9:List GraT) (out10:List GraT),Zay lpDfG=Zay lpDfG∧(Zbj 2 v' n 5::Zaw (Fn.func 132) [] [Zai 1 0,Zai 0 0]::bds 3 (Zae (i64 q3)::Zae (i64 (Zad .i64 (q3+1)))::bds 35 []))=(Zbj 2 v5 (Zaa hs9) 5::Zaw (Fn.func 132) [] [Zai 1 0,Zai 0 0]::bds 3 (Qz53 i7 j8))∧ [Blk.mk [Zaw (Fn.func 95) [] []] false false 0,Blk.mk [Zaw (Fn.func 96) [] [Zaf [i64 fr]]] false false 0,Blk.mk cs false true v']= [Blk.mk [Zaw (Fn.func 95) [] []] false false 0,Blk.mk [Zaw (Fn.func 96) [] [Zaf [i64 fr6]]] false false 0,Blk.mk (flatA (rowsG hs9)) false true v5]∧(Zaa hs9<1000000∧(0:Int)≤i7∧i7=idxS (fun (x11:GraT)=>decide (Zdw x11<fr6)) hs9∧j8=Zad .i64 (i7+1)∧out10=Zcl (fun (x12:GraT)=> !decide (Zdw x12<fr6)) hs9)∧∀(cur:List GraT),Zaa cur=Zaa hs9→Zbu (Zaa out10) cur=out10→v5=v5∧BIf (true&&decide (((Zaa out10:Nat):Int)≤((Zaa hs9:Nat):Int))) (BIf (true&&decide (((Zaa out10:Nat):Int)≤((Zaa hs9:Nat):Int))) (v5=v5∧Kr (Zbj 2 (v5+1) (Zao ((Zaa out10:Nat):Int)) 5) [Blk.mk [Zaw (Fn.func 95) [] []] false false 0,Blk.mk [Zaw (Fn.func 96) [] [Zaf [i64 fr6]]] false false 0,Blk.mk (Zbu (Zao ((Zaa out10:Nat):Int)*5) (Zbu (Zao ((Zaa out10:Nat):Int)*5) (flatA (rowsG cur))++flatA (Zap (Zaa hs9 - Zao ((Zaa out10:Nat):Int)) [i64 0,i64 0,i64 0,i64 0,i64 0]))) false true (v5+1)] b) False) False)):=by kernel_rfl
theorem BUp9 (fr:Int):wpc prog ⟨TDfG,UDfG,wlDfG y,y,false⟩ 100 (code f131) (ACa9 f131 [.d (.sl 5 []), .fn (.func 132) [] [.ptr 1 0, .ptr 0 0]]) [boxA (.fn (.func 95) [] []),boxA (.fn (.func 96) [] [.rptr [i64 fr]])] b (fnKS prog f131 Kr)=(∃(l0:List GraT) (fr1:Int) (q2:Int), [Zae (Zan 5 []),Zaw (Fn.func 132) [] [Zaf [Zcv (Fn.func 96) [Zdr [i64 fr]]],Zaf [Zcv (Fn.func 95) []]]]= [Zae (Zan 5 (rowsG l0)),Zaw (Fn.func 132) [] [Zaf [Zcv (Fn.func 96) [Zdr [i64 fr1]]],Zaf [Zcv (Fn.func 95) []]]]∧(Zaa l0≤9223372036854775807∧q2=idxS (fun (x3:GraT)=>decide (Zdw x3<fr1)) l0)∧BIf (q2==(-1:Int)) (Kr (Zae (Zan 5 [])) [Blk.mk [Zaw (Fn.func 95) [] []] false false 0,Blk.mk [Zaw (Fn.func 96) [] [Zaf [i64 fr]]] false false 0] b) (∃(v4:Nat) (fr5:Int) (i6:Int) (j7:Int) (hs8:List GraT) (out9:List GraT),Zay lpDfG=Zay lpDfG∧(Zae (Zan 5 [])::Zaw (Fn.func 132) [] [Zai 1 0,Zai 0 0]::bds 3 (Zae (i64 q2)::Zae (i64 (Zad .i64 (q2+1)))::bds 35 []))=(Zbj 2 v4 (Zaa hs8) 5::Zaw (Fn.func 132) [] [Zai 1 0,Zai 0 0]::bds 3 (Qz53 i6 j7))∧ [Blk.mk [Zaw (Fn.func 95) [] []] false false 0,Blk.mk [Zaw (Fn.func 96) [] [Zaf [i64 fr]]] false false 0]= [Blk.mk [Zaw (Fn.func 95) [] []] false false 0,Blk.mk [Zaw (Fn.func 96) [] [Zaf [i64 fr5]]] false false 0,Blk.mk (flatA (rowsG hs8)) false true v4]∧(Zaa hs8<1000000∧(0:Int)≤i6∧i6=idxS (fun (x10:GraT)=>decide (Zdw x10<fr5)) hs8∧j7=Zad .i64 (i6+1)∧out9=Zcl (fun (x11:GraT)=> !decide (Zdw x11<fr5)) hs8)∧∀(cur:List GraT),Zaa cur=Zaa hs8→Zbu (Zaa out9) cur=out9→v4=v4∧BIf (true&&decide (((Zaa out9:Nat):Int)≤((Zaa hs8:Nat):Int))) (BIf (true&&decide (((Zaa out9:Nat):Int)≤((Zaa hs8:Nat):Int))) (v4=v4∧Kr (Zbj 2 (v4+1) (Zao ((Zaa out9:Nat):Int)) 5) [Blk.mk [Zaw (Fn.func 95) [] []] false false 0,Blk.mk [Zaw (Fn.func 96) [] [Zaf [i64 fr5]]] false false 0,Blk.mk (Zbu (Zao ((Zaa out9:Nat):Int)*5) (Zbu (Zao ((Zaa out9:Nat):Int)*5) (flatA (rowsG cur))++flatA (Zap (Zaa hs8 - Zao ((Zaa out9:Nat):Int)) [i64 0,i64 0,i64 0,i64 0,i64 0]))) false true (v4+1)] b) False) False)):=by kernel_rfl
def GCA:List (Nat×(List AV→List Blk→(AV→List Blk→Prop)→Prop)):= [(1000000+63,fun _ _ _=>False)]
theorem AUt9:AAm9 prog GCA:=Zby (fun _ _ _ h=>h.elim) Zag
theorem BLm9 (xs:List (List Dv)):wpFnS prog ⟨[],GCA,wl,y,false⟩ 100 f97 [.d (.sl 3 xs)] b Kr=(∀(t:Bool),(t=true→xs= [])→BIf t (Kr (Zae (Zde (.slice none 0 0))) [] b) (BIf (true&&decide (Zaa xs*24≤140737488355328)) (BIf (decide (0<Zaa xs)) (Kr (Zbj 0 0 (Zaa xs) 3) [Blk.mk (flatA xs) false true 0] b) (Kr (Zfh 3 []) [] b)) False)):=by kernel_rfl
theorem BEw9:ASi9 prog 97 3:=fun xs hl=>by
 refine Zgt (n:=100) (u:=false) (fun _=>fun _ _ _ _ _=>False) mixed Zak AUt9 (fun Ev _ _ _ _ _ h=>h.elim) func97 (by rfl) (by rfl) (by split<;>rfl) fun Ev bb=> ?_;rw [BLm9];refine fun t ht=>Zbe (fun h=>by rw [ht h];exact ⟨.nilFull rfl,rfl⟩) fun h=>Zba (by simp<;>omega) ?_;cases xs with
 |nil=>exact Zdd rfl ⟨.rfl,rfl⟩
 |cons a xs=>exact Zba (by simp) ⟨.rfl,rfl⟩
theorem AMe9 (x:AskT):(askR x).length=3:=rfl
theorem AMz9 (l:List AskT):∀r∈rowsA l,r.length=3:=by
 intro r hr;simp only [rowsA,Zbh] at hr;obtain ⟨x,_,rfl⟩:=hr;rfl
def BPb9 (args:List AV) (K:AV→Prop):Prop:=∃l:List AskT,args= [.d (.sl 3 (rowsA l))]∧l.length≤1000000∧K (.d (.sl 3 (rowsA l)))
theorem BGx9:∀args K,BPb9 args K→∃x,PCall prog 97 args x∧K x:=by
 rintro _ K ⟨l,rfl,hl,hk⟩;exact ⟨_,ASi9.pc BEw9 (rowsA l) (by rw [AAo9];exact hl) (AMz9 l),hk⟩
def BNr9 (args:List AV) (hp:List Blk) (K:AV→List Blk→Prop):Prop:=∃(hs:List AskT),args= [.d (.sl 3 (rowsA hs))]∧hs.length≤1000000∧BIf hs.isEmpty (K (.d (.sl 3 [])) hp) (K (.gref hp.length 0 hs.length 3) (hp++ [growB 0 (flatA (rowsA hs))]))
theorem BCm9:∀args hp K,BNr9 args hp K→∃x hp',SCall prog 97 args hp x hp'∧K x hp':=by
 rintro _ hp K ⟨hs,rfl,hl,hK⟩;have h1:=(BEw9 (rowsA hs) (by rw [AAo9];omega)).toS rfl hp;cases hs with
 |nil=>exact ⟨_,_,SCall.toSl h1,by simpa [rowsA,AGb9,BIf] using hK⟩
 | cons a r=>
  refine ⟨_,_,h1, ?_⟩;simpa [rowsA,shift,AGb9,AQg9,blkG,AHe9,BIf,growB] using hK
noncomputable def lpDfA:Code:=sub [1,1,1,0,1,2,3] (code f147)
def tmDfA (v n:Nat) (i j:Int):List AV:= [.gref 2 v n 3, .fn (.func 148) [] [.ptr 1 0, .ptr 0 0], .bad, .bad, .bad, .d (i64 i), .d (i64 j)]++Zap 35 .bad
def UDrA:List (Nat×(List AV→List Blk→(AV→List Blk→Prop)→Prop)):= [(1000000+63,fun _ _ _=>False),(148,lendC BHd9)]
theorem CCt9:AAm9 prog UDrA:=Zby (fun _ _ _ h=>h.elim) (Zby (AFl9 ASb9) Zag)
def hpDfA (sl:Int) (v':Nat) (cs:List AV):List Blk:= [boxA (.fn (.func 118) [] []),boxA (.fn (.func 138) [] [.rptr [i64 sl]]),growB v' cs]
theorem rDfA (v' n:Nat) (i j sl:Int) (cs:List AV):wpc prog ⟨[],UDrA,wl,y,false⟩ 100 lpDfA (tmDfA v' n i j) (hpDfA sl v' cs) b (maskK 3 [0,1,5,6] K)=(v'=v'∧BIf (decide (j<(n:Int))) (v'=v'∧BIf (decide (0≤j)&&decide (j<(n:Int))) (v'=v'∧∃(x0:Int) (x1:Int) (x2:Int),Zbu 3 (Zce (Zao j*3) cs)=(Qz26 x0 x1 x2)∧∃(x3:AskT) (sl4:Int) (q5:Bool), [Zaq (Qz26 x0 x1 x2),Zaf [Zcv (Fn.func 138) [Zdr [i64 sl]]],Zaf [Zcv (Fn.func 118) []]]= [Zaq (Qz11 x3),Zaf [Zcv (Fn.func 138) [Zdr [i64 sl4]]],Zaf [Zcv (Fn.func 118) []]]∧q5=(Zcs x3==sl4)∧BIf (!q5) (v'=v'∧BIf (decide (0≤i)&&decide (i<(n:Int))) (v'=v'∧BIf (decide (Zao i*3+3≤Zaa cs)) (BIf (Zbm [Blk.mk [Zaw (Fn.func 118) [] []] false false 0,Blk.mk [Zaw (Fn.func 138) [] [Zaf [i64 sl]]] false false 0,Blk.mk (Zbu (Zao i*3) cs++(Qz26 x0 x1 x2)++Zce (Zao i*3+3) cs) false true v'] fun (blk6:Blk)=>lows 3 blk6.1) (K .normal (Zbj 2 v' n 3::Zaw (Fn.func 148) [] [Zai 1 0,Zai 0 0]::bds 3 (Zae (i64 (Zad .i64 (i+1)))::Zae (i64 (Zad .i64 (j+1)))::bds 35 [])) [Blk.mk [Zaw (Fn.func 118) [] []] false false 0,Blk.mk [Zaw (Fn.func 138) [] [Zaf [i64 sl]]] false false 0,Blk.mk (Zbu (Zao i*3) cs++(Qz26 x0 x1 x2)++Zce (Zao i*3+3) cs) false true v'] b) False) False) False) (BIf (Zbm [Blk.mk [Zaw (Fn.func 118) [] []] false false 0,Blk.mk [Zaw (Fn.func 138) [] [Zaf [i64 sl]]] false false 0,Blk.mk cs false true v'] fun (blk7:Blk)=>lows 3 blk7.1) (K .normal (Zbj 2 v' n 3::Zaw (Fn.func 148) [] [Zai 1 0,Zai 0 0]::bds 3 (Zae (i64 i)::Zae (i64 (Zad .i64 (j+1)))::bds 35 [])) [Blk.mk [Zaw (Fn.func 118) [] []] false false 0,Blk.mk [Zaw (Fn.func 138) [] [Zaf [i64 sl]]] false false 0,Blk.mk cs false true v'] b) False)) False) (BIf (Zbm [Blk.mk [Zaw (Fn.func 118) [] []] false false 0,Blk.mk [Zaw (Fn.func 138) [] [Zaf [i64 sl]]] false false 0,Blk.mk cs false true v'] fun (blk8:Blk)=>lows 3 blk8.1) (K (Zbs 0) (Zbj 2 v' n 3::Zaw (Fn.func 148) [] [Zai 1 0,Zai 0 0]::bds 3 (Qz53 i j)) [Blk.mk [Zaw (Fn.func 118) [] []] false false 0,Blk.mk [Zaw (Fn.func 138) [] [Zaf [i64 sl]]] false false 0,Blk.mk cs false true v'] b) False)):=by kernel_rfl
theorem BFf9 (sl:Int) (v':Nat) (hs:List AskT):Zbm (hpDfA sl v' (flatA (rowsA hs))) (fun blk=>lows 3 blk.1)=true:=by
 simp only [hpDfA,List.all_cons,List.all_nil,Zgd,Zaj];exact ⟨rfl,rfl,ACt9 3 _⟩
theorem wrDfA {Ev:Env prog} {b:Ev.β} {Q:Exit→St Ev.β→Prop} (v':Nat) (sl:Int) (hs:List AskT) (hl:hs.length<1000000)
 (hQ:∀cur:List AskT,cur.length=hs.length→cur.take (hs.filter fun x=> !(fun x:AskT=>x.sl==sl) x).length=(hs.filter fun x=> !(fun x:AskT=>x.sl==sl) x)→Q (.exit 0) ⟨tmDfA v' hs.length ((hs.filter fun x=> !(fun x:AskT=>x.sl==sl) x).length:Nat) hs.length,hpDfA sl v' (flatA (rowsA cur)),b⟩)
 (j:Nat) (hj:hs.findIdx? (fun x:AskT=>x.sl==sl)=some j):WR Ev lpDfA ((hs.drop (j+1)).length+1) ⟨tmDfA v' hs.length (j:Nat) ((j+1:Nat):Int),hpDfA sl v' (flatA (rowsA hs)),b⟩ Q:=by
 obtain ⟨hj1,hj2⟩:=AFs9 hj;refine WR.delL (X:=⟨[],UDrA,wlW Ev,Ev.Y,false⟩) (k:=100) (L:=3) [0,1,5,6] mixed (CX.Ok.of Zak CCt9) hs (fun x:AskT=>x.sl==sl) (fun i j=>tmDfA v' hs.length (i:Nat) (j:Nat)) (fun c=>hpDfA sl v' (flatA (rowsA c))) (fun _=>rfl) 0 (fun i j cur x hx hi hj hcl K k1 k2=> ?_) (fun i cur K hcl k1=> ?_) hQ (hs.drop (j+1)) (j+1) j hs rfl hj1 (by omega) rfl hj2 rfl
 ·refine Eq.mpr (rDfA _ _ _ K v' hs.length i j sl _) ?_;refine ⟨rfl,Zba (by simp;omega) ⟨rfl,Zba (by simp;omega) ⟨rfl,_,_,_,by rw [Zcn];exact fl_at AMe9 hx,x,sl,_,rfl,rfl,Zbe (fun h1=> ?_) fun h1=> ?_⟩⟩⟩
  ·rw [Zcq] at h1;have hk2:=k2 h1;have e:=BUb9 AMe9 (hs:=cur) (i:=i) (by omega) x;refine ⟨rfl,Zba (by simp;omega) ⟨rfl,Zba (by rw [Zcn];have:=AZa9 AMe9 cur;rw [show flatA (rowsA cur)=flatA (cur.map askR) from rfl,this];simp;omega) ?_⟩⟩;rw [Zcn,wrapN (by omega),wrapN (by omega)];have hlow:=BFf9 sl v' (cur.set i x);simp only [hpDfA,rowsA] at hk2 hlow;rw [←e] at hk2 hlow;exact Zba hlow hk2
  ·rw [Zek] at h1;rw [wrapN (by omega)];exact Zba (BFf9 sl v' cur) (k1 h1)
 ·refine Eq.mpr (rDfA _ _ _ K v' hs.length i hs.length sl _) ?_;exact ⟨rfl,Zdd (by simp) (Zba (BFf9 sl v' cur) k1)⟩
def BYb9 {β:Type}:WLT β:=fun c tm hp b K=>∃(v':Nat) (sl i j:Int) (hs out:List AskT),c= .loop lpDfA∧ABc9 [0,1,5,6] 0 tm=tmDfA v' hs.length i j∧hp=hpDfA sl v' (flatA (rowsA hs))∧(hs.length<1000000∧0≤i∧i=idxS (fun x:AskT=>x.sl==sl) hs∧j=Zad Zbb (i+1)∧out=hs.filter fun x=> !(fun x:AskT=>x.sl==sl) x)∧
 ∀(cur:List AskT),cur.length=hs.length→cur.take out.length=out→K (.exit 0) (tmDfA v' hs.length (out.length:Nat) hs.length) (hpDfA sl v' (flatA (rowsA cur))) b
theorem BIy9 {Ev:Env prog} (c:Code) (tm:List AV) (hp:List Blk) (b:Ev.β) (K:Exit→List AV→List Blk→Ev.β→Prop) (h:BYb9 c tm hp b K):W Ev c ⟨tm,hp,b⟩ (fun e s=>K e s.tm s.hp s.b):=by
 obtain ⟨v',sl,i,j,hs,_,rfl,htm,rfl,⟨hl,h0,hi,rfl,rfl⟩,hK⟩:=h;cases hf:hs.findIdx? (fun x:AskT=>x.sl==sl) with
 |none=>rw [AAy9 hf] at hi;omega
 | some j0=>
  rw [AAi9 hf] at hi;subst hi;have hj1:=(AFs9 hf).1;rw [wrapN (by omega)] at htm;refine W.cast (htm▸AAd9 _ tm 0) (Zca _) ?_;exact W.rounds (wrDfA (Q:=fun e s=>K e s.tm s.hp s.b) v' sl hs hl hK j0 hf)
def TDfA:List (Nat×(List AV→(AV→Prop)→Prop)):= [(4000011,cNone)]
theorem BPw9:AAb9 prog TDfA:=Zah (ABu9 _) Zak
def UDfA:List (Nat×(List AV→List Blk→(AV→List Blk→Prop)→Prop)):= [(1000000+63,fun _ _ _=>False),(90,lendC BGh9)]
theorem BPu9:AAm9 prog UDfA:=Zby (fun _ _ _ h=>h.elim) (Zby (AFl9 AZo9) Zag)
def wlDfA {β:Type} (y:ACw9 β):WLT β:=wlZ prog ⟨TDfA,UDfA,fun _ _ _ _ _=>False,y,false⟩ BYb9
theorem CBo9 (v' n:Nat) (sl:Int) (cs:List AV):wpc prog ⟨TDfA,UDfA,wlDfA y,y,false⟩ 100 (code f147) (ACa9 f147 [.gref 2 v' n 3, .fn (.func 148) [] [.ptr 1 0, .ptr 0 0]]) (hpDfA sl v' cs) b (fnKS prog f147 Kr)=(v'=v'∧∃(xs0:List (List Dv)),cs=flatA xs0∧Zaa xs0=n∧(∀(r:List Dv),r∈xs0→Zaa r=3)∧∃(l1:List AskT) (sl2:Int) (q3:Int), [Zae (Zan 3 xs0),Zaw (Fn.func 148) [] [Zaf [Zcv (Fn.func 138) [Zdr [i64 sl]]],Zaf [Zcv (Fn.func 118) []]]]= [Zae (Zan 3 (rowsA l1)),Zaw (Fn.func 148) [] [Zaf [Zcv (Fn.func 138) [Zdr [i64 sl2]]],Zaf [Zcv (Fn.func 118) []]]]∧(Zaa l1≤9223372036854775807∧q3=idxS (fun (x4:AskT)=>Zcs x4==sl2) l1)∧BIf (q3==(-1:Int)) (Kr (Zbj 2 v' n 3) [Blk.mk [Zaw (Fn.func 118) [] []] false false 0,Blk.mk [Zaw (Fn.func 138) [] [Zaf [i64 sl]]] false false 0,Blk.mk cs false true v'] b) (∃(v5:Nat) (sl6:Int) (i7:Int) (j8:Int) (hs9:List AskT) (out10:List AskT),Zay lpDfA=Zay lpDfA∧(Zbj 2 v' n 3::Zaw (Fn.func 148) [] [Zai 1 0,Zai 0 0]::bds 3 (Zae (i64 q3)::Zae (i64 (Zad .i64 (q3+1)))::bds 35 []))=(Zbj 2 v5 (Zaa hs9) 3::Zaw (Fn.func 148) [] [Zai 1 0,Zai 0 0]::bds 3 (Qz53 i7 j8))∧ [Blk.mk [Zaw (Fn.func 118) [] []] false false 0,Blk.mk [Zaw (Fn.func 138) [] [Zaf [i64 sl]]] false false 0,Blk.mk cs false true v']= [Blk.mk [Zaw (Fn.func 118) [] []] false false 0,Blk.mk [Zaw (Fn.func 138) [] [Zaf [i64 sl6]]] false false 0,Blk.mk (flatA (rowsA hs9)) false true v5]∧(Zaa hs9<1000000∧(0:Int)≤i7∧i7=idxS (fun (x11:AskT)=>Zcs x11==sl6) hs9∧j8=Zad .i64 (i7+1)∧out10=Zcl (fun (x12:AskT)=> !AskT.sl x12==sl6) hs9)∧∀(cur:List AskT),Zaa cur=Zaa hs9→Zbu (Zaa out10) cur=out10→v5=v5∧BIf (true&&decide (((Zaa out10:Nat):Int)≤((Zaa hs9:Nat):Int))) (BIf (true&&decide (((Zaa out10:Nat):Int)≤((Zaa hs9:Nat):Int))) (v5=v5∧Kr (Zbj 2 (v5+1) (Zao ((Zaa out10:Nat):Int)) 3) [Blk.mk [Zaw (Fn.func 118) [] []] false false 0,Blk.mk [Zaw (Fn.func 138) [] [Zaf [i64 sl6]]] false false 0,Blk.mk (Zbu (Zao ((Zaa out10:Nat):Int)*3) (Zbu (Zao ((Zaa out10:Nat):Int)*3) (flatA (rowsA cur))++flatA (Zap (Zaa hs9 - Zao ((Zaa out10:Nat):Int)) [i64 0,i64 0,i64 0]))) false true (v5+1)] b) False) False)):=by kernel_rfl
theorem BUq9 (sl:Int):wpc prog ⟨TDfA,UDfA,wlDfA y,y,false⟩ 100 (code f147) (ACa9 f147 [.d (.sl 3 []), .fn (.func 148) [] [.ptr 1 0, .ptr 0 0]]) [boxA (.fn (.func 118) [] []),boxA (.fn (.func 138) [] [.rptr [i64 sl]])] b (fnKS prog f147 Kr)=(∃(l0:List AskT) (sl1:Int) (q2:Int), [Zae (Zan 3 []),Zaw (Fn.func 148) [] [Zaf [Zcv (Fn.func 138) [Zdr [i64 sl]]],Zaf [Zcv (Fn.func 118) []]]]= [Zae (Zan 3 (rowsA l0)),Zaw (Fn.func 148) [] [Zaf [Zcv (Fn.func 138) [Zdr [i64 sl1]]],Zaf [Zcv (Fn.func 118) []]]]∧(Zaa l0≤9223372036854775807∧q2=idxS (fun (x3:AskT)=>Zcs x3==sl1) l0)∧BIf (q2==(-1:Int)) (Kr (Zae (Zan 3 [])) [Blk.mk [Zaw (Fn.func 118) [] []] false false 0,Blk.mk [Zaw (Fn.func 138) [] [Zaf [i64 sl]]] false false 0] b) (∃(v4:Nat) (sl5:Int) (i6:Int) (j7:Int) (hs8:List AskT) (out9:List AskT),Zay lpDfA=Zay lpDfA∧(Zae (Zan 3 [])::Zaw (Fn.func 148) [] [Zai 1 0,Zai 0 0]::bds 3 (Zae (i64 q2)::Zae (i64 (Zad .i64 (q2+1)))::bds 35 []))=(Zbj 2 v4 (Zaa hs8) 3::Zaw (Fn.func 148) [] [Zai 1 0,Zai 0 0]::bds 3 (Qz53 i6 j7))∧ [Blk.mk [Zaw (Fn.func 118) [] []] false false 0,Blk.mk [Zaw (Fn.func 138) [] [Zaf [i64 sl]]] false false 0]= [Blk.mk [Zaw (Fn.func 118) [] []] false false 0,Blk.mk [Zaw (Fn.func 138) [] [Zaf [i64 sl5]]] false false 0,Blk.mk (flatA (rowsA hs8)) false true v4]∧(Zaa hs8<1000000∧(0:Int)≤i6∧i6=idxS (fun (x10:AskT)=>Zcs x10==sl5) hs8∧j7=Zad .i64 (i6+1)∧out9=Zcl (fun (x11:AskT)=> !AskT.sl x11==sl5) hs8)∧∀(cur:List AskT),Zaa cur=Zaa hs8→Zbu (Zaa out9) cur=out9→v4=v4∧BIf (true&&decide (((Zaa out9:Nat):Int)≤((Zaa hs8:Nat):Int))) (BIf (true&&decide (((Zaa out9:Nat):Int)≤((Zaa hs8:Nat):Int))) (v4=v4∧Kr (Zbj 2 (v4+1) (Zao ((Zaa out9:Nat):Int)) 3) [Blk.mk [Zaw (Fn.func 118) [] []] false false 0,Blk.mk [Zaw (Fn.func 138) [] [Zaf [i64 sl5]]] false false 0,Blk.mk (Zbu (Zao ((Zaa out9:Nat):Int)*3) (Zbu (Zao ((Zaa out9:Nat):Int)*3) (flatA (rowsA cur))++flatA (Zap (Zaa hs8 - Zao ((Zaa out9:Nat):Int)) [i64 0,i64 0,i64 0]))) false true (v4+1)] b) False) False)):=by kernel_rfl
def GCU:List (Nat×(List AV→List Blk→(AV→List Blk→Prop)→Prop)):= [(1000000+61,fun _ _ _=>False)]
theorem BWt9:AAm9 prog GCU:=Zby (fun _ _ _ h=>h.elim) Zag
theorem BLk9 (xs:List (List Dv)):wpFnS prog ⟨[],GCU,wl,y,false⟩ 100 f93 [.d (.sl 4 xs)] b Kr=(∀(t:Bool),(t=true→xs= [])→BIf t (Kr (Zae (Zde (.slice none 0 0))) [] b) (BIf (true&&decide (Zaa xs*32≤140737488355328)) (BIf (decide (0<Zaa xs)) (Kr (Zbj 0 0 (Zaa xs) 4) [Blk.mk (flatA xs) false true 0] b) (Kr (Zfh 4 []) [] b)) False)):=by kernel_rfl
theorem BUe9:ASi9 prog 93 4:=fun xs hl=>by
 refine Zgt (n:=100) (u:=false) (fun _=>fun _ _ _ _ _=>False) mixed Zak BWt9 (fun Ev _ _ _ _ _ h=>h.elim) func93 (by rfl) (by rfl) (by split<;>rfl) fun Ev bb=> ?_;rw [BLk9];refine fun t ht=>Zbe (fun h=>by rw [ht h];exact ⟨.nilFull rfl,rfl⟩) fun h=>Zba (by simp<;>omega) ?_;cases xs with
 |nil=>exact Zdd rfl ⟨.rfl,rfl⟩
 |cons a xs=>exact Zba (by simp) ⟨.rfl,rfl⟩
theorem BNs9 (l:List UseT):∀r∈rowsU l,r.length=4:=by
 intro r hr;simp only [rowsU,Zbh] at hr;obtain ⟨x,_,rfl⟩:=hr;rfl
def BGv9 (args:List AV) (K:AV→Prop):Prop:=∃l:List UseT,args= [.d (.sl 4 (rowsU l))]∧l.length≤1000000∧K (.d (.sl 4 (rowsU l)))
theorem ARz9:∀args K,BGv9 args K→∃x,PCall prog 93 args x∧K x:=by
 rintro _ K ⟨l,rfl,hl,hk⟩;exact ⟨_,ASi9.pc BUe9 (rowsU l) (by rw [AAj9];exact hl) (BNs9 l),hk⟩
theorem AWa9:Tryz.f131.body=some (code f131):=by rfl
def delVG (v':Nat) (fr:Int) (hs:List GraT):Nat:=if (hs.findIdx? (fun x:GraT=>decide (x.un<fr))).isSome then v'+1 else v'
theorem CBn9 (Ev:Env prog):CX.Ok Ev ⟨TDfG,UDfG,wlDfG Ev.Y,Ev.Y,false⟩:=
 CX.Ok.ofWl BPv9 BPt9 (BXh9 (X:=⟨TDfG,UDfG,fun _ _ _ _ _=>False,Ev.Y,false⟩) (CX.Ok.ofWl BPv9 BPt9 fun _ _ _ _ _ h=>h.elim) BIx9)
theorem BYq9 (fr:Int):SCall prog 131 [.d (.sl 5 []), .fn (.func 132) [] [.ptr 1 0, .ptr 0 0]] [boxA (.fn (.func 95) [] []),boxA (.fn (.func 96) [] [.rptr [i64 fr]])] (.d (.sl 5 [])) [boxA (.fn (.func 95) [] []),boxA (.fn (.func 96) [] [.rptr [i64 fr]])]:=by
 refine Zgk func131 AWa9 (by rfl) fun Ev b=> ?_;refine AAv9 (X:=⟨TDfG,UDfG,wlDfG Ev.Y,Ev.Y,false⟩) (n:=100) mixed (CBn9 Ev) ?_ fun e tm hp b hK=>AEw9 hK;rw [BUp9];exact ⟨[],fr, -1,rfl,⟨by simp,rfl⟩,Zba (by decide) ⟨rfl,rfl⟩⟩
theorem CDt9 (v':Nat) (fr:Int) (hs:List GraT) (hl:hs.length<1000000):
 SCall prog 131 [.gref 2 v' hs.length 5, .fn (.func 132) [] [.ptr 1 0, .ptr 0 0]] (hpDfG fr v' (flatA (rowsG hs))) (.gref 2 (delVG v' fr hs) (hs.filter (fun x:GraT=> !(fun x:GraT=>decide (x.un<fr)) x)).length 5) (hpDfG fr (delVG v' fr hs) (flatA (rowsG (hs.filter (fun x:GraT=> !(fun x:GraT=>decide (x.un<fr)) x))))):=by
 refine Zgk func131 AWa9 (by rfl) fun Ev b=> ?_;refine AAv9 (X:=⟨TDfG,UDfG,wlDfG Ev.Y,Ev.Y,false⟩) (n:=100) mixed (CBn9 Ev) ?_ fun e tm hp b hK=>AEw9 hK;refine Eq.mpr (CBm9 _ _ _ v' hs.length fr _) ?_;refine ⟨rfl,rowsG hs,rfl,AAg9 hs,AQl9 hs,hs,fr,_,rfl,⟨by omega,rfl⟩,Zbe (fun h1=> ?_) fun h1=> ?_⟩
 ·have hn:hs.findIdx? (fun x:GraT=>decide (x.un<fr))=none:=by
   cases hf:hs.findIdx? (fun x:GraT=>decide (x.un<fr)) with
   |none=>rfl
   |some j=>rw [AAi9 hf] at h1;simp at h1
  rw [delVG,hn,BEs9 hn];exact ⟨rfl,rfl⟩
 ·cases hf:hs.findIdx? (fun x:GraT=>decide (x.un<fr)) with
  |none=>rw [AAy9 hf] at h1;simp at h1
  | some j=>
   have hle:(hs.filter (fun x:GraT=> !(fun x:GraT=>decide (x.un<fr)) x)).length≤hs.length:=Zei _ _;refine ⟨v',fr,_,_,hs,_,rfl,rfl,rfl,⟨hl,by rw [AAi9 hf];omega,rfl,rfl,rfl⟩,fun cur hcl hct=>⟨rfl,Zba (by simp;exact hle) (Zba (by simp;exact hle) ⟨rfl, ?_⟩)⟩⟩;rw [Zcn,delVG,hf];refine ⟨rfl, ?_⟩;have hcur:flatA (rowsG cur)=flatA (cur.map graR):=rfl;have e:((flatA (rowsG cur)).take ((hs.filter (fun x:GraT=> !(fun x:GraT=>decide (x.un<fr)) x)).length*5)).length=(hs.filter (fun x:GraT=> !(fun x:GraT=>decide (x.un<fr)) x)).length*5:=by
    rw [Zcf,hcur,AZa9 AFp9,hcl];omega
   rw [Zey (by rw [e];exact Zav _),List.take_take,Nat.min_self,hcur,ARr9 AFp9,hct];rfl
def sDelG (args:List AV) (hp:List Blk) (K:AV→List Blk→Prop):Prop:=match hp with
 | [b0,b1]=>∃(fr:Int),args= [.d (.sl 5 []), .fn (.func 132) [] [.ptr 1 0, .ptr 0 0]]∧b0=boxA (.fn (.func 95) [] [])∧b1=boxA (.fn (.func 96) [] [.rptr [i64 fr]])∧K (.d (.sl 5 [])) [boxA (.fn (.func 95) [] []),boxA (.fn (.func 96) [] [.rptr [i64 fr]])]
 | [b0,b1,b2]=>∃(v' n:Nat) (fr:Int) (hs out:List GraT),args= [.gref 2 v' n 5, .fn (.func 132) [] [.ptr 1 0, .ptr 0 0]]∧b0=boxA (.fn (.func 95) [] [])∧b1=boxA (.fn (.func 96) [] [.rptr [i64 fr]])∧b2=growB v' (flatA (rowsG hs))∧(n=hs.length∧hs.length<1000000∧out=hs.filter (fun x:GraT=> !(fun x:GraT=>decide (x.un<fr)) x))∧
  ∀v',K (.gref 2 v' out.length 5) [boxA (.fn (.func 95) [] []),boxA (.fn (.func 96) [] [.rptr [i64 fr]]),growB v' (flatA (rowsG out))]
 |_=>False
theorem BRp9:∀args hp K,sDelG args hp K→∃x hp',SCall prog 131 args hp x hp'∧K x hp':=by
 intro args hp K h;unfold sDelG at h;split at h
 ·obtain ⟨fr,rfl,rfl,rfl,h⟩:=h;exact ⟨_,_,BYq9 fr,h⟩
 ·obtain ⟨v',_,fr,hs,_,rfl,rfl,rfl,rfl,⟨rfl,hl,rfl⟩,h⟩:=h;exact ⟨_,_,CDt9 v' fr hs hl,h _⟩
 ·exact h.elim
def UWoG:List (Nat×(List AV→List Blk→(AV→List Blk→Prop)→Prop)):= [(1000000+59,fun _ _ _=>False),(48,BCl9),(131,sDelG)]
theorem CCo9:AAm9 prog UWoG:=Zby (fun _ _ _ h=>h.elim) (Zby AQj9 (Zby BRp9 Zag))
theorem CDo9 (hs:List GraT) (fr:Int):wpFn prog ⟨[],UWoG,wl,y,false⟩ 100 f94 [.d (.sl 5 (rowsG hs)), .fn (.func 95) [] [], .fn (.func 96) [] [.rptr [i64 fr]]] b R=(∃(hs0:List GraT), [Zae (Zan 5 (rowsG hs))]= [Zae (Zan 5 (rowsG hs0))]∧Zaa hs0≤1000000∧BIf (Zfu hs0) (∃(fr1:Int), [Zae (Zan 5 []),Zaw (Fn.func 132) [] [Zai 1 0,Zai 0 0]]= [Zae (Zan 5 []),Zaw (Fn.func 132) [] [Zai 1 0,Zai 0 0]]∧Blk.mk [Zaw (Fn.func 95) [] []] false false 0=Blk.mk [Zaw (Fn.func 95) [] []] false false 0∧Blk.mk [Zaw (Fn.func 96) [] [Zaf [i64 fr]]] false false 0=Blk.mk [Zaw (Fn.func 96) [] [Zaf [i64 fr1]]] false false 0∧R (.d (Zan 5 [])) b) (∃(v2:Nat) (n3:Nat) (fr4:Int) (hs5:List GraT) (out6:List GraT), [Zbj 2 0 (Zaa hs0) 5,Zaw (Fn.func 132) [] [Zai 1 0,Zai 0 0]]= [Zbj 2 v2 n3 5,Zaw (Fn.func 132) [] [Zai 1 0,Zai 0 0]]∧Blk.mk [Zaw (Fn.func 95) [] []] false false 0=Blk.mk [Zaw (Fn.func 95) [] []] false false 0∧Blk.mk [Zaw (Fn.func 96) [] [Zaf [i64 fr]]] false false 0=Blk.mk [Zaw (Fn.func 96) [] [Zaf [i64 fr4]]] false false 0∧Blk.mk (flatA (rowsG hs0)) false true 0=Blk.mk (flatA (rowsG hs5)) false true v2∧(n3=Zaa hs5∧Zaa hs5<1000000∧out6=Zcl (fun (x7:GraT)=> !decide (Zdw x7<fr4)) hs5)∧∀(v':Nat),v'=v'∧∃(xs8:List (List Dv)),flatA (rowsG out6)=flatA xs8∧Zaa xs8=Zaa out6∧(∀(r:List Dv),r∈xs8→Zaa r=5)∧R (.d (Zan 5 xs8)) b)):=by kernel_rfl
theorem pcWoG (hs:List GraT) (fr:Int) (hl:hs.length<1000000):PCall prog 94 [.d (.sl 5 (rowsG hs)), .fn (.func 95) [] [], .fn (.func 96) [] [.rptr [i64 fr]]] (.d (.sl 5 (rowsG (hs.filter (fun x:GraT=> !(fun x:GraT=>decide (x.un<fr)) x))))):=by
 refine Zbg (n:=100) (u:=false) mixed Zak CCo9 func94 (by rfl) (by rfl) fun Ev bb=> ?_;rw [CDo9];refine ⟨hs,rfl,by omega,Zbe (fun h1=> ?_) fun h1=> ?_⟩
 ·have h2:hs= []:=List.isEmpty_iff.1 h1;subst h2;exact ⟨fr,rfl,rfl,rfl,rfl⟩
 ·refine ⟨0,_,fr,hs,_,rfl,rfl,rfl,rfl,⟨rfl,hl,rfl⟩,fun v'=>⟨rfl,rowsG (hs.filter (fun x:GraT=> !(fun x:GraT=>decide (x.un<fr)) x)),rfl,AAg9 _,AQl9 _,rfl⟩⟩
def cWoG (args:List AV) (K:AV→Prop):Prop:=∃(hs z:List GraT) (fr:Int),args= [.d (.sl 5 (rowsG hs)), .fn (.func 95) [] [], .fn (.func 96) [] [.rptr [i64 fr]]]∧(hs.length<1000000∧z=hs.filter (fun x:GraT=> !(fun x:GraT=>decide (x.un<fr)) x))∧K (.d (.sl 5 (rowsG z)))
theorem CBs9:∀args K,cWoG args K→∃x,PCall prog 94 args x∧K x:=by
 rintro _ K ⟨hs,_,fr,rfl,⟨hl,rfl⟩,hk⟩;exact ⟨_,pcWoG hs fr hl,hk⟩
theorem AWb9:Tryz.f147.body=some (code f147):=by rfl
def delVA (v':Nat) (sl:Int) (hs:List AskT):Nat:=if (hs.findIdx? (fun x:AskT=>x.sl==sl)).isSome then v'+1 else v'
theorem CBp9 (Ev:Env prog):CX.Ok Ev ⟨TDfA,UDfA,wlDfA Ev.Y,Ev.Y,false⟩:=
 CX.Ok.ofWl BPw9 BPu9 (BXh9 (X:=⟨TDfA,UDfA,fun _ _ _ _ _=>False,Ev.Y,false⟩) (CX.Ok.ofWl BPw9 BPu9 fun _ _ _ _ _ h=>h.elim) BIy9)
theorem BYr9 (sl:Int):SCall prog 147 [.d (.sl 3 []), .fn (.func 148) [] [.ptr 1 0, .ptr 0 0]] [boxA (.fn (.func 118) [] []),boxA (.fn (.func 138) [] [.rptr [i64 sl]])] (.d (.sl 3 [])) [boxA (.fn (.func 118) [] []),boxA (.fn (.func 138) [] [.rptr [i64 sl]])]:=by
 refine Zgk func147 AWb9 (by rfl) fun Ev b=> ?_;refine AAv9 (X:=⟨TDfA,UDfA,wlDfA Ev.Y,Ev.Y,false⟩) (n:=100) mixed (CBp9 Ev) ?_ fun e tm hp b hK=>AEw9 hK;rw [BUq9];exact ⟨[],sl, -1,rfl,⟨by simp,rfl⟩,Zba (by decide) ⟨rfl,rfl⟩⟩
theorem CDu9 (v':Nat) (sl:Int) (hs:List AskT) (hl:hs.length<1000000):
 SCall prog 147 [.gref 2 v' hs.length 3, .fn (.func 148) [] [.ptr 1 0, .ptr 0 0]] (hpDfA sl v' (flatA (rowsA hs))) (.gref 2 (delVA v' sl hs) (hs.filter (fun x:AskT=> !(fun x:AskT=>x.sl==sl) x)).length 3) (hpDfA sl (delVA v' sl hs) (flatA (rowsA (hs.filter (fun x:AskT=> !(fun x:AskT=>x.sl==sl) x))))):=by
 refine Zgk func147 AWb9 (by rfl) fun Ev b=> ?_;refine AAv9 (X:=⟨TDfA,UDfA,wlDfA Ev.Y,Ev.Y,false⟩) (n:=100) mixed (CBp9 Ev) ?_ fun e tm hp b hK=>AEw9 hK;refine Eq.mpr (CBo9 _ _ _ v' hs.length sl _) ?_;refine ⟨rfl,rowsA hs,rfl,AAo9 hs,AMz9 hs,hs,sl,_,rfl,⟨by omega,rfl⟩,Zbe (fun h1=> ?_) fun h1=> ?_⟩
 ·have hn:hs.findIdx? (fun x:AskT=>x.sl==sl)=none:=by
   cases hf:hs.findIdx? (fun x:AskT=>x.sl==sl) with
   |none=>rfl
   |some j=>rw [AAi9 hf] at h1;simp at h1
  rw [delVA,hn,BEs9 hn];exact ⟨rfl,rfl⟩
 ·cases hf:hs.findIdx? (fun x:AskT=>x.sl==sl) with
  |none=>rw [AAy9 hf] at h1;simp at h1
  | some j=>
   have hle:(hs.filter (fun x:AskT=> !(fun x:AskT=>x.sl==sl) x)).length≤hs.length:=Zei _ _;refine ⟨v',sl,_,_,hs,_,rfl,rfl,rfl,⟨hl,by rw [AAi9 hf];omega,rfl,rfl,rfl⟩,fun cur hcl hct=>⟨rfl,Zba (by simp;exact hle) (Zba (by simp;exact hle) ⟨rfl, ?_⟩)⟩⟩;rw [Zcn,delVA,hf];refine ⟨rfl, ?_⟩;have hcur:flatA (rowsA cur)=flatA (cur.map askR):=rfl;have e:((flatA (rowsA cur)).take ((hs.filter (fun x:AskT=> !(fun x:AskT=>x.sl==sl) x)).length*3)).length=(hs.filter (fun x:AskT=> !(fun x:AskT=>x.sl==sl) x)).length*3:=by
    rw [Zcf,hcur,AZa9 AMe9,hcl];omega
   rw [Zey (by rw [e];exact Zav _),List.take_take,Nat.min_self,hcur,ARr9 AMe9,hct];rfl
def sDelA (args:List AV) (hp:List Blk) (K:AV→List Blk→Prop):Prop:=match hp with
 | [b0,b1]=>∃(sl:Int),args= [.d (.sl 3 []), .fn (.func 148) [] [.ptr 1 0, .ptr 0 0]]∧b0=boxA (.fn (.func 118) [] [])∧b1=boxA (.fn (.func 138) [] [.rptr [i64 sl]])∧K (.d (.sl 3 [])) [boxA (.fn (.func 118) [] []),boxA (.fn (.func 138) [] [.rptr [i64 sl]])]
 | [b0,b1,b2]=>∃(v' n:Nat) (sl:Int) (hs out:List AskT),args= [.gref 2 v' n 3, .fn (.func 148) [] [.ptr 1 0, .ptr 0 0]]∧b0=boxA (.fn (.func 118) [] [])∧b1=boxA (.fn (.func 138) [] [.rptr [i64 sl]])∧b2=growB v' (flatA (rowsA hs))∧(n=hs.length∧hs.length<1000000∧out=hs.filter (fun x:AskT=> !(fun x:AskT=>x.sl==sl) x))∧
  ∀v',K (.gref 2 v' out.length 3) [boxA (.fn (.func 118) [] []),boxA (.fn (.func 138) [] [.rptr [i64 sl]]),growB v' (flatA (rowsA out))]
 |_=>False
theorem BRq9:∀args hp K,sDelA args hp K→∃x hp',SCall prog 147 args hp x hp'∧K x hp':=by
 intro args hp K h;unfold sDelA at h;split at h
 ·obtain ⟨sl,rfl,rfl,rfl,h⟩:=h;exact ⟨_,_,BYr9 sl,h⟩
 ·obtain ⟨v',_,sl,hs,_,rfl,rfl,rfl,rfl,⟨rfl,hl,rfl⟩,h⟩:=h;exact ⟨_,_,CDu9 v' sl hs hl,h _⟩
 ·exact h.elim
def UWoA:List (Nat×(List AV→List Blk→(AV→List Blk→Prop)→Prop)):= [(1000000+63,fun _ _ _=>False),(97,BNr9),(147,sDelA)]
theorem CCp9:AAm9 prog UWoA:=Zby (fun _ _ _ h=>h.elim) (Zby BCm9 (Zby BRq9 Zag))
theorem CDp9 (hs:List AskT) (sl:Int):wpFn prog ⟨[],UWoA,wl,y,false⟩ 100 f137 [.d (.sl 3 (rowsA hs)), .fn (.func 118) [] [], .fn (.func 138) [] [.rptr [i64 sl]]] b R=(∃(hs0:List AskT), [Zae (Zan 3 (rowsA hs))]= [Zae (Zan 3 (rowsA hs0))]∧Zaa hs0≤1000000∧BIf (Zfu hs0) (∃(sl1:Int), [Zae (Zan 3 []),Zaw (Fn.func 148) [] [Zai 1 0,Zai 0 0]]= [Zae (Zan 3 []),Zaw (Fn.func 148) [] [Zai 1 0,Zai 0 0]]∧Blk.mk [Zaw (Fn.func 118) [] []] false false 0=Blk.mk [Zaw (Fn.func 118) [] []] false false 0∧Blk.mk [Zaw (Fn.func 138) [] [Zaf [i64 sl]]] false false 0=Blk.mk [Zaw (Fn.func 138) [] [Zaf [i64 sl1]]] false false 0∧R (.d (Zan 3 [])) b) (∃(v2:Nat) (n3:Nat) (sl4:Int) (hs5:List AskT) (out6:List AskT), [Zbj 2 0 (Zaa hs0) 3,Zaw (Fn.func 148) [] [Zai 1 0,Zai 0 0]]= [Zbj 2 v2 n3 3,Zaw (Fn.func 148) [] [Zai 1 0,Zai 0 0]]∧Blk.mk [Zaw (Fn.func 118) [] []] false false 0=Blk.mk [Zaw (Fn.func 118) [] []] false false 0∧Blk.mk [Zaw (Fn.func 138) [] [Zaf [i64 sl]]] false false 0=Blk.mk [Zaw (Fn.func 138) [] [Zaf [i64 sl4]]] false false 0∧Blk.mk (flatA (rowsA hs0)) false true 0=Blk.mk (flatA (rowsA hs5)) false true v2∧(n3=Zaa hs5∧Zaa hs5<1000000∧out6=Zcl (fun (x7:AskT)=> !AskT.sl x7==sl4) hs5)∧∀(v':Nat),v'=v'∧∃(xs8:List (List Dv)),flatA (rowsA out6)=flatA xs8∧Zaa xs8=Zaa out6∧(∀(r:List Dv),r∈xs8→Zaa r=3)∧R (.d (Zan 3 xs8)) b)):=by kernel_rfl
theorem pcWoA (hs:List AskT) (sl:Int) (hl:hs.length<1000000):PCall prog 137 [.d (.sl 3 (rowsA hs)), .fn (.func 118) [] [], .fn (.func 138) [] [.rptr [i64 sl]]] (.d (.sl 3 (rowsA (hs.filter (fun x:AskT=> !(fun x:AskT=>x.sl==sl) x))))):=by
 refine Zbg (n:=100) (u:=false) mixed Zak CCp9 func137 (by rfl) (by rfl) fun Ev bb=> ?_;rw [CDp9];refine ⟨hs,rfl,by omega,Zbe (fun h1=> ?_) fun h1=> ?_⟩
 ·have h2:hs= []:=List.isEmpty_iff.1 h1;subst h2;exact ⟨sl,rfl,rfl,rfl,rfl⟩
 ·refine ⟨0,_,sl,hs,_,rfl,rfl,rfl,rfl,⟨rfl,hl,rfl⟩,fun v'=>⟨rfl,rowsA (hs.filter (fun x:AskT=> !(fun x:AskT=>x.sl==sl) x)),rfl,AAo9 _,AMz9 _,rfl⟩⟩
def cWoA (args:List AV) (K:AV→Prop):Prop:=∃(hs z:List AskT) (sl:Int),args= [.d (.sl 3 (rowsA hs)), .fn (.func 118) [] [], .fn (.func 138) [] [.rptr [i64 sl]]]∧(hs.length<1000000∧z=hs.filter (fun x:AskT=> !(fun x:AskT=>x.sl==sl) x))∧K (.d (.sl 3 (rowsA z)))
theorem CBt9:∀args K,cWoA args K→∃x,PCall prog 137 args x∧K x:=by
 rintro _ K ⟨hs,_,sl,rfl,⟨hl,rfl⟩,hk⟩;exact ⟨_,pcWoA hs sl hl,hk⟩
def TEx:List (Nat×(List AV→(AV→Prop)→Prop)):= [(93,BGv9),(97,BPb9),(94,cWoG)]
theorem CGa9:AAb9 prog TEx:=Zah ARz9 (Zah BGx9 (Zah CBs9 Zak))
def TUa:List (Nat×(List AV→(AV→Prop)→Prop)):= [(137,cWoA)]
theorem CFj9:AAb9 prog TUa:=Zah CBt9 Zak
abbrev Qz68 (v0:List UseT) (v1:List GraT) (v2:List AskT):List AV:= [Zae (Zan 4 (rowsU v0)),Zae (Zan 5 (rowsG v1)),Zae (Zan 3 (rowsA v2))]
theorem BLg9 (t:TabT) (fr:Int):wpFn prog ⟨TEx, [],wl,y,false⟩ 100 f47 [tabA t, .d (i64 fr)] b R=(∃(l0:List UseT), [Zae (Zan 4 (rowsU (Zbn t)))]= [Zae (Zan 4 (rowsU l0))]∧Zaa l0≤1000000∧∃(hs1:List GraT) (z2:List GraT) (fr3:Int), [Zae (Zan 5 (rowsG (Zbo t))),Zaw (Fn.func 95) [] [],Zaw (Fn.func 96) [] [Zaf [i64 fr]]]= [Zae (Zan 5 (rowsG hs1)),Zaw (Fn.func 95) [] [],Zaw (Fn.func 96) [] [Zaf [i64 fr3]]]∧(Zaa hs1<1000000∧z2=Zcl (fun (x4:GraT)=> !decide (Zdw x4<fr3)) hs1)∧∃(l5:List AskT), [Zae (Zan 3 (rowsA (Zbq t)))]= [Zae (Zan 3 (rowsA l5))]∧Zaa l5≤1000000∧R (.agg (Qz68 l0 z2 l5)) b):=by kernel_rfl
theorem BBx9 (t:TabT) (sl:Int):wpFn prog ⟨TUa, [],wl,y,false⟩ 100 f105 [tabA t, .d (i64 sl)] b R=(∃(hs0:List AskT) (z1:List AskT) (sl2:Int), [Zae (Zan 3 (rowsA (Zbq t))),Zaw (Fn.func 118) [] [],Zaw (Fn.func 138) [] [Zaf [i64 sl]]]= [Zae (Zan 3 (rowsA hs0)),Zaw (Fn.func 118) [] [],Zaw (Fn.func 138) [] [Zaf [i64 sl2]]]∧(Zaa hs0<1000000∧z1=Zcl (fun (x3:AskT)=> !AskT.sl x3==sl2) hs0)∧R (.d (Zan 3 (rowsA z1))) b):=by kernel_rfl
def TabLt (t:TabT):Prop:=t.us.length<1000000∧t.gs.length<1000000∧t.ak.length<1000000
def AEk9 (t:TabT) (fr:Int):TabT:=⟨t.us,t.gs.filter fun x=> !decide (x.un<fr),t.ak⟩
theorem BSh9 (t:TabT) (fr:Int) (h:TabLt t):PCall prog 47 [tabA t, .d (i64 fr)] (tabA (AEk9 t fr)):=by
 refine Zbg (n:=100) (u:=false) mixed CGa9 Zag func47 (by rfl) (by rfl) fun Ev bb=> ?_;rw [BLg9];exact ⟨t.us,rfl,by have:=h.1;omega,t.gs,_,fr,rfl,⟨h.2.1,rfl⟩,t.ak,rfl,by have:=h.2.2;omega,rfl⟩
def BOx9 (args:List AV) (K:AV→Prop):Prop:=∃(t z:TabT) (fr:Int),args= [tabA t, .d (i64 fr)]∧(TabLt t∧z=AEk9 t fr)∧K (tabA z)
theorem BGq9:∀args K,BOx9 args K→∃x,PCall prog 47 args x∧K x:=by
 rintro _ K ⟨t,_,fr,rfl,⟨h,rfl⟩,hk⟩;exact ⟨_,BSh9 t fr h,hk⟩
def AHr9 (t:TabT) (sl:Int):List AskT:=t.ak.filter fun x=> !(x.sl==sl)
theorem BZr9 (t:TabT) (sl:Int) (h:TabLt t):PCall prog 105 [tabA t, .d (i64 sl)] (.d (.sl 3 (rowsA (AHr9 t sl)))):=by
 refine Zbg (n:=100) (u:=false) mixed CFj9 Zag func105 (by rfl) (by rfl) fun Ev bb=> ?_;rw [BBx9];exact ⟨t.ak,_,sl,rfl,⟨h.2.2,rfl⟩,rfl⟩
def BVb9 (args:List AV) (K:AV→Prop):Prop:=∃(t:TabT) (z:List AskT) (sl:Int),args= [tabA t, .d (i64 sl)]∧(TabLt t∧z=AHr9 t sl)∧K (.d (.sl 3 (rowsA z)))
theorem AWe9:∀args K,BVb9 args K→∃x,PCall prog 105 args x∧K x:=by
 rintro _ K ⟨t,_,sl,rfl,⟨h,rfl⟩,hk⟩;exact ⟨_,BZr9 t sl h,hk⟩
def nilSl:AV:= .d (.s (.slice none 0 0))
theorem BTv9 (n:Int):wpFnS prog ⟨[],GCG,wl,y,false⟩ 100 f146 [nilSl, .d (i64 n)] b Kr=(BIf (decide (n<(0:Int))) False (BIf (decide (Zad .i64 (n - 0)>(0:Int))) (BIf (true&&decide ((0:Int)<Zad .i64 (n - 0))&&decide (Zad .i64 (n - 0)*(40:Int)≤(281474976710656:Int))&&decide (Zad .i64 (n - 0)≤(9223372036854775807:Int))&&true&&true&&true&&true) (0=0∧Kr (Zbj 0 1 0 5) [Blk.mk [] false true 1] b) False) (Kr (Zae (Zde (.slice none 0 0))) [] b))):=by kernel_rfl
theorem BTu9 (n:Int):wpFnS prog ⟨[],GCU,wl,y,false⟩ 100 f149 [nilSl, .d (i64 n)] b Kr=(BIf (decide (n<(0:Int))) False (BIf (decide (Zad .i64 (n - 0)>(0:Int))) (BIf (true&&decide ((0:Int)<Zad .i64 (n - 0))&&decide (Zad .i64 (n - 0)*(32:Int)≤(281474976710656:Int))&&decide (Zad .i64 (n - 0)≤(9223372036854775807:Int))&&true&&true&&true&&true) (0=0∧Kr (Zbj 0 1 0 4) [Blk.mk [] false true 1] b) False) (Kr (Zae (Zde (.slice none 0 0))) [] b))):=by kernel_rfl
theorem CBg9 (n:Int) (h0:0<n) (hn:n≤1000000):FCall prog 146 [nilSl, .d (i64 n)] (.gref 0 1 0 5) [growB 1 []]:=by
 refine FCall.ofFnW (n:=100) (u:=false) (fun _=>fun _ _ _ _ _=>False) mixed Zak BAj9 (fun Ev _ _ _ _ _ h=>h.elim) func146 (by rfl) (by rfl) (by rfl) fun Ev bb=> ?_;rw [BTv9];have e:Zad Zbb (n - 0)=n:=by rw [AAz9 (by omega) (by omega)];omega
 rw [e];refine Zdd (by simp<;>omega) (Zba (by simp<;>omega) (Zba ?_ ⟨rfl,rfl,rfl⟩));simp only [Zgd,Zea,Zaj,decide_eq_true_eq];omega
theorem CBf9 (n:Int) (h0:0<n) (hn:n≤1000000):FCall prog 149 [nilSl, .d (i64 n)] (.gref 0 1 0 4) [growB 1 []]:=by
 refine FCall.ofFnW (n:=100) (u:=false) (fun _=>fun _ _ _ _ _=>False) mixed Zak BWt9 (fun Ev _ _ _ _ _ h=>h.elim) func149 (by rfl) (by rfl) (by rfl) fun Ev bb=> ?_;rw [BTu9];have e:Zad Zbb (n - 0)=n:=by rw [AAz9 (by omega) (by omega)];omega
 rw [e];refine Zdd (by simp<;>omega) (Zba (by simp<;>omega) (Zba ?_ ⟨rfl,rfl,rfl⟩));simp only [Zgd,Zea,Zaj,decide_eq_true_eq];omega
def BYu9 (args:List AV) (hp:List Blk) (K:AV→List Blk→Prop):Prop:=∃(n:Int),args= [nilSl, .d (i64 n)]∧(0<n∧n≤1000000)∧K (.gref hp.length 1 0 5) (hp++ [growB 1 []])
theorem BJk9:∀args hp K,BYu9 args hp K→∃x hp',SCall prog 146 args hp x hp'∧K x hp':=by
 rintro _ hp K ⟨n,rfl,⟨h0,hn⟩,h⟩;exact ⟨_,_,(CBg9 n h0 hn).toS rfl hp,by simpa [shift,AJo9,AGb9,AQg9,growB] using h⟩
def BYt9 (args:List AV) (hp:List Blk) (K:AV→List Blk→Prop):Prop:=∃(n:Int),args= [nilSl, .d (i64 n)]∧(0<n∧n≤1000000)∧K (.gref hp.length 1 0 4) (hp++ [growB 1 []])
theorem BJj9:∀args hp K,BYt9 args hp K→∃x hp',SCall prog 149 args hp x hp'∧K x hp':=by
 rintro _ hp K ⟨n,rfl,⟨h0,hn⟩,h⟩;exact ⟨_,_,(CBf9 n h0 hn).toS rfl hp,by simpa [shift,AJo9,AGb9,AQg9,growB] using h⟩
def UCoG:List (Nat×(List AV→List Blk→(AV→List Blk→Prop)→Prop)):= [(146,BYu9),(1000059,fun _ _ _=>False)]
theorem CCv9:AAm9 prog UCoG:=Zby BJk9 BAj9
def UCoU:List (Nat×(List AV→List Blk→(AV→List Blk→Prop)→Prop)):= [(149,BYt9),(1000061,fun _ _ _=>False)]
theorem CCu9:AAm9 prog UCoU:=Zby BJj9 BWt9
theorem BUt9 (x z m:List (List Dv)):wpFn prog ⟨[],UCoG,wl,y,true⟩ 1000 f136 [.full 1 [[.sl 5 x], [.sl 5 z], [.sl 5 m]]] b R=(∃(xs0:List (List Dv)),some [Zan 5 x]=some [Zan 5 xs0]∧BIf (decide (Zad .i64 ((0:Int)+((Zaa xs0:Nat):Int))<(0:Int))) False (∃(xs1:List (List Dv)),some [Zan 5 z]=some [Zan 5 xs1]∧BIf (decide (Zad .i64 (Zad .i64 ((0:Int)+((Zaa xs0:Nat):Int))+((Zaa xs1:Nat):Int))<(0:Int))) False (∃(xs2:List (List Dv)),some [Zan 5 m]=some [Zan 5 xs2]∧BIf (decide (Zad .i64 (Zad .i64 (Zad .i64 ((0:Int)+((Zaa xs0:Nat):Int))+((Zaa xs1:Nat):Int))+((Zaa xs2:Nat):Int))<(0:Int))) False (∃(n3:Int), [Zae (Zde (.slice none 0 0)),Zae (i64 (Zad .i64 (Zad .i64 (Zad .i64 ((0:Int)+((Zaa xs0:Nat):Int))+((Zaa xs1:Nat):Int))+((Zaa xs2:Nat):Int))))]= [Zae (Zde (.slice none 0 0)),Zae (i64 n3)]∧((0:Int)<n3∧n3≤(1000000:Int))∧∃(xs4:List (List Dv)),some [Zan 5 x]=some [Zan 5 xs4]∧1=1∧BIf (decide ((0+Zaa xs4)*40≤140737488355328)) (∃(xs5:List (List Dv)),some [Zan 5 z]=some [Zan 5 xs5]∧2=2∧BIf (decide ((0+Zaa xs4+Zaa xs5)*40≤140737488355328)) (∃(xs6:List (List Dv)),some [Zan 5 m]=some [Zan 5 xs6]∧3=3∧BIf (decide ((0+Zaa xs4+Zaa xs5+Zaa xs6)*40≤140737488355328)) (4=4∧∃(xs7:List (List Dv)), []++flatA xs4++flatA xs5++flatA xs6=flatA xs7∧Zaa xs7=0+Zaa xs4+Zaa xs5+Zaa xs6∧(∀(r:List Dv),r∈xs7→Zaa r=5)∧R (.d (Zan 5 xs7)) b) False) False) False)))):=by kernel_rfl
theorem BUs9 (x z m:List (List Dv)):wpFn prog ⟨[],UCoU,wl,y,true⟩ 1000 f140 [.full 1 [[.sl 4 x], [.sl 4 z], [.sl 4 m]]] b R=(∃(xs0:List (List Dv)),some [Zan 4 x]=some [Zan 4 xs0]∧BIf (decide (Zad .i64 ((0:Int)+((Zaa xs0:Nat):Int))<(0:Int))) False (∃(xs1:List (List Dv)),some [Zan 4 z]=some [Zan 4 xs1]∧BIf (decide (Zad .i64 (Zad .i64 ((0:Int)+((Zaa xs0:Nat):Int))+((Zaa xs1:Nat):Int))<(0:Int))) False (∃(xs2:List (List Dv)),some [Zan 4 m]=some [Zan 4 xs2]∧BIf (decide (Zad .i64 (Zad .i64 (Zad .i64 ((0:Int)+((Zaa xs0:Nat):Int))+((Zaa xs1:Nat):Int))+((Zaa xs2:Nat):Int))<(0:Int))) False (∃(n3:Int), [Zae (Zde (.slice none 0 0)),Zae (i64 (Zad .i64 (Zad .i64 (Zad .i64 ((0:Int)+((Zaa xs0:Nat):Int))+((Zaa xs1:Nat):Int))+((Zaa xs2:Nat):Int))))]= [Zae (Zde (.slice none 0 0)),Zae (i64 n3)]∧((0:Int)<n3∧n3≤(1000000:Int))∧∃(xs4:List (List Dv)),some [Zan 4 x]=some [Zan 4 xs4]∧1=1∧BIf (decide ((0+Zaa xs4)*32≤140737488355328)) (∃(xs5:List (List Dv)),some [Zan 4 z]=some [Zan 4 xs5]∧2=2∧BIf (decide ((0+Zaa xs4+Zaa xs5)*32≤140737488355328)) (∃(xs6:List (List Dv)),some [Zan 4 m]=some [Zan 4 xs6]∧3=3∧BIf (decide ((0+Zaa xs4+Zaa xs5+Zaa xs6)*32≤140737488355328)) (4=4∧∃(xs7:List (List Dv)), []++flatA xs4++flatA xs5++flatA xs6=flatA xs7∧Zaa xs7=0+Zaa xs4+Zaa xs5+Zaa xs6∧(∀(r:List Dv),r∈xs7→Zaa r=4)∧R (.d (Zan 4 xs7)) b) False) False) False)))):=by kernel_rfl
theorem CAg9 (x z m:List GraT) (h0:0<x.length+z.length+m.length) (hl:x.length+z.length+m.length≤1000000):
 PCall prog 136 [.full 1 [[.sl 5 (rowsG x)], [.sl 5 (rowsG z)], [.sl 5 (rowsG m)]]] (.d (.sl 5 (rowsG (x++z++m)))):=by
 refine Zbg (n:=1000) (u:=true) mixed Zak CCv9 func136 (by rfl) (by rfl) fun Ev bb=> ?_;rw [BUt9];have e1:Zad Zbb ((0:Int)+(((rowsG x).length:Nat):Int))=((x.length:Nat):Int):=by rw [AAg9,AAz9 (by omega) (by omega)];omega
 have e2:Zad Zbb (((x.length:Nat):Int)+(((rowsG z).length:Nat):Int))=((x.length+z.length:Nat):Int):=by rw [AAg9,AAz9 (by omega) (by omega)];omega
 have e3:Zad Zbb (((x.length+z.length:Nat):Int)+(((rowsG m).length:Nat):Int))=((x.length+z.length+m.length:Nat):Int):=by rw [AAg9,AAz9 (by omega) (by omega)];omega
 refine ⟨rowsG x,rfl, ?_⟩;rw [e1];refine Zdd (by simp) ⟨rowsG z,rfl, ?_⟩;rw [e2];refine Zdd (by simp;omega) ⟨rowsG m,rfl, ?_⟩;rw [e3];refine Zdd (by simp;omega) ⟨_,rfl,⟨by omega,by omega⟩,rowsG x,rfl,rfl,Zba (by rw [AAg9];simp;omega) ⟨rowsG z,rfl,rfl,Zba (by rw [AAg9,AAg9];simp;omega) ⟨rowsG m,rfl,rfl,Zba (by rw [AAg9,AAg9,AAg9];simp;omega) ⟨rfl,rowsG (x++z++m), ?_, ?_,AQl9 _,rfl⟩⟩⟩⟩
 ·have f:∀l:List GraT,flatA (rowsG l)=flatA (l.map graR):=fun _=>rfl;rw [f,f,f,f,ATt9,ATt9,List.nil_append]
 ·rw [AAg9,AAg9,AAg9,AAg9,Zcm,Zcm];omega
def CCg9 (args:List AV) (K:AV→Prop):Prop:=∃(x m q:List GraT) (g:GraT),args= [.full 1 [[.sl 5 (rowsG x)], [.sl 5 [graR g]], [.sl 5 (rowsG m)]]]∧(x.length+m.length<1000000∧q=x++ [g]++m)∧K (.d (.sl 5 (rowsG q)))
theorem BMr9:∀args K,CCg9 args K→∃x,PCall prog 136 args x∧K x:=by
 rintro _ K ⟨x,m,_,g,rfl,⟨hl,rfl⟩,hk⟩;exact ⟨_,CAg9 x [g] m (by simp;omega) (by simp;omega),hk⟩
def TInG:List (Nat×(List AV→(AV→Prop)→Prop)):= [(136,CCg9),(54,BGj9)]
theorem CDb9:AAb9 prog TInG:=Zah BMr9 (Zah AZq9 Zak)
theorem CAx9 (l:List GraT) (g:GraT):wpFn prog ⟨TInG, [],wl,y,false⟩ 100 f104 [.d (.sl 5 (rowsG l)),graA g, .fn (.func 95) [] []] b R=(∃(l0:List GraT) (g1:GraT) (q2:Int), [Zae (Zan 5 (rowsG l)),Zaw (Fn.func 135) [] [Zaf [Zcv (Fn.func 95) []],Zaf (Qz15 g)]]= [Zae (Zan 5 (rowsG l0)),Zaw (Fn.func 135) [] [Zaf [Zcv (Fn.func 95) []],Zaf (Qz15 g1)]]∧(Zaa l0≤9223372036854775807∧q2=idxS (fun (x3:GraT)=>decide (Zdc x3>Zdc g1)) l0)∧BIf (decide (q2<(0:Int))) (BIf (true&&decide ((0:Int)≤(0:Int)∧(0:Int)≤((Zaa (rowsG l):Nat):Int)∧((Zaa (rowsG l):Nat):Int)≤((Zaa (rowsG l):Nat):Int)∧((Zaa (rowsG l):Nat):Int)≤((Zaa (rowsG l):Nat):Int))) (BIf (true&&decide ((0:Int)≤((Zaa (rowsG l):Nat):Int)∧((Zaa (rowsG l):Nat):Int)≤((Zaa (rowsG l):Nat):Int)∧((Zaa (rowsG l):Nat):Int)≤((Zaa (rowsG l):Nat):Int)∧((Zaa (rowsG l):Nat):Int)≤((Zaa (rowsG l):Nat):Int))) (∃(x4:List GraT) (m5:List GraT) (q6:List GraT) (g7:GraT), [Zfh 1 [[Zan 5 (Zbu (Zao ((Zaa (rowsG l):Nat):Int) - Zao (0:Int)) (Zce (Zao (0:Int)) (rowsG l)))], [Zan 5 [Qz15 g]], [Zan 5 (Zbu (Zao ((Zaa (rowsG l):Nat):Int) - Zao ((Zaa (rowsG l):Nat):Int)) (Zce (Zao ((Zaa (rowsG l):Nat):Int)) (rowsG l)))]]]= [Zfh 1 [[Zan 5 (rowsG x4)], [Zan 5 [Qz15 g7]], [Zan 5 (rowsG m5)]]]∧(Zaa x4+Zaa m5<1000000∧q6=x4++ [g7]++m5)∧R (.d (Zan 5 (rowsG q6))) b) False) False) (BIf (true&&decide ((0:Int)≤(0:Int)∧(0:Int)≤q2∧q2≤((Zaa (rowsG l):Nat):Int)∧((Zaa (rowsG l):Nat):Int)≤((Zaa (rowsG l):Nat):Int))) (BIf (true&&decide ((0:Int)≤q2∧q2≤((Zaa (rowsG l):Nat):Int)∧((Zaa (rowsG l):Nat):Int)≤((Zaa (rowsG l):Nat):Int)∧((Zaa (rowsG l):Nat):Int)≤((Zaa (rowsG l):Nat):Int))) (∃(x8:List GraT) (m9:List GraT) (q10:List GraT) (g11:GraT), [Zfh 1 [[Zan 5 (Zbu (Zao q2 - Zao (0:Int)) (Zce (Zao (0:Int)) (rowsG l)))], [Zan 5 [Qz15 g]], [Zan 5 (Zbu (Zao ((Zaa (rowsG l):Nat):Int) - Zao q2) (Zce (Zao q2) (rowsG l)))]]]= [Zfh 1 [[Zan 5 (rowsG x8)], [Zan 5 [Qz15 g11]], [Zan 5 (rowsG m9)]]]∧(Zaa x8+Zaa m9<1000000∧q10=x8++ [g11]++m9)∧R (.d (Zan 5 (rowsG q10))) b) False) False)):=by kernel_rfl
theorem CAf9 (x z m:List UseT) (h0:0<x.length+z.length+m.length) (hl:x.length+z.length+m.length≤1000000):
 PCall prog 140 [.full 1 [[.sl 4 (rowsU x)], [.sl 4 (rowsU z)], [.sl 4 (rowsU m)]]] (.d (.sl 4 (rowsU (x++z++m)))):=by
 refine Zbg (n:=1000) (u:=true) mixed Zak CCu9 func140 (by rfl) (by rfl) fun Ev bb=> ?_;rw [BUs9];have e1:Zad Zbb ((0:Int)+(((rowsU x).length:Nat):Int))=((x.length:Nat):Int):=by rw [AAj9,AAz9 (by omega) (by omega)];omega
 have e2:Zad Zbb (((x.length:Nat):Int)+(((rowsU z).length:Nat):Int))=((x.length+z.length:Nat):Int):=by rw [AAj9,AAz9 (by omega) (by omega)];omega
 have e3:Zad Zbb (((x.length+z.length:Nat):Int)+(((rowsU m).length:Nat):Int))=((x.length+z.length+m.length:Nat):Int):=by rw [AAj9,AAz9 (by omega) (by omega)];omega
 refine ⟨rowsU x,rfl, ?_⟩;rw [e1];refine Zdd (by simp) ⟨rowsU z,rfl, ?_⟩;rw [e2];refine Zdd (by simp;omega) ⟨rowsU m,rfl, ?_⟩;rw [e3];refine Zdd (by simp;omega) ⟨_,rfl,⟨by omega,by omega⟩,rowsU x,rfl,rfl,Zba (by rw [AAj9];simp;omega) ⟨rowsU z,rfl,rfl,Zba (by rw [AAj9,AAj9];simp;omega) ⟨rowsU m,rfl,rfl,Zba (by rw [AAj9,AAj9,AAj9];simp;omega) ⟨rfl,rowsU (x++z++m), ?_, ?_,BNs9 _,rfl⟩⟩⟩⟩
 ·have f:∀l:List UseT,flatA (rowsU l)=flatA (l.map useR):=fun _=>rfl;rw [f,f,f,f,ATt9,ATt9,List.nil_append]
 ·rw [AAj9,AAj9,AAj9,AAj9,Zcm,Zcm];omega
def CCf9 (args:List AV) (K:AV→Prop):Prop:=∃(x m q:List UseT) (g:UseT),args= [.full 1 [[.sl 4 (rowsU x)], [.sl 4 [useR g]], [.sl 4 (rowsU m)]]]∧(x.length+m.length<1000000∧q=x++ [g]++m)∧K (.d (.sl 4 (rowsU q)))
theorem BMq9:∀args K,CCf9 args K→∃x,PCall prog 140 args x∧K x:=by
 rintro _ K ⟨x,m,_,g,rfl,⟨hl,rfl⟩,hk⟩;exact ⟨_,CAf9 x [g] m (by simp;omega) (by simp;omega),hk⟩
def TInU:List (Nat×(List AV→(AV→Prop)→Prop)):= [(140,CCf9),(133,BGi9)]
theorem CDa9:AAb9 prog TInU:=Zah BMq9 (Zah AZp9 Zak)
theorem CAw9 (l:List UseT) (g:UseT):wpFn prog ⟨TInU, [],wl,y,false⟩ 100 f107 [.d (.sl 4 (rowsU l)),useA g, .fn (.func 108) [] []] b R=(∃(l0:List UseT) (g1:UseT) (q2:Int), [Zae (Zan 4 (rowsU l)),Zaw (Fn.func 139) [] [Zaf [Zcv (Fn.func 108) []],Zaf (Qz13 g)]]= [Zae (Zan 4 (rowsU l0)),Zaw (Fn.func 139) [] [Zaf [Zcv (Fn.func 108) []],Zaf (Qz13 g1)]]∧(Zaa l0≤9223372036854775807∧q2=idxS (fun (x3:UseT)=>decide (Zcy x3>Zcy g1)) l0)∧BIf (decide (q2<(0:Int))) (BIf (true&&decide ((0:Int)≤(0:Int)∧(0:Int)≤((Zaa (rowsU l):Nat):Int)∧((Zaa (rowsU l):Nat):Int)≤((Zaa (rowsU l):Nat):Int)∧((Zaa (rowsU l):Nat):Int)≤((Zaa (rowsU l):Nat):Int))) (BIf (true&&decide ((0:Int)≤((Zaa (rowsU l):Nat):Int)∧((Zaa (rowsU l):Nat):Int)≤((Zaa (rowsU l):Nat):Int)∧((Zaa (rowsU l):Nat):Int)≤((Zaa (rowsU l):Nat):Int)∧((Zaa (rowsU l):Nat):Int)≤((Zaa (rowsU l):Nat):Int))) (∃(x4:List UseT) (m5:List UseT) (q6:List UseT) (g7:UseT), [Zfh 1 [[Zan 4 (Zbu (Zao ((Zaa (rowsU l):Nat):Int) - Zao (0:Int)) (Zce (Zao (0:Int)) (rowsU l)))], [Zan 4 [Qz13 g]], [Zan 4 (Zbu (Zao ((Zaa (rowsU l):Nat):Int) - Zao ((Zaa (rowsU l):Nat):Int)) (Zce (Zao ((Zaa (rowsU l):Nat):Int)) (rowsU l)))]]]= [Zfh 1 [[Zan 4 (rowsU x4)], [Zan 4 [Qz13 g7]], [Zan 4 (rowsU m5)]]]∧(Zaa x4+Zaa m5<1000000∧q6=x4++ [g7]++m5)∧R (.d (Zan 4 (rowsU q6))) b) False) False) (BIf (true&&decide ((0:Int)≤(0:Int)∧(0:Int)≤q2∧q2≤((Zaa (rowsU l):Nat):Int)∧((Zaa (rowsU l):Nat):Int)≤((Zaa (rowsU l):Nat):Int))) (BIf (true&&decide ((0:Int)≤q2∧q2≤((Zaa (rowsU l):Nat):Int)∧((Zaa (rowsU l):Nat):Int)≤((Zaa (rowsU l):Nat):Int)∧((Zaa (rowsU l):Nat):Int)≤((Zaa (rowsU l):Nat):Int))) (∃(x8:List UseT) (m9:List UseT) (q10:List UseT) (g11:UseT), [Zfh 1 [[Zan 4 (Zbu (Zao q2 - Zao (0:Int)) (Zce (Zao (0:Int)) (rowsU l)))], [Zan 4 [Qz13 g]], [Zan 4 (Zbu (Zao ((Zaa (rowsU l):Nat):Int) - Zao q2) (Zce (Zao q2) (rowsU l)))]]]= [Zfh 1 [[Zan 4 (rowsU x8)], [Zan 4 [Qz13 g11]], [Zan 4 (rowsU m9)]]]∧(Zaa x8+Zaa m9<1000000∧q10=x8++ [g11]++m9)∧R (.d (Zan 4 (rowsU q10))) b) False) False)):=by kernel_rfl
def insP {α:Type} (p:α→Bool) (g:α):List α→List α
 | []=> [g]
 |x::r=>if p x=true then g::x::r else x::insP p g r
theorem AOr9 {α:Type} {p:α→Bool} {g:α}:∀ {l:List α},l.findIdx? p=none→insP p g l=l++ [g]
 | [],_=>rfl
 | x::r,h=>by
  rw [Zfb] at h;cases hp:p x with
  |true=>rw [hp] at h;simp at h
  | false=>
   rw [hp] at h;simp only [Zds,if_false,Option.map_eq_none_iff] at h;rw [insP,hp,if_neg (by decide),AOr9 h];rfl
theorem AOq9 {α:Type} {p:α→Bool} {g:α}:∀ {l:List α} {j:Nat},l.findIdx? p=some j→insP p g l=l.take j++ [g]++l.drop j
 | [],j,h=>by simp at h
 | x::r,j,h=>by
  rw [Zfb] at h;cases hp:p x with
  |true=>rw [hp] at h;simp at h;subst h;rw [insP,hp,if_pos rfl];rfl
  | false=>
   rw [hp] at h;simp only [Zds,if_false,Zam] at h;obtain ⟨j',h1,rfl⟩:=h;rw [insP,hp,if_neg (by decide),AOq9 h1];rfl
theorem AVh9 {α:Type} (row:α→List Dv) (l:List α) (i:Nat):((l.map row).take i)=(l.take i).map row:=by simp
theorem AVi9 {α:Type} (row:α→List Dv) (l:List α) (i:Nat):((l.map row).drop i)=(l.drop i).map row:=by simp
def insSG (g:GraT) (l:List GraT):List GraT:=insP (fun x:GraT=>decide (x.sl>g.sl)) g l
theorem CEk9 (l:List GraT) (g:GraT) (hl:l.length<1000000):PCall prog 104 [.d (.sl 5 (rowsG l)),graA g, .fn (.func 95) [] []] (.d (.sl 5 (rowsG (insSG g l)))):=by
 refine Zbg (n:=100) (u:=false) mixed CDb9 Zag func104 (by rfl) (by rfl) fun Ev bb=> ?_;rw [CAx9,AAg9];refine ⟨l,g,_,rfl,⟨by omega,rfl⟩, ?_⟩;cases hf:l.findIdx? (fun x:GraT=>decide (x.sl>g.sl)) with
 | none=>
  rw [AAy9 hf];refine Zba (by decide) (Zba (by simp) (Zba (by simp) ⟨l, [],_,g, ?_,⟨by simpa using hl,rfl⟩, ?_⟩))
  ·simp only [rowsG,Zcn,Zfk,Zfm,Nat.sub_zero,Nat.sub_self,Zgi,List.map_nil];rw [show (l.map graR).take l.length=l.map graR by rw [List.take_of_length_le (by simp)]]
  ·rw [insSG,AOr9 hf,Zdu]
 | some j=>
  have hj:=(AFs9 hf).1;rw [AAi9 hf];refine Zdd (by simp) (Zba (by simp;omega) (Zba (by simp;omega) ⟨l.take j,l.drop j,_,g, ?_,⟨by rw [Zcf,List.length_drop];omega,rfl⟩, ?_⟩))
  ·simp only [rowsG,Zcn,Zfk,Zfm,Nat.sub_zero];rw [show ((l.map graR).drop j).take (l.length - j)=(l.drop j).map graR by rw [AVi9,List.take_of_length_le (by simp)],AVh9]
  ·rw [insSG,AOq9 hf]
def cInsG (args:List AV) (K:AV→Prop):Prop:=∃(l z:List GraT) (g:GraT),args= [.d (.sl 5 (rowsG l)),graA g, .fn (.func 95) [] []]∧(l.length<1000000∧z=insSG g l)∧K (.d (.sl 5 (rowsG z)))
theorem BVn9:∀args K,cInsG args K→∃x,PCall prog 104 args x∧K x:=by
 rintro _ K ⟨l,_,g,rfl,⟨hl,rfl⟩,hk⟩;exact ⟨_,CEk9 l g hl,hk⟩
def insSU (g:UseT) (l:List UseT):List UseT:=insP (fun x:UseT=>decide (x.sl>g.sl)) g l
theorem CEj9 (l:List UseT) (g:UseT) (hl:l.length<1000000):PCall prog 107 [.d (.sl 4 (rowsU l)),useA g, .fn (.func 108) [] []] (.d (.sl 4 (rowsU (insSU g l)))):=by
 refine Zbg (n:=100) (u:=false) mixed CDa9 Zag func107 (by rfl) (by rfl) fun Ev bb=> ?_;rw [CAw9,AAj9];refine ⟨l,g,_,rfl,⟨by omega,rfl⟩, ?_⟩;cases hf:l.findIdx? (fun x:UseT=>decide (x.sl>g.sl)) with
 | none=>
  rw [AAy9 hf];refine Zba (by decide) (Zba (by simp) (Zba (by simp) ⟨l, [],_,g, ?_,⟨by simpa using hl,rfl⟩, ?_⟩))
  ·simp only [rowsU,Zcn,Zfk,Zfm,Nat.sub_zero,Nat.sub_self,Zgi,List.map_nil];rw [show (l.map useR).take l.length=l.map useR by rw [List.take_of_length_le (by simp)]]
  ·rw [insSU,AOr9 hf,Zdu]
 | some j=>
  have hj:=(AFs9 hf).1;rw [AAi9 hf];refine Zdd (by simp) (Zba (by simp;omega) (Zba (by simp;omega) ⟨l.take j,l.drop j,_,g, ?_,⟨by rw [Zcf,List.length_drop];omega,rfl⟩, ?_⟩))
  ·simp only [rowsU,Zcn,Zfk,Zfm,Nat.sub_zero];rw [show ((l.map useR).drop j).take (l.length - j)=(l.drop j).map useR by rw [AVi9,List.take_of_length_le (by simp)],AVh9]
  ·rw [insSU,AOq9 hf]
def cInsU (args:List AV) (K:AV→Prop):Prop:=∃(l z:List UseT) (g:UseT),args= [.d (.sl 4 (rowsU l)),useA g, .fn (.func 108) [] []]∧(l.length<1000000∧z=insSU g l)∧K (.d (.sl 4 (rowsU z)))
theorem BVm9:∀args K,cInsU args K→∃x,PCall prog 107 args x∧K x:=by
 rintro _ K ⟨l,_,g,rfl,⟨hl,rfl⟩,hk⟩;exact ⟨_,CEj9 l g hl,hk⟩
def useI (u:UseT):AV:= .d (.s (.iface 149 (.agg #[.int .i64 u.sl, .int .i64 u.of, .int .i64 u.pe, .int .i64 u.st])))
def graI (g:GraT):AV:= .d (.s (.iface 140 (.agg #[.int .i64 g.sl, .int .i64 g.of, .int .i64 g.pe, .int .i64 g.st, .int .i64 g.un])))
def TRfd:List (Nat×(List AV→(AV→Prop)→Prop)):= [(4000001,cNone),(73,BMc9),(84,BVq9),(170,BMt9),(167,BMu9)]
theorem AXh9:AAb9 prog TRfd:=Zah (ABu9 _) (Zah APe9 (Zah AXa9 (Zah APg9 (Zah APh9 Zak))))
def wlRfd {β:Type} (y:ACw9 β):WLT β:=wlI prog TRfd IVa y (fun _ _ _ _ _=>False)
theorem BYy9 (t:TabT) (ly:LayT) (u:UseT):wpFn prog ⟨TRfd, [],wlRfd y,y,false⟩ 100 f103 [tabA t,layA ly,useI u] b R=(∃(t0:TabT) (l1:LayT) (q2:Bool), [Zaq (Qz1 t),Zaq (Qz3 ly)]= [Zaq (Qz1 t0),Zaq (Qz3 l1)]∧((Zaa (Zbn t0)<10000∧Zaa (Zbo t0)<10000∧Zaa (Zbq t0)<10000)∧q2=ACp9 t0 l1)∧BIf (!q2) (R (.d (i64 1)) b) (true=true∧∃(u3:UseT) (l4:LayT) (z5:Bool), [Zaq (Qz7 u),Zaq (Qz3 ly)]= [Zaq (Qz7 u3),Zaq (Qz3 l4)]∧z5=useOk u3 l4∧BIf (!z5) (R (.d (i64 1)) b) (∃(u6:UseT), [Zaq (Qz7 u)]= [Zaq (Qz7 u6)]∧∃(t7:TabT) (s8:Int) (q9:Bool), [Zaq (Qz1 t),Zae (i64 (Zcy u6))]= [Zaq (Qz1 t7),Zae (i64 s8)]∧((Zaa (Zbn t7)<10000∧Zaa (Zbo t7)<10000∧Zaa (Zbq t7)<10000)∧q9=busyT t7 s8)∧BIf q9 (R (.d (i64 5)) b) (BIf (decide (Zad .i64 (((Zaa (rowsU (Zbn t)):Nat):Int)+((Zaa (rowsG (Zbo t)):Nat):Int))≥(24:Int))) (R (.d (i64 10)) b) (R (.d (i64 0)) b))))):=by kernel_rfl
theorem BYz9 (t:TabT) (ly:LayT) (u:GraT):wpFn prog ⟨TRfd, [],wlRfd y,y,false⟩ 100 f103 [tabA t,layA ly,graI u] b R=(∃(t0:TabT) (l1:LayT) (q2:Bool), [Zaq (Qz1 t),Zaq (Qz3 ly)]= [Zaq (Qz1 t0),Zaq (Qz3 l1)]∧((Zaa (Zbn t0)<10000∧Zaa (Zbo t0)<10000∧Zaa (Zbq t0)<10000)∧q2=ACp9 t0 l1)∧BIf (!q2) (R (.d (i64 1)) b) (true=true∧∃(u3:GraT) (l4:LayT) (z5:Bool), [Zaq (Qz5 u),Zaq (Qz3 ly)]= [Zaq (Qz5 u3),Zaq (Qz3 l4)]∧z5=graOk u3 l4∧BIf (!z5) (R (.d (i64 1)) b) (∃(u6:GraT), [Zaq (Qz5 u)]= [Zaq (Qz5 u6)]∧∃(t7:TabT) (s8:Int) (q9:Bool), [Zaq (Qz1 t),Zae (i64 (Zdc u6))]= [Zaq (Qz1 t7),Zae (i64 s8)]∧((Zaa (Zbn t7)<10000∧Zaa (Zbo t7)<10000∧Zaa (Zbq t7)<10000)∧q9=busyT t7 s8)∧BIf q9 (R (.d (i64 5)) b) (BIf (decide (Zad .i64 (((Zaa (rowsU (Zbn t)):Nat):Int)+((Zaa (rowsG (Zbo t)):Nat):Int))≥(24:Int))) (R (.d (i64 10)) b) (R (.d (i64 0)) b))))):=by kernel_rfl
def refS (t:TabT) (ly:LayT) (sl:Int) (ok:Bool):Int:=if ACp9 t ly&&ok then (if busyT t sl then 5 else if (t.us.length:Int)+(t.gs.length:Int)≥24 then 10 else 0) else 1
theorem CEc9 (t:TabT) (ly:LayT) (u:UseT) (ht:TabOk t):PCall prog 103 [tabA t,layA ly,useI u] (.d (i64 (refS t ly u.sl (useOk u ly)))):=by
 refine PCall.ofFnE (n:=100) (u:=false) (fun Ev=>wlRfd Ev.Y) mixed AXh9 Zag (fun Ev=>BXt9 mixed AXh9 ASh9 fun _ _ _ _ _ h=>h.elim) func103 (by rfl) (by rfl) fun Ev bb=> ?_;rw [BYy9,AAj9,AAg9];have hw:Zad Zbb ((t.us.length:Int)+(t.gs.length:Int))=(t.us.length:Int)+(t.gs.length:Int):=AAz9 (by have:=ht.1;have:=ht.2.1;omega) (by have:=ht.1;have:=ht.2.1;omega);rw [hw];refine ⟨t,ly,_,rfl,⟨ht,rfl⟩,Zbe (fun h1=> ?_) fun h1=>⟨rfl,u,ly,_,rfl,rfl,Zbe (fun h2=> ?_) fun h2=>⟨u,rfl,t,u.sl,_,rfl,⟨ht,rfl⟩,Zbe (fun h3=> ?_) fun h3=>Zbe (fun h4=> ?_) fun h4=> ?_⟩⟩⟩
 ·rw [Zcq] at h1;rw [refS,h1];rfl
 ·rw [Zcq] at h2;rw [refS,h2,Zcu];rfl
 all_goals (rw [Zek] at h1 h2;rw [refS,h1,h2,h3])
 ·rfl
 ·rw [if_pos (by rfl),if_neg (by decide),if_pos (of_decide_eq_true h4)]
 ·rw [if_pos (by rfl),if_neg (by decide),if_neg (of_decide_eq_false h4)]
def cRefU (args:List AV) (K:AV→Prop):Prop:=∃(t:TabT) (ly:LayT) (u:UseT) (q:Int),args= [tabA t,layA ly,useI u]∧(TabOk t∧q=refS t ly u.sl (useOk u ly))∧K (.d (i64 q))
theorem BVh9:∀args K,cRefU args K→∃x,PCall prog 103 args x∧K x:=by
 rintro _ K ⟨t,ly,u,_,rfl,⟨h,rfl⟩,hk⟩;exact ⟨_,CEc9 t ly u h,hk⟩
theorem CEd9 (t:TabT) (ly:LayT) (u:GraT) (ht:TabOk t):PCall prog 103 [tabA t,layA ly,graI u] (.d (i64 (refS t ly u.sl (graOk u ly)))):=by
 refine PCall.ofFnE (n:=100) (u:=false) (fun Ev=>wlRfd Ev.Y) mixed AXh9 Zag (fun Ev=>BXt9 mixed AXh9 ASh9 fun _ _ _ _ _ h=>h.elim) func103 (by rfl) (by rfl) fun Ev bb=> ?_;rw [BYz9,AAj9,AAg9];have hw:Zad Zbb ((t.us.length:Int)+(t.gs.length:Int))=(t.us.length:Int)+(t.gs.length:Int):=AAz9 (by have:=ht.1;have:=ht.2.1;omega) (by have:=ht.1;have:=ht.2.1;omega);rw [hw];refine ⟨t,ly,_,rfl,⟨ht,rfl⟩,Zbe (fun h1=> ?_) fun h1=>⟨rfl,u,ly,_,rfl,rfl,Zbe (fun h2=> ?_) fun h2=>⟨u,rfl,t,u.sl,_,rfl,⟨ht,rfl⟩,Zbe (fun h3=> ?_) fun h3=>Zbe (fun h4=> ?_) fun h4=> ?_⟩⟩⟩
 ·rw [Zcq] at h1;rw [refS,h1];rfl
 ·rw [Zcq] at h2;rw [refS,h2,Zcu];rfl
 all_goals (rw [Zek] at h1 h2;rw [refS,h1,h2,h3])
 ·rfl
 ·rw [if_pos (by rfl),if_neg (by decide),if_pos (of_decide_eq_true h4)]
 ·rw [if_pos (by rfl),if_neg (by decide),if_neg (of_decide_eq_false h4)]
def cRefG (args:List AV) (K:AV→Prop):Prop:=∃(t:TabT) (ly:LayT) (u:GraT) (q:Int),args= [tabA t,layA ly,graI u]∧(TabOk t∧q=refS t ly u.sl (graOk u ly))∧K (.d (i64 q))
theorem BVi9:∀args K,cRefG args K→∃x,PCall prog 103 args x∧K x:=by
 rintro _ K ⟨t,ly,u,_,rfl,⟨h,rfl⟩,hk⟩;exact ⟨_,CEd9 t ly u h,hk⟩
def TAu:List (Nat×(List AV→(AV→Prop)→Prop)):= [(103,cRefU),(107,cInsU),(48,BPa9),(105,BVb9)]
theorem CGd9:AAb9 prog TAu:=Zah BVh9 (Zah BVm9 (Zah BGw9 (Zah AWe9 Zak)))
def TAg:List (Nat×(List AV→(AV→Prop)→Prop)):= [(103,cRefG),(104,cInsG),(93,BGv9),(105,BVb9)]
theorem CGe9:AAb9 prog TAg:=Zah BVi9 (Zah BVn9 (Zah ARz9 (Zah AWe9 Zak)))
abbrev Qz4:List AV:= [Zae (Zde (.slice none 0 0)),Zae (Zde (.slice none 0 0)),Zae (Zde (.slice none 0 0))]
abbrev Qz44 (v0:TabT) (v1:LayT) (v2:UseT):List AV:= [Zaq (Qz1 v0),Zaq (Qz3 v1),Zae (Zde (Value.iface 149 (Value.agg (Array.mk [Zfa Zbb (Zcy v2),Zfa Zbb (UseT.of v2),Zfa Zbb (UseT.pe v2),Zfa Zbb (UseT.st v2)]))))]
theorem CCm9 (t:TabT) (ly:LayT) (u:UseT):wpFn prog ⟨TAu, [],wl,y,false⟩ 100 f56 [tabA t,layA ly,useA u] b R=(∃(t0:TabT) (ly1:LayT) (u2:UseT) (q3:Int),(Qz44 t ly u)=(Qz44 t0 ly1 u2)∧((Zaa (Zbn t0)<10000∧Zaa (Zbo t0)<10000∧Zaa (Zbq t0)<10000)∧q3=refS t0 ly1 (Zcy u2) (useOk u2 ly1))∧BIf (q3 !=(0:Int)) (R (.tup [Zaq Qz4,Zae (i64 q3)]) b) (∃(l4:List UseT) (z5:List UseT) (g6:UseT), [Zae (Zan 4 (rowsU (Zbn t))),Zaq (Qz7 u),Zaw (Fn.func 108) [] []]= [Zae (Zan 4 (rowsU l4)),Zaq (Qz7 g6),Zaw (Fn.func 108) [] []]∧(Zaa l4<1000000∧z5=insSU g6 l4)∧∃(l7:List GraT), [Zae (Zan 5 (rowsG (Zbo t)))]= [Zae (Zan 5 (rowsG l7))]∧Zaa l7≤1000000∧∃(t8:TabT) (z9:List AskT) (sl10:Int), [Zaq (Qz1 t),Zae (i64 (Zcy u))]= [Zaq (Qz1 t8),Zae (i64 sl10)]∧((Zaa (Zbn t8)<1000000∧Zaa (Zbo t8)<1000000∧Zaa (Zbq t8)<1000000)∧z9=AHr9 t8 sl10)∧R (.tup [Zaq (Qz68 z5 l7 z9),Zae (i64 0)]) b)):=by kernel_rfl
abbrev Qz42 (v0:TabT) (v1:LayT) (v2:GraT):List AV:= [Zaq (Qz1 v0),Zaq (Qz3 v1),Zae (Zde (Value.iface 140 (Value.agg (Array.mk [Zfa Zbb (Zdc v2),Zfa Zbb (GraT.of v2),Zfa Zbb (Zft v2),Zfa Zbb (Zgn v2),Zfa Zbb (Zdw v2)]))))]
theorem CCn9 (t:TabT) (ly:LayT) (u:GraT):wpFn prog ⟨TAg, [],wl,y,false⟩ 100 f52 [tabA t,layA ly,graA u] b R=(∃(t0:TabT) (ly1:LayT) (u2:GraT) (q3:Int),(Qz42 t ly u)=(Qz42 t0 ly1 u2)∧((Zaa (Zbn t0)<10000∧Zaa (Zbo t0)<10000∧Zaa (Zbq t0)<10000)∧q3=refS t0 ly1 (Zdc u2) (graOk u2 ly1))∧BIf (q3 !=(0:Int)) (R (.tup [Zaq Qz4,Zae (i64 q3)]) b) (∃(l4:List UseT), [Zae (Zan 4 (rowsU (Zbn t)))]= [Zae (Zan 4 (rowsU l4))]∧Zaa l4≤1000000∧∃(l5:List GraT) (z6:List GraT) (g7:GraT), [Zae (Zan 5 (rowsG (Zbo t))),Zaq (Qz5 u),Zaw (Fn.func 95) [] []]= [Zae (Zan 5 (rowsG l5)),Zaq (Qz5 g7),Zaw (Fn.func 95) [] []]∧(Zaa l5<1000000∧z6=insSG g7 l5)∧∃(t8:TabT) (z9:List AskT) (sl10:Int), [Zaq (Qz1 t),Zae (i64 (Zdc u))]= [Zaq (Qz1 t8),Zae (i64 sl10)]∧((Zaa (Zbn t8)<1000000∧Zaa (Zbo t8)<1000000∧Zaa (Zbq t8)<1000000)∧z9=AHr9 t8 sl10)∧R (.tup [Zaq (Qz68 l4 z6 z9),Zae (i64 0)]) b)):=by kernel_rfl
theorem BCd9 (e:Int):LeV (AV.tup [Zaq [Zae (Zde (Zda none 0 0)),Zae (Zde (Zda none 0 0)),Zae (Zde (Zda none 0 0))],Zae (i64 e)]) (AV.tup [tabA ⟨[], [], []⟩,Zae (i64 e)]):=
 LeV.tups (.cons (LeV.aggs (by repeat' (first|exact .nil|refine .cons .rfl ?_|refine .cons (.nil rfl) ?_))) (.cons .rfl .nil))
def refEU (t:TabT) (ly:LayT) (u:UseT):Int:=refS t ly u.sl (useOk u ly)
def addSU (t:TabT) (ly:LayT) (u:UseT):TabT:=if refEU t ly u=0 then ⟨insSU u t.us,t.gs,AHr9 t u.sl⟩ else ⟨[], [], []⟩
theorem CEn9 (t:TabT) (ly:LayT) (u:UseT) (ht:TabOk t):PCall prog 56 [tabA t,layA ly,useA u] (.tup [tabA (addSU t ly u), .d (i64 (refEU t ly u))]):=by
 refine PCall.ofFnV (n:=100) (u:=false) (fun _=>fun _ _ _ _ _=>False) mixed CGd9 Zag (fun Ev _ _ _ _ _ h=>h.elim) func56 (by rfl) (by rfl) fun Ev bb=> ?_;rw [CCm9];refine ⟨t,ly,u,_,rfl,⟨ht,rfl⟩,Zbe (fun h1=> ?_) fun h1=>⟨t.us,_,u,rfl,⟨by have:=ht.1;omega,rfl⟩,t.gs,rfl,by have:=ht.2.1;omega,t,_,u.sl,rfl,⟨⟨by have:=ht.1;omega,by have:=ht.2.1;omega,by have:=ht.2.2;omega⟩,rfl⟩, ?_⟩⟩
 ·have h2:¬refEU t ly u=0:=by rw [refEU];simpa using h1
  rw [addSU,if_neg h2];exact BCd9 _
 ·have h2:refEU t ly u=0:=by rw [refEU];simpa using h1
  rw [addSU,if_pos h2,h2];exact .rfl
def cAddU (args:List AV) (K:AV→Prop):Prop:=∃(t z:TabT) (ly:LayT) (u:UseT) (e:Int),args= [tabA t,layA ly,useA u]∧(TabOk t∧z=addSU t ly u∧e=refEU t ly u)∧K (.tup [tabA z, .d (i64 e)])
theorem BVs9:∀args K,cAddU args K→∃x,PCall prog 56 args x∧K x:=by
 rintro _ K ⟨t,_,ly,u,_,rfl,⟨h,rfl,rfl⟩,hk⟩;exact ⟨_,CEn9 t ly u h,hk⟩
def refEG (t:TabT) (ly:LayT) (u:GraT):Int:=refS t ly u.sl (graOk u ly)
def addSG (t:TabT) (ly:LayT) (u:GraT):TabT:=if refEG t ly u=0 then ⟨t.us,insSG u t.gs,AHr9 t u.sl⟩ else ⟨[], [], []⟩
theorem CEo9 (t:TabT) (ly:LayT) (u:GraT) (ht:TabOk t):PCall prog 52 [tabA t,layA ly,graA u] (.tup [tabA (addSG t ly u), .d (i64 (refEG t ly u))]):=by
 refine PCall.ofFnV (n:=100) (u:=false) (fun _=>fun _ _ _ _ _=>False) mixed CGe9 Zag (fun Ev _ _ _ _ _ h=>h.elim) func52 (by rfl) (by rfl) fun Ev bb=> ?_;rw [CCn9];refine ⟨t,ly,u,_,rfl,⟨ht,rfl⟩,Zbe (fun h1=> ?_) fun h1=>⟨t.us,rfl,by have:=ht.1;omega,t.gs,_,u,rfl,⟨by have:=ht.2.1;omega,rfl⟩,t,_,u.sl,rfl,⟨⟨by have:=ht.1;omega,by have:=ht.2.1;omega,by have:=ht.2.2;omega⟩,rfl⟩, ?_⟩⟩
 ·have h2:¬refEG t ly u=0:=by rw [refEG];simpa using h1
  rw [addSG,if_neg h2];exact BCd9 _
 ·have h2:refEG t ly u=0:=by rw [refEG];simpa using h1
  rw [addSG,if_pos h2,h2];exact .rfl
def cAddG (args:List AV) (K:AV→Prop):Prop:=∃(t z:TabT) (ly:LayT) (u:GraT) (e:Int),args= [tabA t,layA ly,graA u]∧(TabOk t∧z=addSG t ly u∧e=refEG t ly u)∧K (.tup [tabA z, .d (i64 e)])
theorem BVt9:∀args K,cAddG args K→∃x,PCall prog 52 args x∧K x:=by
 rintro _ K ⟨t,_,ly,u,_,rfl,⟨h,rfl,rfl⟩,hk⟩;exact ⟨_,CEo9 t ly u h,hk⟩
noncomputable def lpG1:Code:=sub [1,8,1,1,1,1,0,1,2,3] (code f13)
def tmG1 (s:SideT) (me fr:Int) (x:AV) (n i:Int):List AV:= [.bad, .bad, .d (i64 me), .bad, .d (i64 fr), .ptr 0 0, .ptr 1 0, .bad, .bad, .bad, .ptr 2 0, .rptr (sideD s)]++Zap 31 .bad++ [x, .d (i64 n), .d (i64 i)]++Zap 90 .bad
def grtB (us:List UseT) (x:AV) (ak:List AskT):Blk:=⟨[.d (.sl 4 (rowsU us)),x, .d (.sl 3 (rowsA ak))],false,false,0⟩
def resB:Blk:=⟨[.d (.s (.slice none 0 0)), .d (.s (.slice none 0 0)), .d (.s (.slice none 0 0))],false,false,0⟩
def TG1:List (Nat×(List AV→(AV→Prop)→Prop)):= [(37,cFind),(49,APd9),(50,CBw9)]
theorem CDd9:AAb9 prog TG1:=Zah AUj9 (Zah AMd9 (Zah BMh9 Zak))
theorem rG1 (s:SideT) (ly:LayT) (us:List UseT) (ak:List AskT) (me fr:Int) (n:Nat) (i:Int) (cs:List AV):wpc prog ⟨TG1,GCG,wl,y,false⟩ 100 lpG1 (tmG1 s me fr (.gref 3 0 n 5) n i) [layB ly,grtB us (.gref 3 0 n 5) ak,resB,growB 0 cs] b (maskK 4 [2,4,5,6,10,11,43,44,45] K)=(BIf (decide (i<(n:Int))) (0=0∧BIf (decide (0≤i)&&decide (i<(n:Int))) (0=0∧∃(x0:Int) (x1:Int) (x2:Int) (x3:Int) (x4:Int),Zbu 5 (Zce (Zao i*5) cs)=(Qz22 x0 x1 x2 x3 x4)∧∃(s5:SideT) (pe6:Int) (q7:NearT) (e8:Bool), [Zaf (Qz2 s),Zae (i64 x2)]= [Zaf (Qz2 s5),Zae (i64 pe6)]∧(Zaa (Zat s5)≤9223372036854775807∧q7=nearO (sFind s5 pe6)∧e8=Option.isSome (sFind s5 pe6))∧BIf e8 (∃(s9:SideT) (n10:NearT) (q11:Bool), [Zaf (Qz2 s),nearA q7]= [Zaf (Qz2 s9),nearA n10]∧q11=ATo9 s9 n10∧BIf q11 (∃(s12:SideT) (n13:NearT) (sl14:Int) (of15:Int) (q16:Bool), [Zaf (Qz2 s),nearA q7,Zaq [Zae (i64 x0),Zae (i64 x1)]]= [Zaf (Qz2 s12),nearA n13,Zaq [Zae (i64 sl14),Zae (i64 of15)]]∧((Zaa (Zbl n13)≤9223372036854775807∧Zaa (Zbw n13)≤9223372036854775807)∧q16=APv9 s12 n13 sl14 of15)∧BIf q16 (0=0∧BIf (decide (0≤i)&&decide (i<(n:Int))) (0=0∧0=0∧BIf (decide (Zao i*5+4+1≤Zaa cs)) (BIf (Zbm [Blk.mk (Qz3 ly) false false 0,Blk.mk [Zae (Zan 4 (rowsU us)),Zbj 3 0 n 5,Zae (Zan 3 (rowsA ak))] false false 0,Blk.mk Qz4 false false 0,Blk.mk (Zbu (Zao i*5+4) cs++ [Zae (i64 (if Zad .i64 (fr+8)>x4 then Zad .i64 (fr+8) else x4))]++Zce (Zao i*5+4+1) cs) false true 0] fun (blk17:Blk)=>lows 4 blk17.1) (K .normal (Zac::Zac::Zae (i64 me)::Zac::Zae (i64 fr)::Zai 0 0::Zai 1 0::bds 3 (Zai 2 0::Zaf (Qz2 s)::bds 31 (Zbj 3 0 n 5::Zae (i64 (n:Int))::Zae (i64 (Zad .i64 (i+1)))::bds 90 []))) [Blk.mk (Qz3 ly) false false 0,Blk.mk [Zae (Zan 4 (rowsU us)),Zbj 3 0 n 5,Zae (Zan 3 (rowsA ak))] false false 0,Blk.mk Qz4 false false 0,Blk.mk (Zbu (Zao i*5+4) cs++ [Zae (i64 (if Zad .i64 (fr+8)>x4 then Zad .i64 (fr+8) else x4))]++Zce (Zao i*5+4+1) cs) false true 0] b) False) False) False) (BIf (Zbm [Blk.mk (Qz3 ly) false false 0,Blk.mk [Zae (Zan 4 (rowsU us)),Zbj 3 0 n 5,Zae (Zan 3 (rowsA ak))] false false 0,Blk.mk Qz4 false false 0,Blk.mk cs false true 0] fun (blk18:Blk)=>lows 4 blk18.1) (K .normal (Zac::Zac::Zae (i64 me)::Zac::Zae (i64 fr)::Zai 0 0::Zai 1 0::bds 3 (Zai 2 0::Zaf (Qz2 s)::bds 31 (Zbj 3 0 n 5::Zae (i64 (n:Int))::Zae (i64 (Zad .i64 (i+1)))::bds 90 []))) [Blk.mk (Qz3 ly) false false 0,Blk.mk [Zae (Zan 4 (rowsU us)),Zbj 3 0 n 5,Zae (Zan 3 (rowsA ak))] false false 0,Blk.mk Qz4 false false 0,Blk.mk cs false true 0] b) False)) (BIf (Zbm [Blk.mk (Qz3 ly) false false 0,Blk.mk [Zae (Zan 4 (rowsU us)),Zbj 3 0 n 5,Zae (Zan 3 (rowsA ak))] false false 0,Blk.mk Qz4 false false 0,Blk.mk cs false true 0] fun (blk19:Blk)=>lows 4 blk19.1) (K .normal (Zac::Zac::Zae (i64 me)::Zac::Zae (i64 fr)::Zai 0 0::Zai 1 0::bds 3 (Zai 2 0::Zaf (Qz2 s)::bds 31 (Zbj 3 0 n 5::Zae (i64 (n:Int))::Zae (i64 (Zad .i64 (i+1)))::bds 90 []))) [Blk.mk (Qz3 ly) false false 0,Blk.mk [Zae (Zan 4 (rowsU us)),Zbj 3 0 n 5,Zae (Zan 3 (rowsA ak))] false false 0,Blk.mk Qz4 false false 0,Blk.mk cs false true 0] b) False)) (BIf (Zbm [Blk.mk (Qz3 ly) false false 0,Blk.mk [Zae (Zan 4 (rowsU us)),Zbj 3 0 n 5,Zae (Zan 3 (rowsA ak))] false false 0,Blk.mk Qz4 false false 0,Blk.mk cs false true 0] fun (blk20:Blk)=>lows 4 blk20.1) (K .normal (Zac::Zac::Zae (i64 me)::Zac::Zae (i64 fr)::Zai 0 0::Zai 1 0::bds 3 (Zai 2 0::Zaf (Qz2 s)::bds 31 (Zbj 3 0 n 5::Zae (i64 (n:Int))::Zae (i64 (Zad .i64 (i+1)))::bds 90 []))) [Blk.mk (Qz3 ly) false false 0,Blk.mk [Zae (Zan 4 (rowsU us)),Zbj 3 0 n 5,Zae (Zan 3 (rowsA ak))] false false 0,Blk.mk Qz4 false false 0,Blk.mk cs false true 0] b) False)) False) (BIf (Zbm [Blk.mk (Qz3 ly) false false 0,Blk.mk [Zae (Zan 4 (rowsU us)),Zbj 3 0 n 5,Zae (Zan 3 (rowsA ak))] false false 0,Blk.mk Qz4 false false 0,Blk.mk cs false true 0] fun (blk21:Blk)=>lows 4 blk21.1) (K (Zbs 0) (Zac::Zac::Zae (i64 me)::Zac::Zae (i64 fr)::Zai 0 0::Zai 1 0::bds 3 (Zai 2 0::Zaf (Qz2 s)::bds 31 (Zbj 3 0 n 5::Zae (i64 (n:Int))::Zae (i64 i)::bds 90 []))) [Blk.mk (Qz3 ly) false false 0,Blk.mk [Zae (Zan 4 (rowsU us)),Zbj 3 0 n 5,Zae (Zan 3 (rowsA ak))] false false 0,Blk.mk Qz4 false false 0,Blk.mk cs false true 0] b) False)):=by kernel_rfl
def AGy9 (s:SideT) (g:GraT):Bool:=(sFind s g.pe).isSome&&(ATo9 s (nearO (sFind s g.pe))&&APv9 s (nearO (sFind s g.pe)) g.sl g.of)
def BDw9 (fr:Int) (g:GraT):GraT:=⟨g.sl,g.of,g.pe,g.st,if Zad Zbb (fr+8)>g.un then Zad Zbb (fr+8) else g.un⟩
def AEu9 (s:SideT) (fr:Int) (g:GraT):GraT:=if AGy9 s g=true then BDw9 fr g else g
def curG (s:SideT) (fr:Int) (gs:List GraT) (i:Nat):List GraT:=(gs.take i).map (AEu9 s fr)++gs.drop i
theorem BUr9 (s:SideT) (fr:Int) (gs:List GraT) (i:Nat):(curG s fr gs i).length=gs.length:=by simp [curG];omega
theorem BOk9 {s:SideT} {fr:Int} {gs:List GraT} {i:Nat} {g:GraT} (h:gs[i]? =some g):(curG s fr gs i)[i]? =some g:=by
 have hi:=(Zab.1 h).1;rw [curG,List.getElem?_append_right (by simp;omega)];simp only [Zgh,Zcf,Nat.min_eq_left (Nat.le_of_lt hi),Nat.sub_self];rw [List.getElem?_drop];simpa using h
theorem AWc9 {s:SideT} {fr:Int} {gs:List GraT} {i:Nat} {g:GraT} (h:gs[i]? =some g):curG s fr gs (i+1)=(curG s fr gs i).set i (AEu9 s fr g):=by
 have hi:=(Zab.1 h).1;rw [curG,curG,Zel,h,List.set_append_right _ _ (by simp;omega)];simp only [Zgh,Zcf,Nat.min_eq_left (Nat.le_of_lt hi),Nat.sub_self,Option.toList_some,List.map_append,Zeb,List.map_nil,Zbr,Zgs,List.nil_append];congr 1;rw [List.drop_eq_getElem_cons hi,List.set_cons_zero]
theorem APb9 {s:SideT} {fr:Int} {gs:List GraT} {i:Nat} {g:GraT} (h:gs[i]? =some g) (hr:AGy9 s g=false):curG s fr gs (i+1)=curG s fr gs i:=by
 rw [AWc9 h,AEu9,hr,if_neg (by decide)];exact ABj9 (BOk9 h)
theorem CBd9 {cur:List GraT} {i:Nat} {g:GraT} (h:cur[i]? =some g) (z:Int):(flatA (rowsG cur)).take (i*5+4)++ [Zae (i64 z)]++(flatA (rowsG cur)).drop (i*5+4+1)=flatA (rowsG (cur.set i ⟨g.sl,g.of,g.pe,g.st,z⟩)):=by
 have hi:=(Zab.1 h).1;have e:=BUb9 AFp9 (hs:=cur) (i:=i) hi ⟨g.sl,g.of,g.pe,g.st,z⟩;have ea:=fl_at AFp9 h;have f:∀l:List GraT,flatA (rowsG l)=flatA (l.map graR):=fun _=>rfl;rw [f,f,←e,List.take_add];have e4:((flatA (cur.map graR)).drop (i*5)).take 4=((graR g).map Zae).take 4:=by rw [←ea,List.take_take];rfl
 rw [e4];simp only [graR,Zeb,List.map_nil,List.take_succ_cons,Zgi,Zbr,Zgs,List.nil_append]
def g1B (ly:LayT) (us:List UseT) (ak:List AskT) (n:Nat) (gs:List GraT):List Blk:= [layB ly,grtB us (.gref 3 0 n 5) ak,resB,growB 0 (flatA (rowsG gs))]
theorem CEs9 (ly:LayT) (us:List UseT) (ak:List AskT) (n:Nat) (gs:List GraT):Zbm (g1B ly us ak n gs) (fun blk=>lows 4 blk.1)=true:=by
 simp only [g1B,List.all_cons,List.all_nil,Zgd,Zaj];exact ⟨rfl,rfl,rfl,ACt9 4 _⟩
def AGm9 (s:SideT):Prop:=s.ns.length≤9223372036854775807∧∀x∈s.ns,AFc9 x
theorem BDt9 {s:SideT} (hs:AGm9 s) (pe:Int):AFc9 (nearO (sFind s pe)):=by
 cases h:sFind s pe with
 |none=>exact ⟨by decide,by decide,by decide⟩
 |some n=>exact hs.2 n (List.mem_of_find?_eq_some h)
theorem wrG1 {Ev:Env prog} {b:Ev.β} {Q:Exit→St Ev.β→Prop} (s:SideT) (ly:LayT) (us:List UseT) (ak:List AskT) (me fr:Int) (gs:List GraT) (hs:AGm9 s) (hl:gs.length<1000000)
 (hQ:Q (.exit 0) ⟨tmG1 s me fr (.gref 3 0 gs.length 5) gs.length gs.length,g1B ly us ak gs.length (curG s fr gs gs.length),b⟩):WR Ev lpG1 (gs.length+1) ⟨tmG1 s me fr (.gref 3 0 gs.length 5) gs.length (0:Nat),g1B ly us ak gs.length (curG s fr gs 0),b⟩ Q:=by
 have low:=CEs9 ly us ak gs.length;refine WR.scanG (X:=⟨TG1,GCG,wlW Ev,Ev.Y,false⟩) (k:=100) (L:=4) [2,4,5,6,10,11,43,44,45] mixed (CX.Ok.of CDd9 BAj9) gs (fun _=>false) (fun i=>tmG1 s me fr (.gref 3 0 gs.length 5) gs.length (i:Nat)) (fun i=>g1B ly us ak gs.length (curG s fr gs i)) (fun _=>rfl) 0 0 (fun i g _ hi hg K _ k2=> ?_) (fun K k1=> ?_) (fun _=>hQ) (fun h=>by simp at h) gs.length 0 (by simp) (Zav _) rfl
 ·refine Eq.mpr (rG1 _ _ _ K s ly us ak me fr gs.length i _) ?_;have hk:=k2 rfl;have hc:=BOk9 (s:=s) (fr:=fr) hg;have hn:=BDt9 hs g.pe;refine Zba (by simp;omega) ⟨rfl,Zba (by simp;omega) ⟨rfl,_,_,_,_,_,by rw [Zcn];exact fl_at AFp9 hc,s,g.pe,_,_,rfl,⟨hs.1,rfl,rfl⟩,Zbe (fun h1=>⟨s,nearO (sFind s g.pe),_,rfl,rfl,Zbe (fun h2=>⟨s,nearO (sFind s g.pe),g.sl,g.of,_,rfl,⟨⟨by have:=hn.1;omega,by have:=hn.2.2;omega⟩,rfl⟩,Zbe (fun h3=> ?_) fun h3=> ?_⟩) fun h2=> ?_⟩) fun h1=> ?_⟩⟩
  ·have hr:AGy9 s g=true:=by rw [AGy9,h1,h2,h3];rfl
   have e4:=CBd9 hc (BDw9 fr g).un;have es:curG s fr gs (i+1)=(curG s fr gs i).set i ⟨g.sl,g.of,g.pe,g.st,(BDw9 fr g).un⟩:=by rw [AWc9 hg,AEu9,if_pos hr];rfl
   have hl2:=low (curG s fr gs (i+1));simp only [g1B,es,←e4] at hk hl2;refine ⟨rfl,Zba (by simp;omega) ⟨rfl,rfl,Zba ?_ ?_⟩⟩
   ·have:=AZa9 AFp9 (curG s fr gs i);rw [Zcn,show flatA (rowsG (curG s fr gs i))=flatA ((curG s fr gs i).map graR) from rfl,this,BUr9];simp;omega
   ·rw [Zcn,wrapN (by omega)];exact Zba hl2 hk
  ·have hr:AGy9 s g=false:=by rw [AGy9,h1,h2,h3];rfl
   rw [APb9 hg hr] at hk;rw [wrapN (by omega)];exact Zba (low _) hk
  ·have hr:AGy9 s g=false:=by rw [AGy9,h1,h2];rfl
   rw [APb9 hg hr] at hk;rw [wrapN (by omega)];exact Zba (low _) hk
  ·have hr:AGy9 s g=false:=by rw [AGy9,h1];rfl
   rw [APb9 hg hr] at hk;rw [wrapN (by omega)];exact Zba (low _) hk
 ·refine Eq.mpr (rG1 _ _ _ K s ly us ak me fr gs.length gs.length _) ?_;exact Zdd (by simp) (Zba (low _) k1)
theorem BEk9 {tm:List AV} {hp:List Blk} {c off:Nat} {blk:Blk} {x y:AV} {gs:List Nat} (hc:hp[c]? =some blk) (hx:blk.cells[off]? =some x) (hs:SealR hp x y) (hg:∀g∈occ x,g∈gs) (ho:y.isOwn=false) (hcg:(frz hp gs)[c]? =some blk):
 FrzOk ⟨tm,hp, []⟩ ⟨tm,(frz hp gs).set c {blk with cells:=blk.cells.set off y}, []⟩:=by
 intro S X yv w m B hv a hr;obtain ⟨hl,hr,hpv⟩:=hr;obtain ⟨S',h1,h2,h3,h4⟩:=Rel.frzAll gs hr;refine ⟨S',⟨Agree.refl _ _ _,h1,h2,MStep.refl m⟩,hl, ?_,hpv⟩;have hr':Rel S X yv w m ((tm.zip a.tmps.toList++B)++AAa9 hp hv) hp hv:=by simpa using hr
 have hvl:c<hv.length:=by rw [hr'.hl];exact (Zab.1 hc).1
 have hcv:hv[c]? =some hv[c]:=Zaz hvl;obtain ⟨pre,post,e1,e2⟩:=ABn9 hcg hcv;have e3:=e2 {blk with cells:=blk.cells.set off y} hv[c];have hvs:hv.set c hv[c]=hv:=ABj9 hcv;rw [hvs] at e3;have hcp:AAa9 (frz hp gs) hv=AAa9 hp hv:=AEp9 hv (AOv9 gs hp);have h3':Rel S' X yv w m ((blk.cells.zip hv[c])++((tm.zip a.tmps.toList++B)++(pre++post))) (frz hp gs) hv:=by
  refine Rel.perm (A:=(tm.zip a.tmps.toList++B)++AAa9 hp hv) (by simpa using h3) ?_;rw [←hcp,e1];have:((tm.zip a.tmps.toList++B)++(pre++blk.cells.zip hv[c]++post)).Perm ((blk.cells.zip hv[c])++((tm.zip a.tmps.toList++B)++(pre++post))):=by
   have p1:(pre++blk.cells.zip hv[c]++post).Perm (blk.cells.zip hv[c]++(pre++post)):=by
    rw [←Zbr];exact List.Perm.append_right _ List.perm_append_comm
   refine (List.Perm.append_left _ p1).trans ?_;rw [←Zbr,←Zbr (blk.cells.zip hv[c])];exact List.Perm.append_right _ List.perm_append_comm
  exact this
 have key:∀(l:List AV) (vs:List Value) (o:Nat),l[o]? =some x→(∀p∈l.zip vs,RV S w m yv p.1 p.2)→RP S' w m yv (l.zip vs) ((l.set o y).zip vs):=by
  intro l;induction l with
  |nil=>intro vs o h;simp at h
  | cons z l ih=>
   intro vs o h hrv;cases vs with
   |nil=>rw [List.zip_nil_right,List.zip_nil_right];exact .nil
   | cons v vs=>
    cases o with
    | zero=>
     simp at h;subst h;refine .turn ?_ (ALh9 ho) ?_
     ·exact (AIw9 hr' h1 hs (fun g hgg p hp i hi=>h4 g (hg g hgg) p hp i hi) (hrv (z,v) (by simp))).opened
     ·have:∀q:List (AV×Value),RP S' w m yv q q:=fun q=>by
       induction q with
       |nil=>exact .nil
       |cons p q ih=>exact .keep ih
      exact this _
    | succ o=>
     simp only [List.set_cons_succ,List.zip_cons_cons];exact .keep (ih vs o (by simpa using h) fun p hp=>hrv p (List.mem_cons_of_mem _ hp))
 have h5:=Rel.rp (key blk.cells hv[c] off hx fun p hp=>hr'.rv p (Zed _ (by rw [←hcp,e1];exact List.mem_append_left _ (Zed _ hp)))) h3';have h6:Rel S' X yv w m ((tm.zip a.tmps.toList++B)++AAa9 ((frz hp gs).set c {blk with cells:=blk.cells.set off y}) hv) (frz hp gs) hv:=by
  refine h5.perm ?_;rw [e3];have p1:(pre++(blk.cells.set off y).zip hv[c]++post).Perm ((blk.cells.set off y).zip hv[c]++(pre++post)):=by
   rw [←Zbr];exact List.Perm.append_right _ List.perm_append_comm
  refine List.Perm.symm ((List.Perm.append_left _ p1).trans ?_);rw [←Zbr,←Zbr ((blk.cells.set off y).zip hv[c])];exact List.Perm.append_right _ List.perm_append_comm
 have h7:Rel S' X yv w m ((tm.zip a.tmps.toList++B)++AAa9 ((frz hp gs).set c {blk with cells:=blk.cells.set off y}) hv) ((frz hp gs).set c {blk with cells:=blk.cells.set off y}) hv:=by
  refine ⟨h6.lt,h6.rv,h6.pw,h6.nm,h6.sp,h6.mnd,by rw [List.length_set];exact h6.ml,by rw [List.length_set];exact h6.hl,fun g b' p vs g1 g2 g3=> ?_,h6.gl⟩;by_cases hgc:c=g
  ·subst hgc;rw [List.getElem?_set_self (Zab.1 hcg).1] at g1;cases g1;have:=h6.bl c blk p vs hcg g2 g3;simpa using this
  ·rw [List.getElem?_set_ne hgc] at g1;exact h6.bl g b' p vs g1 g2 g3
 simpa using h7
def frozB (cs:List AV):Blk:=⟨cs,true,true,0⟩
noncomputable def lpG2:Code:=sub [1,8,1,1,1,1,1,1,0,1,2,3] (code f13)
noncomputable def lpG3:Code:=sub [1,8,1,1,1,1,1,1,0,1,2,3,1,1,0,2,1,1,1,2,3] (code f13)
def tmG2 (s:SideT) (me fr:Int) (i:Int):List AV:= [.bad, .bad, .d (i64 me), .bad, .d (i64 fr), .ptr 0 0, .ptr 1 0, .bad, .bad, .bad, .ptr 2 0, .rptr (sideD s)]++Zap 72 .bad++ [.d (.sl 31 (rowsN s.ns)), .d (i64 s.ns.length), .d (i64 i)]++Zap 49 .bad
def tmG3 (L:Nat) (s:SideT) (me fr:Int) (i:Int) (ak:List AskT) (j:Int):List AV:= [.bad, .bad, .d (i64 me), .bad, .d (i64 fr), .ptr 0 0, .ptr 1 0, .bad, .bad, .bad, .ptr 2 0, .rptr (sideD s)]++Zap 6 .bad++ [.ptr L 0]++Zap 65 .bad++ [.d (.sl 31 (rowsN s.ns)), .d (i64 s.ns.length), .d (i64 i)]++Zap 9 .bad++ [.d (.sl 3 (rowsA ak)), .d (i64 ak.length), .d (i64 j)]++Zap 37 .bad
def TG3:List (Nat×(List AV→(AV→Prop)→Prop)):= [(49,APd9),(51,BOt9),(52,cAddG)]
theorem BNl9:AAb9 prog TG3:=Zah AMd9 (Zah BGb9 (Zah BVt9 Zak))
abbrev Qz20 (v0:LayT) (v1:TabT) (v2:NearT):= [Blk.mk (Qz3 v0) false false 0,Blk.mk (Qz1 v1) false false 0,Blk.mk Qz4 false false 0,nearB v2]
theorem rG3_3 (s:SideT) (ly:LayT) (t:TabT) (n:NearT) (me fr i:Int) (ak:List AskT) (j:Int):wpc prog ⟨TG3, [],wl,y,false⟩ 100 lpG3 (tmG3 3 s me fr i ak j) [layB ly,tabB t,resB,nearB n] b (maskK 4 [2,4,5,6,10,11,18,84,85,86,96,97,98] K)=(BIf (decide (j<((Zaa ak:Nat):Int))) (BIf (true&&decide (0≤j)) (∃(x0:Int) (x1:Int) (x2:Int),(rowsA ak)[Zao j]? =some [i64 x0,i64 x1,i64 x2]∧BIf (x2 !=me) (K .normal (Zac::Zac::Zae (i64 me)::Zac::Zae (i64 fr)::Zai 0 0::Zai 1 0::bds 3 (Zai 2 0::Zaf (Qz2 s)::bds 6 (Zai 3 0::bds 65 (Zae (Zan 31 (rowsN (Zat s)))::Zae (i64 ((Zaa (Zat s):Nat):Int))::Zae (i64 i)::bds 9 (Zae (Zan 3 (rowsA ak))::Zae (i64 ((Zaa ak:Nat):Int))::Zae (i64 (Zad .i64 (j+1)))::bds 37 []))))) (Qz20 ly t n) b) (∃(s5:SideT) (sl6:Int) (of7:Int) (but8:Int) (q9:Bool), [Zaf (Qz2 s),Zaq [Zae (i64 x0),Zae (i64 x1)],Zae (i64 (Zdq n))]= [Zaf (Qz2 s5),Zaq [Zae (i64 sl6),Zae (i64 of7)],Zae (i64 but8)]∧((Zaa (Zat s5)≤9223372036854775807∧(∀(x:NearT),x∈Zat s5→Zaa (Zbl x)≤9223372036854775807∧Zaa (Zbk x)≤9223372036854775807∧Zaa (Zbw x)≤9223372036854775807)∧layOk (Zcr s5)=true)∧q9=usedS (Zat s5) sl6 of7 but8)∧BIf q9 (K .normal (Zac::Zac::Zae (i64 me)::Zac::Zae (i64 fr)::Zai 0 0::Zai 1 0::bds 3 (Zai 2 0::Zaf (Qz2 s)::bds 6 (Zai 3 0::bds 65 (Zae (Zan 31 (rowsN (Zat s)))::Zae (i64 ((Zaa (Zat s):Nat):Int))::Zae (i64 i)::bds 9 (Zae (Zan 3 (rowsA ak))::Zae (i64 ((Zaa ak:Nat):Int))::Zae (i64 (Zad .i64 (j+1)))::bds 37 []))))) (Qz20 ly t n) b) (∃(t10:TabT) (z11:TabT) (ly12:LayT) (u13:GraT) (e14:Int), [Zaq (Qz1 t),Zaq (Qz3 ly),Zaq [Zae (i64 x0),Zae (i64 x1),Zae (i64 (Zdq n)),Zae (i64 fr),Zae (i64 (Zad .i64 (fr+8)))]]= [Zaq (Qz1 t10),Zaq (Qz3 ly12),Zaq (Qz5 u13)]∧((Zaa (Zbn t10)<10000∧Zaa (Zbo t10)<10000∧Zaa (Zbq t10)<10000)∧z11=addSG t10 ly12 u13∧e14=refEG t10 ly12 u13)∧BIf (e14==(0:Int)) (K .normal (Zac::Zac::Zae (i64 me)::Zac::Zae (i64 fr)::Zai 0 0::Zai 1 0::bds 3 (Zai 2 0::Zaf (Qz2 s)::bds 6 (Zai 3 0::bds 65 (Zae (Zan 31 (rowsN (Zat s)))::Zae (i64 ((Zaa (Zat s):Nat):Int))::Zae (i64 i)::bds 9 (Zae (Zan 3 (rowsA ak))::Zae (i64 ((Zaa ak:Nat):Int))::Zae (i64 (Zad .i64 (j+1)))::bds 37 []))))) (Qz20 ly z11 n) b) (K .normal (Zac::Zac::Zae (i64 me)::Zac::Zae (i64 fr)::Zai 0 0::Zai 1 0::bds 3 (Zai 2 0::Zaf (Qz2 s)::bds 6 (Zai 3 0::bds 65 (Zae (Zan 31 (rowsN (Zat s)))::Zae (i64 ((Zaa (Zat s):Nat):Int))::Zae (i64 i)::bds 9 (Zae (Zan 3 (rowsA ak))::Zae (i64 ((Zaa ak:Nat):Int))::Zae (i64 (Zad .i64 (j+1)))::bds 37 []))))) (Qz20 ly t n) b)))) False) (K (Zbs 4) (Zac::Zac::Zae (i64 me)::Zac::Zae (i64 fr)::Zai 0 0::Zai 1 0::bds 3 (Zai 2 0::Zaf (Qz2 s)::bds 6 (Zai 3 0::bds 65 (Zae (Zan 31 (rowsN (Zat s)))::Zae (i64 ((Zaa (Zat s):Nat):Int))::Zae (i64 i)::bds 9 (Zae (Zan 3 (rowsA ak))::Zae (i64 ((Zaa ak:Nat):Int))::Zae (i64 j)::bds 37 []))))) (Qz20 ly t n) b)):=by kernel_rfl
abbrev Qz16 (v0:LayT) (v1:TabT) (v2:List AV) (v3:NearT):= [Blk.mk (Qz3 v0) false false 0,Blk.mk (Qz1 v1) false false 0,Blk.mk Qz4 false false 0,Blk.mk v2 true true 0,nearB v3]
theorem rG3_4 (s:SideT) (ly:LayT) (t:TabT) (n:NearT) (me fr i:Int) (ak:List AskT) (j:Int) (cs:List AV):wpc prog ⟨TG3, [],wl,y,false⟩ 100 lpG3 (tmG3 4 s me fr i ak j) [layB ly,tabB t,resB,frozB cs,nearB n] b (maskK 5 [2,4,5,6,10,11,18,84,85,86,96,97,98] K)=(BIf (decide (j<((Zaa ak:Nat):Int))) (BIf (true&&decide (0≤j)) (∃(x0:Int) (x1:Int) (x2:Int),(rowsA ak)[Zao j]? =some [i64 x0,i64 x1,i64 x2]∧BIf (x2 !=me) (BIf (Zbm (Qz16 ly t cs n) fun (blk5:Blk)=>lows 5 blk5.1) (K .normal (Zac::Zac::Zae (i64 me)::Zac::Zae (i64 fr)::Zai 0 0::Zai 1 0::bds 3 (Zai 2 0::Zaf (Qz2 s)::bds 6 (Zai 4 0::bds 65 (Zae (Zan 31 (rowsN (Zat s)))::Zae (i64 ((Zaa (Zat s):Nat):Int))::Zae (i64 i)::bds 9 (Zae (Zan 3 (rowsA ak))::Zae (i64 ((Zaa ak:Nat):Int))::Zae (i64 (Zad .i64 (j+1)))::bds 37 []))))) (Qz16 ly t cs n) b) False) (∃(s6:SideT) (sl7:Int) (of8:Int) (but9:Int) (q10:Bool), [Zaf (Qz2 s),Zaq [Zae (i64 x0),Zae (i64 x1)],Zae (i64 (Zdq n))]= [Zaf (Qz2 s6),Zaq [Zae (i64 sl7),Zae (i64 of8)],Zae (i64 but9)]∧((Zaa (Zat s6)≤9223372036854775807∧(∀(x:NearT),x∈Zat s6→Zaa (Zbl x)≤9223372036854775807∧Zaa (Zbk x)≤9223372036854775807∧Zaa (Zbw x)≤9223372036854775807)∧layOk (Zcr s6)=true)∧q10=usedS (Zat s6) sl7 of8 but9)∧BIf q10 (BIf (Zbm (Qz16 ly t cs n) fun (blk11:Blk)=>lows 5 blk11.1) (K .normal (Zac::Zac::Zae (i64 me)::Zac::Zae (i64 fr)::Zai 0 0::Zai 1 0::bds 3 (Zai 2 0::Zaf (Qz2 s)::bds 6 (Zai 4 0::bds 65 (Zae (Zan 31 (rowsN (Zat s)))::Zae (i64 ((Zaa (Zat s):Nat):Int))::Zae (i64 i)::bds 9 (Zae (Zan 3 (rowsA ak))::Zae (i64 ((Zaa ak:Nat):Int))::Zae (i64 (Zad .i64 (j+1)))::bds 37 []))))) (Qz16 ly t cs n) b) False) (∃(t12:TabT) (z13:TabT) (ly14:LayT) (u15:GraT) (e16:Int), [Zaq (Qz1 t),Zaq (Qz3 ly),Zaq [Zae (i64 x0),Zae (i64 x1),Zae (i64 (Zdq n)),Zae (i64 fr),Zae (i64 (Zad .i64 (fr+8)))]]= [Zaq (Qz1 t12),Zaq (Qz3 ly14),Zaq (Qz5 u15)]∧((Zaa (Zbn t12)<10000∧Zaa (Zbo t12)<10000∧Zaa (Zbq t12)<10000)∧z13=addSG t12 ly14 u15∧e16=refEG t12 ly14 u15)∧BIf (e16==(0:Int)) (BIf (Zbm (Qz16 ly z13 cs n) fun (blk17:Blk)=>lows 5 blk17.1) (K .normal (Zac::Zac::Zae (i64 me)::Zac::Zae (i64 fr)::Zai 0 0::Zai 1 0::bds 3 (Zai 2 0::Zaf (Qz2 s)::bds 6 (Zai 4 0::bds 65 (Zae (Zan 31 (rowsN (Zat s)))::Zae (i64 ((Zaa (Zat s):Nat):Int))::Zae (i64 i)::bds 9 (Zae (Zan 3 (rowsA ak))::Zae (i64 ((Zaa ak:Nat):Int))::Zae (i64 (Zad .i64 (j+1)))::bds 37 []))))) (Qz16 ly z13 cs n) b) False) (BIf (Zbm (Qz16 ly t cs n) fun (blk18:Blk)=>lows 5 blk18.1) (K .normal (Zac::Zac::Zae (i64 me)::Zac::Zae (i64 fr)::Zai 0 0::Zai 1 0::bds 3 (Zai 2 0::Zaf (Qz2 s)::bds 6 (Zai 4 0::bds 65 (Zae (Zan 31 (rowsN (Zat s)))::Zae (i64 ((Zaa (Zat s):Nat):Int))::Zae (i64 i)::bds 9 (Zae (Zan 3 (rowsA ak))::Zae (i64 ((Zaa ak:Nat):Int))::Zae (i64 (Zad .i64 (j+1)))::bds 37 []))))) (Qz16 ly t cs n) b) False)))) False) (BIf (Zbm (Qz16 ly t cs n) fun (blk19:Blk)=>lows 5 blk19.1) (K (Zbs 4) (Zac::Zac::Zae (i64 me)::Zac::Zae (i64 fr)::Zai 0 0::Zai 1 0::bds 3 (Zai 2 0::Zaf (Qz2 s)::bds 6 (Zai 4 0::bds 65 (Zae (Zan 31 (rowsN (Zat s)))::Zae (i64 ((Zaa (Zat s):Nat):Int))::Zae (i64 i)::bds 9 (Zae (Zan 3 (rowsA ak))::Zae (i64 ((Zaa ak:Nat):Int))::Zae (i64 j)::bds 37 []))))) (Qz16 ly t cs n) b) False)):=by kernel_rfl
def newG (fr:Int) (n:NearT) (a:AskT):GraT:=⟨a.sl,a.of,n.fm,fr,Zad Zbb (fr+8)⟩
def AAt9 (s:SideT) (ly:LayT) (me fr:Int) (n:NearT) (t:TabT) (a:AskT):TabT:=
 if (a.pe !=me||usedS s.ns a.sl a.of n.fm)=true then t else if refEG t ly (newG fr n a)=0 then addSG t ly (newG fr n a) else t
theorem AKk9 {t:TabT} {l:LayT} (h:ACp9 t l=true):t.us.length+t.gs.length≤24∧t.ak.length≤24:=by
 unfold ACp9 at h;split at h<;>try (cases h;done)
 split at h<;>try (cases h;done)
 split at h<;>try (cases h;done)
 split at h<;>try (cases h;done)
 split at h<;>try (cases h;done)
 split at h<;>try (cases h;done)
 omega
theorem ATn9 {α:Type} (p:α→Bool) (g:α):∀l:List α,(insP p g l).length=l.length+1
 | []=>rfl
 | x::r=>by
  rw [insP];split
  ·rfl
  ·rw [Zfl,ATn9 p g r,Zfl]
theorem AJw9 {t:TabT} {ly:LayT} {sl:Int} {ok:Bool} (h:refS t ly sl ok=0):ACp9 t ly=true∧ok=true∧busyT t sl=false∧t.us.length+t.gs.length<24:=by
 unfold refS at h;split at h
 ·rename_i h1;rw [Zaj] at h1;split at h
  ·cases h
  ·rename_i h2;split at h
   ·cases h
   ·rename_i h3;exact ⟨h1.1,h1.2,by simpa using h2,by omega⟩
 ·cases h
theorem BVx9 {t:TabT} {ly:LayT} {u:GraT} (h:refEG t ly u=0):TabOk (addSG t ly u):=by
 obtain ⟨h1,_,_,h4⟩:=AJw9 h;have h5:=AKk9 h1;rw [addSG,if_pos h];refine ⟨by simp only;omega, ?_, ?_⟩
 ·simp only [insSG,ATn9];omega
 ·have:=Zei (fun x:AskT=> !(x.sl==u.sl)) t.ak;simp only [AHr9];omega
theorem BVw9 {t:TabT} {ly:LayT} {u:UseT} (h:refEU t ly u=0):TabOk (addSU t ly u):=by
 obtain ⟨h1,_,_,h4⟩:=AJw9 h;have h5:=AKk9 h1;rw [addSU,if_pos h];refine ⟨?_,by simp only;omega, ?_⟩
 ·simp only [insSU,ATn9];omega
 ·have:=Zei (fun x:AskT=> !(x.sl==u.sl)) t.ak;simp only [AHr9];omega
theorem AYz9 {s:SideT} {ly:LayT} {me fr:Int} {n:NearT} {t:TabT} {a:AskT} (h:TabOk t):TabOk (AAt9 s ly me fr n t a):=by
 unfold AAt9;split
 ·exact h
 ·split
  ·rename_i h1;exact BVx9 h1
  ·exact h
theorem AVx9 {s:SideT} {ly:LayT} {me fr:Int} {n:NearT}:∀(l:List AskT) {t:TabT},TabOk t→TabOk (l.foldl (AAt9 s ly me fr n) t)
 | [],t,h=>h
 |a::l,t,h=>AVx9 l (AYz9 h)
theorem AFq9 {α β:Type} (f:β→α→β) (t:β) {l:List α} {i:Nat} {a:α} (h:l[i]? =some a):(l.take (i+1)).foldl f t=f ((l.take i).foldl f t) a:=by
 rw [Zel,h,List.foldl_append];rfl
def g3B_3 (ly:LayT) (n:NearT) (t:TabT):List Blk:= [layB ly,tabB t,resB,nearB n]
theorem BUa9 (ly:LayT) (n:NearT) (t:TabT):Zbm (g3B_3 ly n t) (fun blk=>lows 4 blk.1)=true:=by
 simp only [g3B_3,List.all_cons,List.all_nil,Zgd,Zaj];exact ⟨rfl,rfl,rfl,rfl⟩
theorem CDl9 {Ev:Env prog} {b:Ev.β} {Q:Exit→St Ev.β→Prop} (s:SideT) (ly:LayT) (t:TabT) (n:NearT) (me fr i:Int) (ak:List AskT) (hs:AJd9 s) (ht:TabOk t) (hl:ak.length<1000000)
 (hQ:Q (.exit 4) ⟨tmG3 3 s me fr i ak ak.length,g3B_3 ly n (ak.foldl (AAt9 s ly me fr n) t),b⟩):WR Ev lpG3 (ak.length+1) ⟨tmG3 3 s me fr i ak (0:Nat),g3B_3 ly n t,b⟩ Q:=by
 have low:=BUa9 ly n;refine WR.scanG (X:=⟨TG3, [],wlW Ev,Ev.Y,false⟩) (k:=100) (L:=4) [2,4,5,6,10,11,18,84,85,86,96,97,98] mixed (CX.Ok.of BNl9 Zag) ak (fun _=>false) (fun j=>tmG3 3 s me fr i ak (j:Nat)) (fun j=>g3B_3 ly n ((ak.take j).foldl (AAt9 s ly me fr n) t)) (fun _=>rfl) 4 0 (fun j a _ hj ha K _ k2=> ?_) (fun K k1=> ?_) (fun _=>by rw [Zdh];exact hQ) (fun h=>by simp at h) ak.length 0 (by simp) (Zav _) rfl
 ·have hk:=k2 rfl;have htj:TabOk ((ak.take j).foldl (AAt9 s ly me fr n) t):=AVx9 _ ht;rw [AFq9 _ _ ha] at hk;generalize (ak.take j).foldl (AAt9 s ly me fr n) t=tj at hk htj ⊢;refine Eq.mpr (rG3_3 _ _ _ K s ly tj n me fr i ak j) ?_;refine Zba (by simp;omega) (Zba (natI j) ⟨_,_,_,ABq9 ha,Zbe (fun h1=> ?_) fun h1=>⟨s,a.sl,a.of,n.fm,_,rfl,⟨hs,rfl⟩,Zbe (fun h2=> ?_) fun h2=>⟨tj,_,ly,newG fr n a,_,rfl,⟨htj,rfl,rfl⟩,Zbe (fun h3=> ?_) fun h3=> ?_⟩⟩⟩)
  ·rw [wrapN (by omega)];have e:AAt9 s ly me fr n tj a=tj:=by rw [AAt9,show (a.pe !=me)=true from h1];rfl
   rw [e] at hk;exact hk
  ·rw [wrapN (by omega)];have e:AAt9 s ly me fr n tj a=tj:=by rw [AAt9,h2,Zej];rfl
   rw [e] at hk;exact hk
  ·rw [wrapN (by omega)];have h3':refEG tj ly (newG fr n a)=0:=by simpa using h3
   have e:AAt9 s ly me fr n tj a=addSG tj ly (newG fr n a):=by rw [AAt9,show (a.pe !=me)=false from h1,h2,if_pos h3'];rfl
   rw [e] at hk;exact hk
  ·rw [wrapN (by omega)];have h3':¬refEG tj ly (newG fr n a)=0:=by simpa using h3
   have e:AAt9 s ly me fr n tj a=tj:=by rw [AAt9,show (a.pe !=me)=false from h1,h2,if_neg h3'];rfl
   rw [e] at hk;exact hk
 ·refine Eq.mpr (rG3_3 _ _ _ K s ly _ n me fr i ak ak.length) ?_;exact Zdd (by simp) k1
def BQw9 {β:Type}:WLT β:=fun cd tm hp b K=>∃(s:SideT) (ly:LayT) (t:TabT) (n:NearT) (me fr i:Int) (ak:List AskT) (q:TabT),cd= .loop lpG3∧ABc9 [2,4,5,6,10,11,18,84,85,86,96,97,98] 0 tm=tmG3 3 s me fr i ak 0∧hp=g3B_3 ly n t∧(AJd9 s∧TabOk t∧ak.length<1000000∧q=ak.foldl (AAt9 s ly me fr n) t)∧K (.exit 4) (tmG3 3 s me fr i ak ak.length) (g3B_3 ly n q) b
theorem BIw9 {Ev:Env prog} (c:Code) (tm:List AV) (hp:List Blk) (b:Ev.β) (K:Exit→List AV→List Blk→Ev.β→Prop) (h:BQw9 c tm hp b K):W Ev c ⟨tm,hp,b⟩ (fun e s=>K e s.tm s.hp s.b):=by
 obtain ⟨s,ly,t,n,me,fr,i,ak,_,rfl,htm,rfl,⟨hs,ht,hl,rfl⟩,hK⟩:=h;refine W.cast (htm▸AAd9 _ tm 0) (Zca _) ?_;exact W.rounds (CDl9 (Q:=fun e s=>K e s.tm s.hp s.b) s ly t n me fr i ak hs ht hl hK)
def g3B_4 (cs:List AV) (ly:LayT) (n:NearT) (t:TabT):List Blk:= [layB ly,tabB t,resB,frozB cs,nearB n]
theorem BTz9 (cs:List AV) (hcs:lows 5 cs=true) (ly:LayT) (n:NearT) (t:TabT):Zbm (g3B_4 cs ly n t) (fun blk=>lows 5 blk.1)=true:=by
 simp only [g3B_4,List.all_cons,List.all_nil,Zgd,Zaj];exact ⟨rfl,rfl,rfl,hcs,rfl⟩
theorem CDk9 {Ev:Env prog} {b:Ev.β} {Q:Exit→St Ev.β→Prop} (cs:List AV) (hcs:lows 5 cs=true) (s:SideT) (ly:LayT) (t:TabT) (n:NearT) (me fr i:Int) (ak:List AskT) (hs:AJd9 s) (ht:TabOk t) (hl:ak.length<1000000)
 (hQ:Q (.exit 4) ⟨tmG3 4 s me fr i ak ak.length,g3B_4 cs ly n (ak.foldl (AAt9 s ly me fr n) t),b⟩):WR Ev lpG3 (ak.length+1) ⟨tmG3 4 s me fr i ak (0:Nat),g3B_4 cs ly n t,b⟩ Q:=by
 have low:=BTz9 cs hcs ly n;refine WR.scanG (X:=⟨TG3, [],wlW Ev,Ev.Y,false⟩) (k:=100) (L:=5) [2,4,5,6,10,11,18,84,85,86,96,97,98] mixed (CX.Ok.of BNl9 Zag) ak (fun _=>false) (fun j=>tmG3 4 s me fr i ak (j:Nat)) (fun j=>g3B_4 cs ly n ((ak.take j).foldl (AAt9 s ly me fr n) t)) (fun _=>rfl) 4 0 (fun j a _ hj ha K _ k2=> ?_) (fun K k1=> ?_) (fun _=>by rw [Zdh];exact hQ) (fun h=>by simp at h) ak.length 0 (by simp) (Zav _) rfl
 ·have hk:=k2 rfl;have htj:TabOk ((ak.take j).foldl (AAt9 s ly me fr n) t):=AVx9 _ ht;rw [AFq9 _ _ ha] at hk;generalize (ak.take j).foldl (AAt9 s ly me fr n) t=tj at hk htj ⊢;refine Eq.mpr (rG3_4 _ _ _ K s ly tj n me fr i ak j cs) ?_;refine Zba (by simp;omega) (Zba (natI j) ⟨_,_,_,ABq9 ha,Zbe (fun h1=> ?_) fun h1=>⟨s,a.sl,a.of,n.fm,_,rfl,⟨hs,rfl⟩,Zbe (fun h2=> ?_) fun h2=>⟨tj,_,ly,newG fr n a,_,rfl,⟨htj,rfl,rfl⟩,Zbe (fun h3=> ?_) fun h3=> ?_⟩⟩⟩)
  ·rw [wrapN (by omega)];have e:AAt9 s ly me fr n tj a=tj:=by rw [AAt9,show (a.pe !=me)=true from h1];rfl
   rw [e] at hk;exact Zba (low tj) hk
  ·rw [wrapN (by omega)];have e:AAt9 s ly me fr n tj a=tj:=by rw [AAt9,h2,Zej];rfl
   rw [e] at hk;exact Zba (low tj) hk
  ·rw [wrapN (by omega)];have h3':refEG tj ly (newG fr n a)=0:=by simpa using h3
   have e:AAt9 s ly me fr n tj a=addSG tj ly (newG fr n a):=by rw [AAt9,show (a.pe !=me)=false from h1,h2,if_pos h3'];rfl
   rw [e] at hk;exact Zba (low _) hk
  ·rw [wrapN (by omega)];have h3':¬refEG tj ly (newG fr n a)=0:=by simpa using h3
   have e:AAt9 s ly me fr n tj a=tj:=by rw [AAt9,show (a.pe !=me)=false from h1,h2,if_neg h3'];rfl
   rw [e] at hk;exact Zba (low _) hk
 ·refine Eq.mpr (rG3_4 _ _ _ K s ly _ n me fr i ak ak.length cs) ?_;exact Zdd (by simp) (Zba (low _) k1)
def BQv9 {β:Type}:WLT β:=fun cd tm hp b K=>∃(cs:List AV) (s:SideT) (ly:LayT) (t:TabT) (n:NearT) (me fr i:Int) (ak:List AskT) (q:TabT),cd= .loop lpG3∧ABc9 [2,4,5,6,10,11,18,84,85,86,96,97,98] 0 tm=tmG3 4 s me fr i ak 0∧hp=g3B_4 cs ly n t∧(lows 5 cs=true∧AJd9 s∧TabOk t∧ak.length<1000000∧q=ak.foldl (AAt9 s ly me fr n) t)∧K (.exit 4) (tmG3 4 s me fr i ak ak.length) (g3B_4 cs ly n q) b
theorem BIv9 {Ev:Env prog} (c:Code) (tm:List AV) (hp:List Blk) (b:Ev.β) (K:Exit→List AV→List Blk→Ev.β→Prop) (h:BQv9 c tm hp b K):W Ev c ⟨tm,hp,b⟩ (fun e s=>K e s.tm s.hp s.b):=by
 obtain ⟨cs,s,ly,t,n,me,fr,i,ak,_,rfl,htm,rfl,⟨hcs,hs,ht,hl,rfl⟩,hK⟩:=h;refine W.cast (htm▸AAd9 _ tm 0) (Zca _) ?_;exact W.rounds (CDk9 (Q:=fun e s=>K e s.tm s.hp s.b) cs hcs s ly t n me fr i ak hs ht hl hK)
abbrev Qz17 (v0:LayT) (v1:TabT):= [Blk.mk (Qz3 v0) false false 0,Blk.mk (Qz1 v1) false false 0,Blk.mk Qz4 false false 0]
theorem rG2_3 (s:SideT) (ly:LayT) (t:TabT) (me fr i:Int):wpc prog ⟨TG3, [],BQw9,y,false⟩ 100 lpG2 (tmG2 s me fr i) [layB ly,tabB t,resB] b (maskK 3 [2,4,5,6,10,11,84,85,86] K)=(BIf (decide (i<((Zaa (Zat s):Nat):Int))) (BIf (true&&decide (0≤i)) (∃(n0:NearT),(rowsN (Zat s))[Zao i]? =some (nearR n0)∧∃(s3:SideT) (n4:NearT) (q5:Bool), [Zaf (Qz2 s),nearA n0]= [Zaf (Qz2 s3),nearA n4]∧q5=ATo9 s3 n4∧BIf (!q5) (K .normal (Zac::Zac::Zae (i64 me)::Zac::Zae (i64 fr)::Zai 0 0::Zai 1 0::bds 3 (Zai 2 0::Zaf (Qz2 s)::bds 72 (Zae (Zan 31 (rowsN (Zat s)))::Zae (i64 ((Zaa (Zat s):Nat):Int))::Zae (i64 (Zad .i64 (i+1)))::bds 49 []))) (Qz17 ly t) b) (∃(s6:SideT) (ly7:LayT) (t8:TabT) (n9:NearT) (me10:Int) (fr11:Int) (i12:Int) (ak13:List AskT) (q14:TabT),Zay lpG3=Zay lpG3∧(Zac::Zac::Zae (i64 me)::Zac::Zae (i64 fr)::Zai 0 0::Zai 1 0::bds 3 (Zai 2 0::Zaf (Qz2 s)::bds 6 (Zai 3 0::bds 65 (Zae (Zan 31 (rowsN (Zat s)))::Zae (i64 ((Zaa (Zat s):Nat):Int))::Zae (i64 i)::bds 9 (Zae (Zan 3 (rowsA (Zbw n0)))::Zae (i64 ((Zaa (rowsA (Zbw n0)):Nat):Int))::Zae (i64 0)::bds 37 [])))))=(Zac::Zac::Zae (i64 me10)::Zac::Zae (i64 fr11)::Zai 0 0::Zai 1 0::bds 3 (Zai 2 0::Zaf (Qz2 s6)::bds 6 (Zai 3 0::bds 65 (Zae (Zan 31 (rowsN (Zat s6)))::Zae (i64 ((Zaa (Zat s6):Nat):Int))::Zae (i64 i12)::bds 9 (Zae (Zan 3 (rowsA ak13))::Zae (i64 ((Zaa ak13:Nat):Int))::Zae (i64 0)::bds 37 [])))))∧(Qz20 ly t n0)=(Qz20 ly7 t8 n9)∧((Zaa (Zat s6)≤9223372036854775807∧(∀(x:NearT),x∈Zat s6→Zaa (Zbl x)≤9223372036854775807∧Zaa (Zbk x)≤9223372036854775807∧Zaa (Zbw x)≤9223372036854775807)∧layOk (Zcr s6)=true)∧(Zaa (Zbn t8)<10000∧Zaa (Zbo t8)<10000∧Zaa (Zbq t8)<10000)∧Zaa ak13<1000000∧q14=List.foldl (AAt9 s6 ly7 me10 fr11 n9) t8 ak13)∧K .normal (Zac::Zac::Zae (i64 me10)::Zac::Zae (i64 fr11)::Zai 0 0::Zai 1 0::bds 3 (Zai 2 0::Zaf (Qz2 s6)::bds 72 (Zae (Zan 31 (rowsN (Zat s6)))::Zae (i64 ((Zaa (Zat s6):Nat):Int))::Zae (i64 (Zad .i64 (i12+1)))::bds 49 []))) (Qz17 ly7 q14) b)) False) (K (Zbs 2) (Zac::Zac::Zae (i64 me)::Zac::Zae (i64 fr)::Zai 0 0::Zai 1 0::bds 3 (Zai 2 0::Zaf (Qz2 s)::bds 72 (Zae (Zan 31 (rowsN (Zat s)))::Zae (i64 ((Zaa (Zat s):Nat):Int))::Zae (i64 i)::bds 49 []))) (Qz17 ly t) b)):=by kernel_rfl
abbrev Qz29 (v0:LayT) (v1:TabT) (v2:List AV):= [Blk.mk (Qz3 v0) false false 0,Blk.mk (Qz1 v1) false false 0,Blk.mk Qz4 false false 0,Blk.mk v2 true true 0]
theorem rG2_4 (s:SideT) (ly:LayT) (t:TabT) (me fr i:Int) (cs:List AV):wpc prog ⟨TG3, [],BQv9,y,false⟩ 100 lpG2 (tmG2 s me fr i) [layB ly,tabB t,resB,frozB cs] b (maskK 4 [2,4,5,6,10,11,84,85,86] K)=(BIf (decide (i<((Zaa (Zat s):Nat):Int))) (BIf (true&&decide (0≤i)) (∃(n0:NearT),(rowsN (Zat s))[Zao i]? =some (nearR n0)∧∃(s3:SideT) (n4:NearT) (q5:Bool), [Zaf (Qz2 s),nearA n0]= [Zaf (Qz2 s3),nearA n4]∧q5=ATo9 s3 n4∧BIf (!q5) (BIf (Zbm (Qz29 ly t cs) fun (blk6:Blk)=>lows 4 blk6.1) (K .normal (Zac::Zac::Zae (i64 me)::Zac::Zae (i64 fr)::Zai 0 0::Zai 1 0::bds 3 (Zai 2 0::Zaf (Qz2 s)::bds 72 (Zae (Zan 31 (rowsN (Zat s)))::Zae (i64 ((Zaa (Zat s):Nat):Int))::Zae (i64 (Zad .i64 (i+1)))::bds 49 []))) (Qz29 ly t cs) b) False) (∃(cs7:List AV) (s8:SideT) (ly9:LayT) (t10:TabT) (n11:NearT) (me12:Int) (fr13:Int) (i14:Int) (ak15:List AskT) (q16:TabT),Zay lpG3=Zay lpG3∧(Zac::Zac::Zae (i64 me)::Zac::Zae (i64 fr)::Zai 0 0::Zai 1 0::bds 3 (Zai 2 0::Zaf (Qz2 s)::bds 6 (Zai 4 0::bds 65 (Zae (Zan 31 (rowsN (Zat s)))::Zae (i64 ((Zaa (Zat s):Nat):Int))::Zae (i64 i)::bds 9 (Zae (Zan 3 (rowsA (Zbw n0)))::Zae (i64 ((Zaa (rowsA (Zbw n0)):Nat):Int))::Zae (i64 0)::bds 37 [])))))=(Zac::Zac::Zae (i64 me12)::Zac::Zae (i64 fr13)::Zai 0 0::Zai 1 0::bds 3 (Zai 2 0::Zaf (Qz2 s8)::bds 6 (Zai 4 0::bds 65 (Zae (Zan 31 (rowsN (Zat s8)))::Zae (i64 ((Zaa (Zat s8):Nat):Int))::Zae (i64 i14)::bds 9 (Zae (Zan 3 (rowsA ak15))::Zae (i64 ((Zaa ak15:Nat):Int))::Zae (i64 0)::bds 37 [])))))∧(Qz16 ly t cs n0)=(Qz16 ly9 t10 cs7 n11)∧(lows 5 cs7=true∧(Zaa (Zat s8)≤9223372036854775807∧(∀(x:NearT),x∈Zat s8→Zaa (Zbl x)≤9223372036854775807∧Zaa (Zbk x)≤9223372036854775807∧Zaa (Zbw x)≤9223372036854775807)∧layOk (Zcr s8)=true)∧(Zaa (Zbn t10)<10000∧Zaa (Zbo t10)<10000∧Zaa (Zbq t10)<10000)∧Zaa ak15<1000000∧q16=List.foldl (AAt9 s8 ly9 me12 fr13 n11) t10 ak15)∧BIf (Zbm (Qz29 ly9 q16 cs7) fun (blk17:Blk)=>lows 4 blk17.1) (K .normal (Zac::Zac::Zae (i64 me12)::Zac::Zae (i64 fr13)::Zai 0 0::Zai 1 0::bds 3 (Zai 2 0::Zaf (Qz2 s8)::bds 72 (Zae (Zan 31 (rowsN (Zat s8)))::Zae (i64 ((Zaa (Zat s8):Nat):Int))::Zae (i64 (Zad .i64 (i14+1)))::bds 49 []))) (Qz29 ly9 q16 cs7) b) False)) False) (BIf (Zbm (Qz29 ly t cs) fun (blk18:Blk)=>lows 4 blk18.1) (K (Zbs 2) (Zac::Zac::Zae (i64 me)::Zac::Zae (i64 fr)::Zai 0 0::Zai 1 0::bds 3 (Zai 2 0::Zaf (Qz2 s)::bds 72 (Zae (Zan 31 (rowsN (Zat s)))::Zae (i64 ((Zaa (Zat s):Nat):Int))::Zae (i64 i)::bds 49 []))) (Qz29 ly t cs) b) False)):=by kernel_rfl
end Go.Proofs.YthcbbmnjikhihaaGreat.Am