import Derived.Test.YthcbbmnjikhihaaGreatPnJ3
set_option linter.unusedSimpArgs false
set_option linter.unusedVariables false
namespace Go.Proofs.YthcbbmnjikhihaaGreat.Am
open Go Go.RowKit Go.Proofs Tryz
open AV renaming agg → Zaq, bad → Zab, d → Zae, fn → Zax, full → Zgb, gref → Zbl, own → Zgq, ptr → Zaf, rptr → Zag
open AskT renaming of → Zgd, pe → Zfp, sl → Zcr
open BIf renaming f → Zda, of → Zba, t → Zaz
open Bool renaming and_eq_true → Zai, and_false → Zcs, false_and → Zcj, false_eq_true → Zee, not_eq_false' → Zej, not_eq_true' → Zcb, not_not → Zfs, or_eq_false_iff → Zeo, or_eq_true → Zeb, or_true → Zfb, true_and → Zey, true_or → Zei
open AAc9 renaming cons → Zaj, nil → Zak
open Go.Code renaming loop → Zat
open Dv renaming fn → Zcq, pt → Zdr, s → Zdy, sl → Zan
open Go.Exit renaming exit → Zbj
open FCall renaming ofFnF → Zgt
open GraT renaming of → Zfe, pe → Zgg, sl → Zdg, un → Zeh
open Int renaming toNat → Zam, toNat_natCast → Zcf, toNat_zero → Zfk
open Go.IntKind renaming i64 → Zbc, wrap → Zad
open LayT renaming da → Zcx, no → Zfc
open LeH renaming refl → Zbp
open List renaming all → Zbk, any → Zcv, append_nil → Zdu, drop → Zca, drop_zero → Zfn, filter → Zce, findIdx?_cons → Zez, getElem?_eq_getElem → Zbb, getElem?_eq_some_iff → Zac, isEmpty → Zfw, length → Zaa, length_append → Zcm, length_filter_le → Zfz, length_take → Zcd, mem_cons_self → Zbv, mem_map → Zbg, mem_of_getElem? → Zbn, replicate → Zap, take → Zbo, take_add_one → Zfm, take_append_of_le_length → Zev, take_length → Zdd
open Nat renaming add_mul → Zct, le_refl → Zaw
open NearT renaming ak → Zer, fm → Zdm, fr → Zfd, gs → Zck, us → Zcp
open Option renaming map_eq_some_iff → Zao
open PCall renaming ofFn → Zbf, ofFnL → Zga, ofFnW → Zcu
open SCall renaming ofW → Zgn
open AAl9 renaming cons → Zbr, nil → Zah
open SideT renaming fr → Zgh, me → Zes, ns → Zau
open TabT renaming ak → Zdh, gs → Zdb, us → Zdl
open UseT renaming of → Zek, pe → Zgk, sl → Zcy
open Go.Value renaming int → Zex, pointer → Zcc, slice → Zcw
open WR renaming findL → Zfq, ofMask → Zdj
variable {β:Type} (wl:WLT β) (y:ACw9 β) (b:β) (R:AV→β→Prop) (Kr:AV→List Blk→β→Prop) (K:Exit→List AV→List Blk→β→Prop) (Q:β→Prop)
open AV (bad)
set_option linter.unusedVariables false
set_option maxRecDepth 20000
set_option maxHeartbeats 1000000
def busyT (t:TabT) (s:Int):Bool:=t.us.any (fun x=>x.sl==s)||t.gs.any (fun x=>x.sl==s)
def TCl:List (Nat×(List AV→(AV→Prop)→Prop)):= [(98,AXr9)]
theorem CJc9:AAc9 prog TCl:=Zaj AVh9 Zak
def TFg:List (Nat×(List AV→(AV→Prop)→Prop)):= [(87,BQr9)]
theorem CJa9:AAc9 prog TFg:=Zaj BHu9 Zak
theorem BGj9 (x:NearT) (sl:Int) (of:Int) (but:Int):wpFn prog ⟨TCl, [],wl,y,false⟩ 100 f101 ([nearA x]++ [.rptr [i64 but], .rptr [i64 sl,i64 of]]) b R=(BIf (Zdm x !=but) (∃(l0:List UseT) (sl1:Int) (of2:Int) (q3:Bool), [Zae (Zan 4 (rowsU (Zcp x))),Zax (Fn.func 102) [] [Zag [i64 sl,i64 of]]]= [Zae (Zan 4 (rowsU l0)),Zax (Fn.func 102) [] [Zag [i64 sl1,i64 of2]]]∧(Zaa l0≤9223372036854775807∧q3=Zcv l0 fun (x4:UseT)=>Zcy x4==sl1&&Zek x4==of2)∧R (.d (bo q3)) b) (R (.d (bo false)) b)):=by kernel_rfl
theorem BLo9 (x:NearT) (sl:Int) (of:Int) (but:Int) (hx:AAy9 x):PCall prog 101 ([nearA x]++ [.rptr [i64 but], .rptr [i64 sl,i64 of]]) (.d (bo ((fun x:NearT=> !(x.fm==but)&&x.us.any (fun y=>(y.sl==sl&&y.of==of))) x))):=by
 refine Zbf (n:=100) (u:=false) mixed CJc9 Zah func101 (by rfl) (by rfl) fun Ev bb=> ?_;rw [BGj9];refine Zba (fun h=>⟨x.us,sl,of,_,rfl,⟨hx.1,rfl⟩, ?_⟩) fun h=> ?_
 ·have h':(!(x.fm==but))=true:=h;simp only [h',Zey]<;>rfl
 ·have h':(!(x.fm==but))=false:=h;simp only [h',Zcj]
def BHz9 (args:List AV) (K:AV→Prop):Prop:=∃(x:NearT) (sl:Int) (of:Int) (but:Int) (q:Bool),args= [nearA x]++ [.rptr [i64 but], .rptr [i64 sl,i64 of]]∧(AAy9 x∧q=(fun x:NearT=> !(x.fm==but)&&x.us.any (fun y=>(y.sl==sl&&y.of==of))) x)∧K (.d (bo q))
theorem BAr9:∀args K,BHz9 args K→∃x,PCall prog 101 args x∧K x:=by
 rintro _ K ⟨x,sl,of,but,_,rfl,⟨hx,rfl⟩,hk⟩;exact ⟨_,BLo9 x sl of but hx,hk⟩
def BJd9:List (Nat×(List AV→(AV→Prop)→Prop)):= [(101,BHz9)]
theorem BJc9:AAc9 prog BJd9:=Zaj BAr9 Zak
noncomputable def ALv9:Code:=sub [1,0,1,2,3] (code f82)
def AFe9 (l:List NearT) (sl:Int) (of:Int) (but:Int) (q i:Int):List AV:= [.d (.sl 31 (rowsN l)), .fn (.func 101) [] [.rptr [i64 but], .rptr [i64 sl,i64 of]], .bad, .bad, .d (i64 q), .bad, .bad, .d (i64 l.length), .d (i64 i)]++Zap 10 .bad
abbrev Qz53 (v0:Int) (v1:Int) (v2:Int):List AV:= [Zag [i64 v0],Zag [i64 v1,i64 v2]]
theorem BPg9 (l:List NearT) (sl:Int) (of:Int) (but:Int) (i:Int):wpc prog ⟨BJd9, [],wl,y,false⟩ 100 ALv9 (AFe9 l sl of but 0 i) [] b (maskK 0 [0,1,4,7,8] K)=(BIf (decide (i<((Zaa l:Nat):Int))) (BIf (true&&decide (0≤i)) (∃(n0:NearT),(rowsN l)[Zam i]? =some (nearR n0)∧∃(x3:NearT) (sl4:Int) (of5:Int) (but6:Int) (q7:Bool), [nearA n0,Zag [i64 but],Zag [i64 sl,i64 of]]= [nearA x3,Zag [i64 but6],Zag [i64 sl4,i64 of5]]∧((Zaa (Zcp x3)≤9223372036854775807∧Zaa (Zck x3)≤9223372036854775807∧Zaa (Zer x3)≤9223372036854775807)∧q7=(!NearT.fm x3==but6&&Zcv (Zcp x3) fun (y8:UseT)=>Zcy y8==sl4&&Zek y8==of5))∧BIf q7 (K .ret (Zae (Zan 31 (rowsN l))::Zax (Fn.func 101) [] (Qz53 but sl of)::Zab::Zab::Zae (i64 i)::Zab::Zab::Zae (i64 ((Zaa l:Nat):Int))::Zae (i64 i)::bds 10 []) [] b) (K .normal (Zae (Zan 31 (rowsN l))::Zax (Fn.func 101) [] (Qz53 but sl of)::Zab::Zab::Zae (i64 0)::Zab::Zab::Zae (i64 ((Zaa l:Nat):Int))::Zae (i64 (Zad .i64 (i+1)))::bds 10 []) [] b)) False) (K (Zbj 0) (Zae (Zan 31 (rowsN l))::Zax (Fn.func 101) [] (Qz53 but sl of)::Zab::Zab::Zae (i64 0)::Zab::Zab::Zae (i64 ((Zaa l:Nat):Int))::Zae (i64 i)::bds 10 []) [] b)):=by kernel_rfl
theorem BSd9 {Ev:Env prog} {b:Ev.β} {Q:Exit→St Ev.β→Prop} (l:List NearT) (sl:Int) (of:Int) (but:Int) (hl:l.length≤9223372036854775807) (hx:∀x∈l,AAy9 x) (h1:l.findIdx? (fun x:NearT=> !(x.fm==but)&&x.us.any (fun y=>(y.sl==sl&&y.of==of)))=none→∀i:Int,Q (.exit 0) ⟨AFe9 l sl of but 0 i, [],b⟩) (h2:∀j:Nat,l.findIdx? (fun x:NearT=> !(x.fm==but)&&x.us.any (fun y=>(y.sl==sl&&y.of==of)))=some j→Q .ret ⟨AFe9 l sl of but j j, [],b⟩):
 WR Ev ALv9 (l.length+1) ⟨AFe9 l sl of but 0 (0:Nat), [],b⟩ Q:=by
 refine Zfq (X:=⟨BJd9, [],wlW Ev,Ev.Y,false⟩) (k:=100) [0,1,4,7,8] mixed (CX.Ok.of BJc9 Zah) l (fun x:NearT=> !(x.fm==but)&&x.us.any (fun y=>(y.sl==sl&&y.of==of))) (fun i=>AFe9 l sl of but 0 (i:Nat)) (fun i=>AFe9 l sl of but (i:Nat) (i:Nat)) [] 0 (fun i x hi hxi K k1 k2=> ?_) (fun K k1=> ?_) (fun h=>h1 h _) h2
 ·refine Eq.mpr (BPg9 _ _ _ K l sl of but i) ?_;rw [ABc9 hxi];refine Zaz (by simp;omega) (Zaz (natI i) ⟨_,rfl,x,sl,of,but,_,rfl,⟨hx x (Zbn hxi),rfl⟩,Zba (fun g=>k1 g) fun g=> ?_⟩);rw [wrapN (by omega)];exact k2 g
 ·refine Eq.mpr (BPg9 _ _ _ K l sl of but _) ?_;exact Zda (by simp) k1
def ATo9 {β:Type}:WLT β:=fun cd tm hp b K=>∃(l:List NearT) (sl:Int) (of:Int) (but:Int) (q:Int),cd= .loop ALv9∧AAv9 [0,1,4,7,8] 0 tm=AFe9 l sl of but 0 0∧hp= []∧((∀x∈l,AAy9 x)∧l.length≤9223372036854775807∧q=idxS (fun x:NearT=> !(x.fm==but)&&x.us.any (fun y=>(y.sl==sl&&y.of==of))) l)∧(∀i:Int,q= -1→K (.exit 0) (AFe9 l sl of but 0 i) [] b)∧(∀i:Int,0≤q→K .ret (AFe9 l sl of but q i) [] b)
theorem AYj9 {Ev:Env prog} (c:Code) (tm:List AV) (hp:List Blk) (b:Ev.β) (K:Exit→List AV→List Blk→Ev.β→Prop) (h:ATo9 c tm hp b K):W Ev c ⟨tm,hp,b⟩ (fun e s=>K e s.tm s.hp s.b):=by
 obtain ⟨l,sl,of,but,q,rfl,htm,rfl,⟨hx,hl,rfl⟩,hK1,hK2⟩:=h;refine W.cast (htm▸AAb9 _ tm 0) (Zbp _) ?_;exact W.rounds (BSd9 (Q:=fun e s=>K e s.tm s.hp s.b) l sl of but hl hx (fun h i=>hK1 i (ABb9 h)) fun j h=>by have:=hK2 j (by rw [AAj9 h];omega);rwa [AAj9 h] at this)
theorem AZo9 (l:List NearT) (sl:Int) (of:Int) (but:Int):wpFn prog ⟨[], [],ATo9,y,false⟩ 100 f82 [.d (.sl 31 (rowsN l)), .fn (.func 101) [] [.rptr [i64 but], .rptr [i64 sl,i64 of]]] b R=(∃(l0:List NearT) (sl1:Int) (of2:Int) (but3:Int) (q4:Int),Zat ALv9=Zat ALv9∧(Zae (Zan 31 (rowsN l))::Zax (Fn.func 101) [] (Qz53 but sl of)::Zab::Zab::Zae (i64 0)::Zab::Zab::Zae (i64 ((Zaa (rowsN l):Nat):Int))::Zae (i64 0)::bds 10 [])=(Zae (Zan 31 (rowsN l0))::Zax (Fn.func 101) [] (Qz53 but3 sl1 of2)::Zab::Zab::Zae (i64 0)::Zab::Zab::Zae (i64 ((Zaa l0:Nat):Int))::Zae (i64 0)::bds 10 [])∧([]:List Blk)= []∧((∀(x:NearT),x∈l0→AAy9 x)∧Zaa l0≤9223372036854775807∧q4=idxS (fun (x5:NearT)=> !NearT.fm x5==but3&&Zcv (Zcp x5) fun (y6:UseT)=>Zcy y6==sl1&&Zek y6==of2) l0)∧(∀(i:Int),q4=(-1:Int)→R (.d (i64 (-1))) b)∧∀(i:Int),(0:Int)≤q4→R (.d (i64 q4)) b):=by kernel_rfl
theorem BEb9 (l:List NearT) (sl:Int) (of:Int) (but:Int) (hl:l.length≤9223372036854775807) (hx:∀x∈l,AAy9 x):PCall prog 82 [.d (.sl 31 (rowsN l)), .fn (.func 101) [] [.rptr [i64 but], .rptr [i64 sl,i64 of]]] (.d (i64 (idxS (fun x:NearT=> !(x.fm==but)&&x.us.any (fun y=>(y.sl==sl&&y.of==of))) l))):=by
 refine Zcu (n:=100) (u:=false) (fun _=>ATo9) mixed Zak Zah (fun Ev=>AYj9) func82 (by rfl) (by rfl) fun Ev bb=> ?_;rw [AZo9,ABm9];exact ⟨l,sl,of,but,_,rfl,rfl,rfl,⟨hx,hl,rfl⟩,fun i h=>by rw [h],fun i h=>rfl⟩
def AXg9 (args:List AV) (K:AV→Prop):Prop:=∃(l:List NearT) (sl:Int) (of:Int) (but:Int) (q:Int),args= [.d (.sl 31 (rowsN l)), .fn (.func 101) [] [.rptr [i64 but], .rptr [i64 sl,i64 of]]]∧((∀x∈l,AAy9 x)∧l.length≤9223372036854775807∧q=idxS (fun x:NearT=> !(x.fm==but)&&x.us.any (fun y=>(y.sl==sl&&y.of==of))) l)∧K (.d (i64 q))
theorem AUx9:∀args K,AXg9 args K→∃x,PCall prog 82 args x∧K x:=by
 rintro _ K ⟨l,sl,of,but,_,rfl,⟨hx,hl,rfl⟩,hk⟩;exact ⟨_,BEb9 l sl of but hl hx,hk⟩
def BRp9:List (Nat×(List AV→(AV→Prop)→Prop)):= [(82,AXg9)]
theorem BJo9:AAc9 prog BRp9:=Zaj AUx9 Zak
theorem BAb9 (l:List NearT) (sl:Int) (of:Int) (but:Int):wpFn prog ⟨BRp9, [],wl,y,false⟩ 100 f85 [.d (.sl 31 (rowsN l)), .fn (.func 101) [] [.rptr [i64 but], .rptr [i64 sl,i64 of]]] b R=(∃(l0:List NearT) (sl1:Int) (of2:Int) (but3:Int) (q4:Int), [Zae (Zan 31 (rowsN l)),Zax (Fn.func 101) [] (Qz53 but sl of)]= [Zae (Zan 31 (rowsN l0)),Zax (Fn.func 101) [] (Qz53 but3 sl1 of2)]∧((∀(x:NearT),x∈l0→AAy9 x)∧Zaa l0≤9223372036854775807∧q4=idxS (fun (x5:NearT)=> !NearT.fm x5==but3&&Zcv (Zcp x5) fun (y6:UseT)=>Zcy y6==sl1&&Zek y6==of2) l0)∧R (.d (bo (decide (q4≥(0:Int))))) b):=by kernel_rfl
theorem BEi9 (l:List NearT) (sl:Int) (of:Int) (but:Int) (hl:l.length≤9223372036854775807) (hx:∀x∈l,AAy9 x):PCall prog 85 [.d (.sl 31 (rowsN l)), .fn (.func 101) [] [.rptr [i64 but], .rptr [i64 sl,i64 of]]] (.d (bo (l.any (fun x:NearT=> !(x.fm==but)&&x.us.any (fun y=>(y.sl==sl&&y.of==of)))))):=by
 refine Zbf (n:=100) (u:=false) mixed BJo9 Zah func85 (by rfl) (by rfl) fun Ev bb=> ?_;rw [BAb9];exact ⟨l,sl,of,but,_,rfl,⟨hx,hl,rfl⟩,by rw [AFn9]⟩
def AXp9 (args:List AV) (K:AV→Prop):Prop:=∃(l:List NearT) (sl:Int) (of:Int) (but:Int) (q:Bool),args= [.d (.sl 31 (rowsN l)), .fn (.func 101) [] [.rptr [i64 but], .rptr [i64 sl,i64 of]]]∧((∀x∈l,AAy9 x)∧l.length≤9223372036854775807∧q=l.any (fun x:NearT=> !(x.fm==but)&&x.us.any (fun y=>(y.sl==sl&&y.of==of))))∧K (.d (bo q))
theorem AVf9:∀args K,AXp9 args K→∃x,PCall prog 85 args x∧K x:=by
 rintro _ K ⟨l,sl,of,but,_,rfl,⟨hx,hl,rfl⟩,hk⟩;exact ⟨_,BEi9 l sl of but hl hx,hk⟩
theorem BNj9 (x:NearT) (sl:Int) (of:Int) (s:SideT):wpFn prog ⟨TFg, [],wl,y,false⟩ 100 f86 ([nearA x]++ [.rptr [i64 sl,i64 of], .rptr [.pt (sideD s)]]) b R=(∃(l0:List GraT) (sl1:Int) (of2:Int) (s3:SideT) (q4:Bool), [Zae (Zan 5 (rowsG (Zck x))),Zax (Fn.func 88) [] (Qz23 sl of s)]= [Zae (Zan 5 (rowsG l0)),Zax (Fn.func 88) [] (Qz23 sl1 of2 s3)]∧(Zaa l0≤9223372036854775807∧q4=Zcv l0 fun (x5:GraT)=>Zdg x5==sl1&&Zfe x5==of2&& !GraT.pe x5==Zes s3)∧R (.d (bo q4)) b):=by kernel_rfl
theorem BUu9 (x:NearT) (sl:Int) (of:Int) (s:SideT) (hx:AAy9 x):PCall prog 86 ([nearA x]++ [.rptr [i64 sl,i64 of], .rptr [.pt (sideD s)]]) (.d (bo ((fun x:NearT=>x.gs.any (fun y=>(y.sl==sl&&y.of==of)&& !(y.pe==s.me))) x))):=by
 refine Zbf (n:=100) (u:=false) mixed CJa9 Zah func86 (by rfl) (by rfl) fun Ev bb=> ?_;rw [BNj9];exact ⟨x.gs,sl,of,s,_,rfl,⟨hx.2.1,rfl⟩,rfl⟩
def BRc9 (args:List AV) (K:AV→Prop):Prop:=∃(x:NearT) (sl:Int) (of:Int) (s:SideT) (q:Bool),args= [nearA x]++ [.rptr [i64 sl,i64 of], .rptr [.pt (sideD s)]]∧(AAy9 x∧q=(fun x:NearT=>x.gs.any (fun y=>(y.sl==sl&&y.of==of)&& !(y.pe==s.me))) x)∧K (.d (bo q))
theorem BIm9:∀args K,BRc9 args K→∃x,PCall prog 86 args x∧K x:=by
 rintro _ K ⟨x,sl,of,s,_,rfl,⟨hx,rfl⟩,hk⟩;exact ⟨_,BUu9 x sl of s hx,hk⟩
def BYu9:List (Nat×(List AV→(AV→Prop)→Prop)):= [(86,BRc9)]
theorem BOw9:AAc9 prog BYu9:=Zaj BIm9 Zak
noncomputable def ARy9:Code:=sub [1,0,1,2,3] (code f82)
def AHy9 (l:List NearT) (sl:Int) (of:Int) (s:SideT) (q i:Int):List AV:= [.d (.sl 31 (rowsN l)), .fn (.func 86) [] [.rptr [i64 sl,i64 of], .rptr [.pt (sideD s)]], .bad, .bad, .d (i64 q), .bad, .bad, .d (i64 l.length), .d (i64 i)]++Zap 10 .bad
theorem CBu9 (l:List NearT) (sl:Int) (of:Int) (s:SideT) (i:Int):wpc prog ⟨BYu9, [],wl,y,false⟩ 100 ARy9 (AHy9 l sl of s 0 i) [] b (maskK 0 [0,1,4,7,8] K)=(BIf (decide (i<((Zaa l:Nat):Int))) (BIf (true&&decide (0≤i)) (∃(n0:NearT),(rowsN l)[Zam i]? =some (nearR n0)∧∃(x3:NearT) (sl4:Int) (of5:Int) (s6:SideT) (q7:Bool), [nearA n0,Zag [i64 sl,i64 of],Zag [Zdr (Qz2 s)]]= [nearA x3,Zag [i64 sl4,i64 of5],Zag [Zdr (Qz2 s6)]]∧((Zaa (Zcp x3)≤9223372036854775807∧Zaa (Zck x3)≤9223372036854775807∧Zaa (Zer x3)≤9223372036854775807)∧q7=Zcv (Zck x3) fun (y8:GraT)=>Zdg y8==sl4&&Zfe y8==of5&& !GraT.pe y8==Zes s6)∧BIf q7 (K .ret (Zae (Zan 31 (rowsN l))::Zax (Fn.func 86) [] (Qz23 sl of s)::Zab::Zab::Zae (i64 i)::Zab::Zab::Zae (i64 ((Zaa l:Nat):Int))::Zae (i64 i)::bds 10 []) [] b) (K .normal (Zae (Zan 31 (rowsN l))::Zax (Fn.func 86) [] (Qz23 sl of s)::Zab::Zab::Zae (i64 0)::Zab::Zab::Zae (i64 ((Zaa l:Nat):Int))::Zae (i64 (Zad .i64 (i+1)))::bds 10 []) [] b)) False) (K (Zbj 0) (Zae (Zan 31 (rowsN l))::Zax (Fn.func 86) [] (Qz23 sl of s)::Zab::Zab::Zae (i64 0)::Zab::Zab::Zae (i64 ((Zaa l:Nat):Int))::Zae (i64 i)::bds 10 []) [] b)):=by kernel_rfl
theorem BZl9 {Ev:Env prog} {b:Ev.β} {Q:Exit→St Ev.β→Prop} (l:List NearT) (sl:Int) (of:Int) (s:SideT) (hl:l.length≤9223372036854775807) (hx:∀x∈l,AAy9 x) (h1:l.findIdx? (fun x:NearT=>x.gs.any (fun y=>(y.sl==sl&&y.of==of)&& !(y.pe==s.me)))=none→∀i:Int,Q (.exit 0) ⟨AHy9 l sl of s 0 i, [],b⟩) (h2:∀j:Nat,l.findIdx? (fun x:NearT=>x.gs.any (fun y=>(y.sl==sl&&y.of==of)&& !(y.pe==s.me)))=some j→Q .ret ⟨AHy9 l sl of s j j, [],b⟩):
 WR Ev ARy9 (l.length+1) ⟨AHy9 l sl of s 0 (0:Nat), [],b⟩ Q:=by
 refine Zfq (X:=⟨BYu9, [],wlW Ev,Ev.Y,false⟩) (k:=100) [0,1,4,7,8] mixed (CX.Ok.of BOw9 Zah) l (fun x:NearT=>x.gs.any (fun y=>(y.sl==sl&&y.of==of)&& !(y.pe==s.me))) (fun i=>AHy9 l sl of s 0 (i:Nat)) (fun i=>AHy9 l sl of s (i:Nat) (i:Nat)) [] 0 (fun i x hi hxi K k1 k2=> ?_) (fun K k1=> ?_) (fun h=>h1 h _) h2
 ·refine Eq.mpr (CBu9 _ _ _ K l sl of s i) ?_;rw [ABc9 hxi];refine Zaz (by simp;omega) (Zaz (natI i) ⟨_,rfl,x,sl,of,s,_,rfl,⟨hx x (Zbn hxi),rfl⟩,Zba (fun g=>k1 g) fun g=> ?_⟩);rw [wrapN (by omega)];exact k2 g
 ·refine Eq.mpr (CBu9 _ _ _ K l sl of s _) ?_;exact Zda (by simp) k1
def BCo9 {β:Type}:WLT β:=fun cd tm hp b K=>∃(l:List NearT) (sl:Int) (of:Int) (s:SideT) (q:Int),cd= .loop ARy9∧AAv9 [0,1,4,7,8] 0 tm=AHy9 l sl of s 0 0∧hp= []∧((∀x∈l,AAy9 x)∧l.length≤9223372036854775807∧q=idxS (fun x:NearT=>x.gs.any (fun y=>(y.sl==sl&&y.of==of)&& !(y.pe==s.me))) l)∧(∀i:Int,q= -1→K (.exit 0) (AHy9 l sl of s 0 i) [] b)∧(∀i:Int,0≤q→K .ret (AHy9 l sl of s q i) [] b)
theorem BCn9 {Ev:Env prog} (c:Code) (tm:List AV) (hp:List Blk) (b:Ev.β) (K:Exit→List AV→List Blk→Ev.β→Prop) (h:BCo9 c tm hp b K):W Ev c ⟨tm,hp,b⟩ (fun e s=>K e s.tm s.hp s.b):=by
 obtain ⟨l,sl,of,s,q,rfl,htm,rfl,⟨hx,hl,rfl⟩,hK1,hK2⟩:=h;refine W.cast (htm▸AAb9 _ tm 0) (Zbp _) ?_;exact W.rounds (BZl9 (Q:=fun e s=>K e s.tm s.hp s.b) l sl of s hl hx (fun h i=>hK1 i (ABb9 h)) fun j h=>by have:=hK2 j (by rw [AAj9 h];omega);rwa [AAj9 h] at this)
theorem BFc9 (l:List NearT) (sl:Int) (of:Int) (s:SideT):wpFn prog ⟨[], [],BCo9,y,false⟩ 100 f82 [.d (.sl 31 (rowsN l)), .fn (.func 86) [] [.rptr [i64 sl,i64 of], .rptr [.pt (sideD s)]]] b R=(∃(l0:List NearT) (sl1:Int) (of2:Int) (s3:SideT) (q4:Int),Zat ARy9=Zat ARy9∧(Zae (Zan 31 (rowsN l))::Zax (Fn.func 86) [] (Qz23 sl of s)::Zab::Zab::Zae (i64 0)::Zab::Zab::Zae (i64 ((Zaa (rowsN l):Nat):Int))::Zae (i64 0)::bds 10 [])=(Zae (Zan 31 (rowsN l0))::Zax (Fn.func 86) [] (Qz23 sl1 of2 s3)::Zab::Zab::Zae (i64 0)::Zab::Zab::Zae (i64 ((Zaa l0:Nat):Int))::Zae (i64 0)::bds 10 [])∧([]:List Blk)= []∧((∀(x:NearT),x∈l0→AAy9 x)∧Zaa l0≤9223372036854775807∧q4=idxS (fun (x5:NearT)=>Zcv (Zck x5) fun (y6:GraT)=>Zdg y6==sl1&&Zfe y6==of2&& !GraT.pe y6==Zes s3) l0)∧(∀(i:Int),q4=(-1:Int)→R (.d (i64 (-1))) b)∧∀(i:Int),(0:Int)≤q4→R (.d (i64 q4)) b):=by kernel_rfl
theorem BLj9 (l:List NearT) (sl:Int) (of:Int) (s:SideT) (hl:l.length≤9223372036854775807) (hx:∀x∈l,AAy9 x):PCall prog 82 [.d (.sl 31 (rowsN l)), .fn (.func 86) [] [.rptr [i64 sl,i64 of], .rptr [.pt (sideD s)]]] (.d (i64 (idxS (fun x:NearT=>x.gs.any (fun y=>(y.sl==sl&&y.of==of)&& !(y.pe==s.me))) l))):=by
 refine Zcu (n:=100) (u:=false) (fun _=>BCo9) mixed Zak Zah (fun Ev=>BCn9) func82 (by rfl) (by rfl) fun Ev bb=> ?_;rw [BFc9,ABm9];exact ⟨l,sl,of,s,_,rfl,rfl,rfl,⟨hx,hl,rfl⟩,fun i h=>by rw [h],fun i h=>rfl⟩
def BHm9 (args:List AV) (K:AV→Prop):Prop:=∃(l:List NearT) (sl:Int) (of:Int) (s:SideT) (q:Int),args= [.d (.sl 31 (rowsN l)), .fn (.func 86) [] [.rptr [i64 sl,i64 of], .rptr [.pt (sideD s)]]]∧((∀x∈l,AAy9 x)∧l.length≤9223372036854775807∧q=idxS (fun x:NearT=>x.gs.any (fun y=>(y.sl==sl&&y.of==of)&& !(y.pe==s.me))) l)∧K (.d (i64 q))
theorem BAn9:∀args K,BHm9 args K→∃x,PCall prog 82 args x∧K x:=by
 rintro _ K ⟨l,sl,of,s,_,rfl,⟨hx,hl,rfl⟩,hk⟩;exact ⟨_,BLj9 l sl of s hl hx,hk⟩
def CFw9:List (Nat×(List AV→(AV→Prop)→Prop)):= [(82,BHm9)]
theorem BOz9:AAc9 prog CFw9:=Zaj BAn9 Zak
theorem BGh9 (l:List NearT) (sl:Int) (of:Int) (s:SideT):wpFn prog ⟨CFw9, [],wl,y,false⟩ 100 f85 [.d (.sl 31 (rowsN l)), .fn (.func 86) [] [.rptr [i64 sl,i64 of], .rptr [.pt (sideD s)]]] b R=(∃(l0:List NearT) (sl1:Int) (of2:Int) (s3:SideT) (q4:Int), [Zae (Zan 31 (rowsN l)),Zax (Fn.func 86) [] (Qz23 sl of s)]= [Zae (Zan 31 (rowsN l0)),Zax (Fn.func 86) [] (Qz23 sl1 of2 s3)]∧((∀(x:NearT),x∈l0→AAy9 x)∧Zaa l0≤9223372036854775807∧q4=idxS (fun (x5:NearT)=>Zcv (Zck x5) fun (y6:GraT)=>Zdg y6==sl1&&Zfe y6==of2&& !GraT.pe y6==Zes s3) l0)∧R (.d (bo (decide (q4≥(0:Int))))) b):=by kernel_rfl
theorem BLn9 (l:List NearT) (sl:Int) (of:Int) (s:SideT) (hl:l.length≤9223372036854775807) (hx:∀x∈l,AAy9 x):PCall prog 85 [.d (.sl 31 (rowsN l)), .fn (.func 86) [] [.rptr [i64 sl,i64 of], .rptr [.pt (sideD s)]]] (.d (bo (l.any (fun x:NearT=>x.gs.any (fun y=>(y.sl==sl&&y.of==of)&& !(y.pe==s.me)))))):=by
 refine Zbf (n:=100) (u:=false) mixed BOz9 Zah func85 (by rfl) (by rfl) fun Ev bb=> ?_;rw [BGh9];exact ⟨l,sl,of,s,_,rfl,⟨hx,hl,rfl⟩,by rw [AFn9]⟩
def BHv9 (args:List AV) (K:AV→Prop):Prop:=∃(l:List NearT) (sl:Int) (of:Int) (s:SideT) (q:Bool),args= [.d (.sl 31 (rowsN l)), .fn (.func 86) [] [.rptr [i64 sl,i64 of], .rptr [.pt (sideD s)]]]∧((∀x∈l,AAy9 x)∧l.length≤9223372036854775807∧q=l.any (fun x:NearT=>x.gs.any (fun y=>(y.sl==sl&&y.of==of)&& !(y.pe==s.me))))∧K (.d (bo q))
theorem BAq9:∀args K,BHv9 args K→∃x,PCall prog 85 args x∧K x:=by
 rintro _ K ⟨l,sl,of,s,_,rfl,⟨hx,hl,rfl⟩,hk⟩;exact ⟨_,BLn9 l sl of s hl hx,hk⟩
def TBz:List (Nat×(List AV→(AV→Prop)→Prop)):= [(98,AXs9),(87,AXt9)]
theorem CJd9:AAc9 prog TBz:=Zaj AVi9 (Zaj AVj9 Zak)
theorem CEz9 (t:TabT) (s:Int):wpFn prog ⟨TBz, [],wl,y,false⟩ 100 f84 [tabA t, .d (i64 s)] b R=(∃(l0:List UseT) (s1:Int) (q2:Bool), [Zae (Zan 4 (rowsU (Zdl t))),Zax (Fn.func 119) [] [Zag [i64 s]]]= [Zae (Zan 4 (rowsU l0)),Zax (Fn.func 119) [] [Zag [i64 s1]]]∧(Zaa l0≤9223372036854775807∧q2=Zcv l0 fun (x3:UseT)=>Zcy x3==s1)∧BIf q2 (R (.d (bo true)) b) (∃(l4:List GraT) (s5:Int) (q6:Bool), [Zae (Zan 5 (rowsG (Zdb t))),Zax (Fn.func 120) [] [Zag [i64 s]]]= [Zae (Zan 5 (rowsG l4)),Zax (Fn.func 120) [] [Zag [i64 s5]]]∧(Zaa l4≤9223372036854775807∧q6=Zcv l4 fun (x7:GraT)=>Zdg x7==s5)∧R (.d (bo q6)) b)):=by kernel_rfl
theorem AYp9 (s:SideT) (n:NearT):wpFn prog ⟨[], [],wl,y,false⟩ 100 f49 [.rptr (sideD s),nearA n] b R=(R (Zae (bo (decide (Zfd n≥Zad Zbc (Zgh s - (1:Int)))))) b):=by kernel_rfl
theorem BPn9 (t:TabT) (s:Int) (ht:TabOk t):PCall prog 84 [tabA t, .d (i64 s)] (.d (bo (busyT t s))):=by
 obtain ⟨h1,h2,_⟩:=ht;refine Zbf (n:=100) (u:=false) mixed CJd9 Zah func84 (by rfl) (by rfl) fun Ev bb=> ?_;rw [CEz9];refine ⟨t.us,s,_,rfl,⟨by omega,rfl⟩,Zba (fun h=> ?_) fun h=>⟨t.gs,s,_,rfl,⟨by omega,rfl⟩, ?_⟩⟩
 ·rw [busyT,h];rfl
 ·rw [busyT,h];rfl
def BXt9 (args:List AV) (K:AV→Prop):Prop:=∃(t:TabT) (s:Int) (q:Bool),args= [tabA t, .d (i64 s)]∧(TabOk t∧q=busyT t s)∧K (.d (bo q))
theorem AXu9:∀args K,BXt9 args K→∃x,PCall prog 84 args x∧K x:=by
 rintro _ K ⟨t,s,_,rfl,⟨ht,rfl⟩,hk⟩;exact ⟨_,BPn9 t s ht,hk⟩
def ANa9 (s:SideT) (n:NearT):Bool:=decide (n.fr≥Zad Zbc (s.fr - 1))
theorem BDw9 (s:SideT) (n:NearT):PCall prog 49 [.rptr (sideD s),nearA n] (.d (bo (ANa9 s n))):=by
 refine Zbf (n:=100) (u:=false) mixed Zak Zah func49 (by rfl) (by rfl) fun Ev bb=> ?_;rw [AYp9];rfl
def APs9 (args:List AV) (K:AV→Prop):Prop:=∃(s:SideT) (n:NearT) (q:Bool),args= [.rptr (sideD s),nearA n]∧q=ANa9 s n∧K (.d (bo q))
theorem AMm9:∀args K,APs9 args K→∃x,PCall prog 49 args x∧K x:=by
 rintro _ K ⟨s,n,_,rfl,rfl,hk⟩;exact ⟨_,BDw9 s n,hk⟩
def BXs9 (args:List AV) (K:AV→Prop):Prop:=match args with
 | [.agg [x,y, .d (.s (.slice none 0 0))],s]=>∃(us:List UseT) (gs:List GraT) (sl:Int) (q:Bool), [x,y,s]= [.d (.sl 4 (rowsU us)), .d (.sl 5 (rowsG gs)), .d (i64 sl)]∧(us.length<10000∧gs.length<10000∧q=busyT ⟨us,gs, []⟩ sl)∧K (.d (bo q))
 |_=>BXt9 args K
theorem BOh9:∀args K,BXs9 args K→∃x,PCall prog 84 args x∧K x:=by
 intro args K h;unfold BXs9 at h;split at h
 ·obtain ⟨us,gs,sl,_,he,⟨h1,h2,rfl⟩,hk⟩:=h;cases he;have hle:LeV (.agg [.d (.sl 4 (rowsU us)), .d (.sl 5 (rowsG gs)), .d (.s (.slice none 0 0))]) (tabA ⟨us,gs, []⟩):=by
   refine .agg rfl fun i a b h1 h2=> ?_
   match i with
   |0=>simp at h1 h2;subst h1 h2;exact .rfl
   |1=>simp at h1 h2;subst h1 h2;exact .rfl
   |2=>simp at h1 h2;subst h1 h2;exact .nil rfl
   |i+3=>simp at h1
  exact ⟨_,PCall.leArgsV (.cons hle (.cons .rfl .nil)) (BPn9 ⟨us,gs, []⟩ sl ⟨h1,h2,by simp⟩),hk⟩
 ·exact AXu9 _ _ h
def TUz:List (Nat×(List AV→(AV→Prop)→Prop)):= [(85,AXp9)]
theorem CIf9:AAc9 prog TUz:=Zaj AVf9 Zak
def TIp:List (Nat×(List AV→(AV→Prop)→Prop)):= [(84,BXs9),(85,BHv9)]
theorem CIt9:AAc9 prog TIp:=Zaj BOh9 (Zaj BAq9 Zak)
def askB (a:AskT):Blk:=⟨[.d (i64 a.sl), .d (i64 a.of), .d (i64 a.pe)],false,false,0⟩
noncomputable def lpIx:Code:=sub [1,0,1,2,3] (code f134)
def tmIx (l:List AskT) (q i:Int):List AV:= [.d (.sl 3 (rowsA l)), .bad, .bad, .ptr 0 0, .d (i64 q), .bad, .bad, .d (i64 l.length), .d (i64 i)]++Zap 10 .bad
theorem BMf9 (s:SideT) (sl of but:Int):wpFn prog ⟨TUz, [],wl,y,false⟩ 100 f51 [.rptr (sideD s),cellA sl of, .d (i64 but)] b R=(∃(l0:List NearT) (sl1:Int) (of2:Int) (but3:Int) (q4:Bool), [Zae (Zan 31 (rowsN (Zau s))),Zax (Fn.func 101) [] (Qz53 but sl of)]= [Zae (Zan 31 (rowsN l0)),Zax (Fn.func 101) [] (Qz53 but3 sl1 of2)]∧((∀(x:NearT),x∈l0→AAy9 x)∧Zaa l0≤9223372036854775807∧q4=Zcv l0 fun (x5:NearT)=> !NearT.fm x5==but3&&Zcv (Zcp x5) fun (y6:UseT)=>Zcy y6==sl1&&Zek y6==of2)∧R (.d (bo q4)) b):=by kernel_rfl
theorem BMg9 (s:SideT) (t:TabT) (n:NearT) (sl of:Int):wpFn prog ⟨TIp, [],wl,y,false⟩ 100 f39 [.rptr (sideD s),tabA t,nearA n,cellA sl of] b R=(∃(t0:TabT) (s1:Int) (q2:Bool), [Zaq (Qz1 t),Zae (i64 sl)]= [Zaq (Qz1 t0),Zae (i64 s1)]∧(TabOk t0∧q2=busyT t0 s1)∧BIf q2 (R (.d (bo false)) b) (∃(us3:List UseT) (gs4:List GraT) (sl5:Int) (q6:Bool), [Zae (Zan 4 (rowsU (Zcp n))),Zae (Zan 5 (rowsG (Zck n))),Zae (i64 sl)]= [Zae (Zan 4 (rowsU us3)),Zae (Zan 5 (rowsG gs4)),Zae (i64 sl5)]∧(Zaa us3<10000∧Zaa gs4<10000∧q6=busyT (TabT.mk us3 gs4 []) sl5)∧BIf q6 (R (.d (bo false)) b) (∃(l7:List NearT) (sl8:Int) (of9:Int) (s10:SideT) (q11:Bool), [Zae (Zan 31 (rowsN (Zau s))),Zax (Fn.func 86) [] (Qz23 sl of s)]= [Zae (Zan 31 (rowsN l7)),Zax (Fn.func 86) [] (Qz23 sl8 of9 s10)]∧((∀(x:NearT),x∈l7→AAy9 x)∧Zaa l7≤9223372036854775807∧q11=Zcv l7 fun (x12:NearT)=>Zcv (Zck x12) fun (y13:GraT)=>Zdg y13==sl8&&Zfe y13==of9&& !GraT.pe y13==Zes s10)∧R (.d (bo !q11)) b))):=by kernel_rfl
theorem rIx (l:List AskT) (a:AskT) (i:Int):wpc prog ⟨[], [],wl,y,false⟩ 100 lpIx (tmIx l 0 i) [askB a] b (maskK 1 [0,3,4,7,8] K)=(BIf (decide (i<((Zaa l:Nat):Int))) (BIf (true&&decide (0≤i)) (∃(x0:Int) (x1:Int) (x2:Int),(rowsA l)[Zam i]? =some [i64 x0,i64 x1,i64 x2]∧BIf (Zcr a==x0&&(Zgd a==x1&&true)&&(Zfp a==x2&&true)) (K .ret (Zae (Zan 3 (rowsA l))::Zab::Zab::Zaf 0 0::Zae (i64 i)::Zab::Zab::Zae (i64 ((Zaa l:Nat):Int))::Zae (i64 i)::bds 10 []) [Blk.mk (Qz12 a) false false 0] b) (K .normal (Zae (Zan 3 (rowsA l))::Zab::Zab::Zaf 0 0::Zae (i64 0)::Zab::Zab::Zae (i64 ((Zaa l:Nat):Int))::Zae (i64 (Zad .i64 (i+1)))::bds 10 []) [Blk.mk (Qz12 a) false false 0] b)) False) (K (Zbj 0) (Zae (Zan 3 (rowsA l))::Zab::Zab::Zaf 0 0::Zae (i64 0)::Zab::Zab::Zae (i64 ((Zaa l:Nat):Int))::Zae (i64 i)::bds 10 []) [Blk.mk (Qz12 a) false false 0] b)):=by kernel_rfl
def usedS (ns:List NearT) (sl of but:Int):Bool:=ns.any fun x=> !(x.fm==but)&&x.us.any (fun y=>(y.sl==sl&&y.of==of))
def AJh9 (s:SideT):Prop:=s.ns.length≤9223372036854775807∧(∀x∈s.ns,AAy9 x)∧layOk s.lay=true
theorem BUb9 (s:SideT) (sl of but:Int) (hs:AJh9 s):PCall prog 51 [.rptr (sideD s),cellA sl of, .d (i64 but)] (.d (bo (usedS s.ns sl of but))):=by
 refine Zbf (n:=100) (u:=false) mixed CIf9 Zah func51 (by rfl) (by rfl) fun Ev bb=> ?_;rw [BMf9];exact ⟨s.ns,sl,of,but,_,rfl,⟨hs.2.1,hs.1,rfl⟩,rfl⟩
def BQk9 (args:List AV) (K:AV→Prop):Prop:=∃(s:SideT) (sl of but:Int) (q:Bool),args= [.rptr (sideD s),cellA sl of, .d (i64 but)]∧(AJh9 s∧q=usedS s.ns sl of but)∧K (.d (bo q))
theorem BHa9:∀args K,BQk9 args K→∃x,PCall prog 51 args x∧K x:=by
 rintro _ K ⟨s,sl,of,but,_,rfl,⟨hs,rfl⟩,hk⟩;exact ⟨_,BUb9 s sl of but hs,hk⟩
def BFl9 (ns:List NearT) (sl of me:Int):Bool:=ns.any fun x=>x.gs.any fun y=>(y.sl==sl&&y.of==of)&& !(y.pe==me)
def possS (s:SideT) (t:TabT) (n:NearT) (sl of:Int):Bool:=if busyT t sl=true then false else if busyT ⟨n.us,n.gs, []⟩ sl=true then false else !BFl9 s.ns sl of s.me
theorem BUc9 (s:SideT) (t:TabT) (n:NearT) (sl of:Int) (hs:AJh9 s) (ht:TabOk t) (hn:n.us.length<10000∧n.gs.length<10000):PCall prog 39 [.rptr (sideD s),tabA t,nearA n,cellA sl of] (.d (bo (possS s t n sl of))):=by
 refine Zbf (n:=100) (u:=false) mixed CIt9 Zah func39 (by rfl) (by rfl) fun Ev bb=> ?_;rw [BMg9];refine ⟨t,sl,_,rfl,⟨ht,rfl⟩,Zba (fun h1=> ?_) fun h1=>⟨n.us,n.gs,sl,_,rfl,⟨hn.1,hn.2,rfl⟩,Zba (fun h2=> ?_) fun h2=>⟨s.ns,sl,of,s,_,rfl,⟨hs.2.1,hs.1,rfl⟩, ?_⟩⟩⟩
 ·rw [possS,if_pos h1]
 ·rw [possS,if_neg (by rw [h1];decide),if_pos h2]
 ·rw [possS,if_neg (by rw [h1];decide),if_neg (by rw [h2];decide)];rfl
def BQl9 (args:List AV) (K:AV→Prop):Prop:=∃(s:SideT) (t:TabT) (n:NearT) (sl of:Int) (q:Bool),args= [.rptr (sideD s),tabA t,nearA n,cellA sl of]∧(AJh9 s∧TabOk t∧(n.us.length<10000∧n.gs.length<10000)∧q=possS s t n sl of)∧K (.d (bo q))
theorem BHb9:∀args K,BQl9 args K→∃x,PCall prog 39 args x∧K x:=by
 rintro _ K ⟨s,t,n,sl,of,_,rfl,⟨hs,ht,hn,rfl⟩,hk⟩;exact ⟨_,BUc9 s t n sl of hs ht hn,hk⟩
def eqAsk (a x:AskT):Bool:=a.sl==x.sl&&(a.of==x.of&&a.pe==x.pe)
theorem wrIx {Ev:Env prog} {b:Ev.β} {Q:Exit→St Ev.β→Prop} (l:List AskT) (a:AskT) (hl:l.length≤9223372036854775807) (h1:l.findIdx? (eqAsk a)=none→∀i:Int,Q (.exit 0) ⟨tmIx l 0 i, [askB a],b⟩) (h2:∀j:Nat,l.findIdx? (eqAsk a)=some j→Q .ret ⟨tmIx l j j, [askB a],b⟩):
 WR Ev lpIx (l.length+1) ⟨tmIx l 0 (0:Nat), [askB a],b⟩ Q:=by
 refine Zfq (X:=⟨[], [],wlW Ev,Ev.Y,false⟩) (k:=100) [0,3,4,7,8] mixed (CX.Ok.of Zak Zah) l (eqAsk a) (fun i=>tmIx l 0 (i:Nat)) (fun i=>tmIx l (i:Nat) (i:Nat)) [askB a] 0 (fun i x hi hxi K k1 k2=> ?_) (fun K k1=> ?_) (fun h=>h1 h _) h2
 ·refine Eq.mpr (rIx _ _ _ K l a i) ?_;rw [ABk9 hxi];have e:(a.sl==x.sl&&(a.of==x.of&&true)&&(a.pe==x.pe&&true))=eqAsk a x:=by simp [eqAsk,Bool.and_assoc]
  refine Zaz (by simp;omega) (Zaz (natI i) ⟨_,_,_,rfl, ?_⟩);rw [e];refine Zba (fun g=>k1 g) fun g=> ?_;rw [wrapN (by omega)];exact k2 g
 ·refine Eq.mpr (rIx _ _ _ K l a _) ?_;exact Zda (by simp) k1
def wlIx {β:Type}:WLT β:=fun cd tm hp b K=>∃(l:List AskT) (a:AskT) (q:Int),cd= .loop lpIx∧AAv9 [0,3,4,7,8] 0 tm=tmIx l 0 0∧hp= [askB a]∧(l.length≤9223372036854775807∧q=idxS (eqAsk a) l)∧(∀i:Int,q= -1→K (.exit 0) (tmIx l 0 i) [askB a] b)∧(∀i:Int,0≤q→K .ret (tmIx l q i) [askB a] b)
theorem CAb9 {Ev:Env prog} (c:Code) (tm:List AV) (hp:List Blk) (b:Ev.β) (K:Exit→List AV→List Blk→Ev.β→Prop) (h:wlIx c tm hp b K):W Ev c ⟨tm,hp,b⟩ (fun e s=>K e s.tm s.hp s.b):=by
 obtain ⟨l,a,q,rfl,htm,rfl,⟨hl,rfl⟩,hK1,hK2⟩:=h;refine W.cast (htm▸AAb9 _ tm 0) (Zbp _) ?_;exact W.rounds (wrIx (Q:=fun e s=>K e s.tm s.hp s.b) l a hl (fun h i=>hK1 i (ABb9 h)) fun j h=>by have:=hK2 j (by rw [AAj9 h];omega);rwa [AAj9 h] at this)
theorem BVr9 (l:List AskT) (a:AskT):wpFn prog ⟨[], [],wlIx,y,false⟩ 100 f134 [.d (.sl 3 (rowsA l)),askA a] b R=(∃(l0:List AskT) (a1:AskT) (q2:Int),Zat lpIx=Zat lpIx∧(Zae (Zan 3 (rowsA l))::Zab::Zab::Zaf 0 0::Zae (i64 0)::Zab::Zab::Zae (i64 ((Zaa (rowsA l):Nat):Int))::Zae (i64 0)::bds 10 [])=(Zae (Zan 3 (rowsA l0))::Zab::Zab::Zaf 0 0::Zae (i64 0)::Zab::Zab::Zae (i64 ((Zaa l0:Nat):Int))::Zae (i64 0)::bds 10 [])∧ [Blk.mk (Qz12 a) false false 0]= [Blk.mk (Qz12 a1) false false 0]∧(Zaa l0≤9223372036854775807∧q2=idxS (eqAsk a1) l0)∧(∀(i:Int),q2=(-1:Int)→R (.d (i64 (-1))) b)∧∀(i:Int),(0:Int)≤q2→R (.d (i64 q2)) b):=by kernel_rfl
theorem CCm9 (l:List AskT) (a:AskT) (hl:l.length≤9223372036854775807):PCall prog 134 [.d (.sl 3 (rowsA l)),askA a] (.d (i64 (idxS (eqAsk a) l))):=by
 refine Zcu (n:=100) (u:=false) (fun _=>wlIx) mixed Zak Zah (fun Ev=>CAb9) func134 (by rfl) (by rfl) fun Ev bb=> ?_;rw [BVr9,AAn9];exact ⟨l,a,_,rfl,rfl,rfl,⟨hl,rfl⟩,fun i h=>by rw [h],fun i h=>rfl⟩
def CEr9 (args:List AV) (K:AV→Prop):Prop:=∃(l:List AskT) (a:AskT) (q:Int),args= [.d (.sl 3 (rowsA l)),askA a]∧(l.length≤9223372036854775807∧q=idxS (eqAsk a) l)∧K (.d (i64 q))
theorem BNy9:∀args K,CEr9 args K→∃x,PCall prog 134 args x∧K x:=by
 rintro _ K ⟨l,a,_,rfl,⟨hl,rfl⟩,hk⟩;exact ⟨_,CCm9 l a hl,hk⟩
def TIdx:List (Nat×(List AV→(AV→Prop)→Prop)):= [(134,CEr9)]
theorem CFt9:AAc9 prog TIdx:=Zaj BNy9 Zak
theorem AZz9 (l:List AskT) (a:AskT):wpFn prog ⟨TIdx, [],wl,y,false⟩ 100 f100 [.d (.sl 3 (rowsA l)),askA a] b R=(∃(l0:List AskT) (a1:AskT) (q2:Int), [Zae (Zan 3 (rowsA l)),Zaq (Qz12 a)]= [Zae (Zan 3 (rowsA l0)),Zaq (Qz12 a1)]∧(Zaa l0≤9223372036854775807∧q2=idxS (eqAsk a1) l0)∧R (.d (bo (decide (q2≥(0:Int))))) b):=by kernel_rfl
theorem BEh9 (l:List AskT) (a:AskT) (hl:l.length≤9223372036854775807):PCall prog 100 [.d (.sl 3 (rowsA l)),askA a] (.d (bo (l.any (eqAsk a)))):=by
 refine Zbf (n:=100) (u:=false) mixed CFt9 Zah func100 (by rfl) (by rfl) fun Ev bb=> ?_;rw [AZz9];exact ⟨l,a,_,rfl,⟨hl,rfl⟩,by rw [AFn9]⟩
def AXo9 (args:List AV) (K:AV→Prop):Prop:=∃(l:List AskT) (a:AskT) (q:Bool),args= [.d (.sl 3 (rowsA l)),askA a]∧(l.length≤9223372036854775807∧q=l.any (eqAsk a))∧K (.d (bo q))
theorem AVe9:∀args K,AXo9 args K→∃x,PCall prog 100 args x∧K x:=by
 rintro _ K ⟨l,a,_,rfl,⟨hl,rfl⟩,hk⟩;exact ⟨_,BEh9 l a hl,hk⟩
def TTl:List (Nat×(List AV→(AV→Prop)→Prop)):= [(98,AXq9),(100,AXo9)]
theorem CIh9:AAc9 prog TTl:=Zaj AVg9 (Zaj AVe9 Zak)
theorem BTe9 (s:SideT) (n:NearT) (sl of:Int):wpFn prog ⟨TTl, [],wl,y,false⟩ 100 f50 [.rptr (sideD s),nearA n,cellA sl of] b R=(∃(l0:List UseT) (sl1:Int) (of2:Int) (s3:SideT) (q4:Bool), [Zae (Zan 4 (rowsU (Zcp n))),Zax (Fn.func 99) [] (Qz23 sl of s)]= [Zae (Zan 4 (rowsU l0)),Zax (Fn.func 99) [] (Qz23 sl1 of2 s3)]∧(Zaa l0≤9223372036854775807∧q4=Zcv l0 fun (x5:UseT)=>Zcy x5==sl1&&Zek x5==of2&&Zgk x5==Zes s3)∧BIf q4 (R (.d (bo true)) b) (∃(l6:List AskT) (a7:AskT) (q8:Bool), [Zae (Zan 3 (rowsA (Zer n))),Zaq [Zae (i64 sl),Zae (i64 of),Zae (i64 (Zes s))]]= [Zae (Zan 3 (rowsA l6)),Zaq (Qz12 a7)]∧(Zaa l6≤9223372036854775807∧q8=Zcv l6 (eqAsk a7))∧R (.d (bo q8)) b)):=by kernel_rfl
def AQl9 (s:SideT) (n:NearT) (sl of:Int):Bool:=(n.us.any fun x=>(x.sl==sl&&x.of==of)&&x.pe==s.me)||n.ak.any (eqAsk ⟨sl,of,s.me⟩)
theorem CCi9 (s:SideT) (n:NearT) (sl of:Int) (h1:n.us.length≤9223372036854775807) (h2:n.ak.length≤9223372036854775807):PCall prog 50 [.rptr (sideD s),nearA n,cellA sl of] (.d (bo (AQl9 s n sl of))):=by
 refine Zbf (n:=100) (u:=false) mixed CIh9 Zah func50 (by rfl) (by rfl) fun Ev bb=> ?_;rw [BTe9];refine ⟨n.us,sl,of,s,_,rfl,⟨h1,rfl⟩,Zba (fun h=> ?_) fun h=> ?_⟩
 ·rw [show AQl9 s n sl of=true by simp [AQl9,h]]
 ·refine ⟨n.ak,⟨sl,of,s.me⟩,_,rfl,⟨h2,rfl⟩, ?_⟩;rw [show AQl9 s n sl of=n.ak.any (eqAsk ⟨sl,of,s.me⟩) by simp [AQl9,h]]
def CEl9 (args:List AV) (K:AV→Prop):Prop:=∃(s:SideT) (n:NearT) (sl of:Int) (q:Bool),args= [.rptr (sideD s),nearA n,cellA sl of]∧((n.us.length≤9223372036854775807∧n.ak.length≤9223372036854775807)∧q=AQl9 s n sl of)∧K (.d (bo q))
theorem BNs9:∀args K,CEl9 args K→∃x,PCall prog 50 args x∧K x:=by
 rintro _ K ⟨s,n,sl,of,_,rfl,⟨⟨h1,h2⟩,rfl⟩,hk⟩;exact ⟨_,CCi9 s n sl of h1 h2,hk⟩
def AJx9 {α:Type} (p:α→Bool) (x:α):List α:=if p x=true then [x] else []
theorem AKf9 {α:Type} (p:α→Bool) (x:α):(AJx9 p x).length≤1:=by rw [AJx9];split<;>simp
theorem AOv9 {α:Type} {p:α→Bool} {x:α} (h:p x=true):AJx9 p x= [x]:=by rw [AJx9,if_pos h]
theorem AOw9 {α:Type} {p:α→Bool} {x:α} (h:p x=false):AJx9 p x= []:=by rw [AJx9,if_neg (by simp [h])]
theorem AEi9 {α:Type} (p:α→Bool) (l:List α):l.flatMap (AJx9 p)=l.filter p:=by
 induction l with
 |nil=>rfl
 |cons x r ih=>rw [List.flatMap_cons,ih,List.filter_cons,AJx9];split<;>simp
def TIs:List (Nat×(List AV→(AV→Prop)→Prop)):= [(81,BHc9),(36,cIn)]
theorem CFq9:AAc9 prog TIs:=Zaj ASr9 (Zaj BHd9 Zak)
def useIs (x:UseT) (l:LayT):Bool:=ABw9 x.sl x.of x.pe l&&inN x.st 1000000000
def graIs (x:GraT) (l:LayT):Bool:=ABw9 x.sl x.of x.pe l&&(decide (x.st≥0)&&(inN x.st x.un&&decide (x.un≤1000000000)))
theorem BVn9 (x:UseT) (ly:LayT):wpFn prog ⟨TIs, [],wl,y,false⟩ 100 f76 [layA ly,useA x] b R=(∃(sl0:Int) (of1:Int) (pe2:Int) (l3:LayT) (z4:Bool), [Zaq (Qz3 ly),Zaq (Qz86 x),Zae (i64 (Zgk x))]= [Zaq (Qz3 l3),Zaq [Zae (i64 sl0),Zae (i64 of1)],Zae (i64 pe2)]∧z4=ABw9 sl0 of1 pe2 l3∧BIf z4 (∃(n5:Int) (h6:Int) (z7:Bool), [Zae (i64 (UseT.st x)),Zae (i64 1000000000)]= [Zae (i64 n5),Zae (i64 h6)]∧z7=inN n5 h6∧R (.d (bo z7)) b) (R (.d (bo false)) b)):=by kernel_rfl
theorem BVo9 (x:GraT) (ly:LayT):wpFn prog ⟨TIs, [],wl,y,false⟩ 100 f79 [layA ly,graA x] b R=(∃(sl0:Int) (of1:Int) (pe2:Int) (l3:LayT) (z4:Bool), [Zaq (Qz3 ly),Zaq (Qz59 x),Zae (i64 (Zgg x))]= [Zaq (Qz3 l3),Zaq [Zae (i64 sl0),Zae (i64 of1)],Zae (i64 pe2)]∧z4=ABw9 sl0 of1 pe2 l3∧BIf z4 (BIf (decide (GraT.st x≥(0:Int))) (∃(n5:Int) (h6:Int) (z7:Bool), [Zae (i64 (GraT.st x)),Zae (i64 (Zeh x))]= [Zae (i64 n5),Zae (i64 h6)]∧z7=inN n5 h6∧BIf z7 (R (.d (bo (decide (Zeh x≤(1000000000:Int))))) b) (R (.d (bo false)) b)) (R (.d (bo false)) b)) (R (.d (bo false)) b)):=by kernel_rfl
theorem CCk9 (x:UseT) (ly:LayT):PCall prog 76 [layA ly,useA x] (.d (bo (useIs x ly))):=by
 refine Zbf (n:=100) (u:=false) mixed CFq9 Zah func76 (by rfl) (by rfl) fun Ev bb=> ?_;rw [BVn9];refine ⟨_,_,_,ly,_,rfl,rfl,Zba (fun h=>⟨_,_,_,rfl,rfl, ?_⟩) fun h=> ?_⟩
 ·simp only [useIs,h,Zey]
 ·simp only [useIs,h,Zcj]
def CEp9 (args:List AV) (K:AV→Prop):Prop:=∃(x:UseT) (ly:LayT) (q:Bool),args= [layA ly,useA x]∧q=useIs x ly∧K (.d (bo q))
theorem BNw9:∀args K,CEp9 args K→∃x,PCall prog 76 args x∧K x:=by
 rintro _ K ⟨x,ly,_,rfl,rfl,hk⟩;exact ⟨_,CCk9 x ly,hk⟩
theorem CCl9 (x:GraT) (ly:LayT):PCall prog 79 [layA ly,graA x] (.d (bo (graIs x ly))):=by
 refine Zbf (n:=100) (u:=false) mixed CFq9 Zah func79 (by rfl) (by rfl) fun Ev bb=> ?_;rw [BVo9];refine ⟨_,_,_,ly,_,rfl,rfl, ?_⟩;repeat' (first|refine ⟨_,_,_,rfl,rfl, ?_⟩|refine Zba (fun _=> ?_) fun _=> ?_)
 all_goals (rw [graIs];simp only [*,Zey,Zcj])
def CEq9 (args:List AV) (K:AV→Prop):Prop:=∃(x:GraT) (ly:LayT) (q:Bool),args= [layA ly,graA x]∧q=graIs x ly∧K (.d (bo q))
theorem BNx9:∀args K,CEq9 args K→∃x,PCall prog 79 args x∧K x:=by
 rintro _ K ⟨x,ly,_,rfl,rfl,hk⟩;exact ⟨_,CCl9 x ly,hk⟩
def TIu:List (Nat×(List AV→(AV→Prop)→Prop)):= [(76,CEp9)]
theorem CIs9:AAc9 prog TIu:=Zaj BNw9 Zak
def TIg:List (Nat×(List AV→(AV→Prop)→Prop)):= [(79,CEq9)]
theorem CIu9:AAc9 prog TIg:=Zaj BNx9 Zak
def TIa:List (Nat×(List AV→(AV→Prop)→Prop)):= [(81,BHc9)]
theorem CIv9:AAc9 prog TIa:=Zaj ASr9 Zak
theorem BNc9 (x:UseT) (ly:LayT):wpFn prog ⟨TIu, [],wl,y,false⟩ 100 f75 ([useA x]++ [.rptr [i64 ly.no,i64 ly.da]]) b R=(∃(x0:UseT) (ly1:LayT) (q2:Bool), [Zaq (Qz3 ly),Zaq (Qz7 x)]= [Zaq (Qz3 ly1),Zaq (Qz7 x0)]∧q2=useIs x0 ly1∧R (.d (bo q2)) b):=by kernel_rfl
theorem BUn9 (x:UseT) (ly:LayT):PCall prog 75 ([useA x]++ [.rptr [i64 ly.no,i64 ly.da]]) (.d (bo ((fun x:UseT=>useIs x ly) x))):=by
 refine Zbf (n:=100) (u:=false) mixed CIs9 Zah func75 (by rfl) (by rfl) fun Ev bb=> ?_;rw [BNc9];exact ⟨x,ly,_,rfl,rfl,rfl⟩
def BQv9 (args:List AV) (K:AV→Prop):Prop:=∃(x:UseT) (ly:LayT) (q:Bool),args= [useA x]++ [.rptr [i64 ly.no,i64 ly.da]]∧q=(fun x:UseT=>useIs x ly) x∧K (.d (bo q))
theorem BIf9:∀args K,BQv9 args K→∃x,PCall prog 75 args x∧K x:=by
 rintro _ K ⟨x,ly,_,rfl,rfl,hk⟩;exact ⟨_,BUn9 x ly,hk⟩
def BYh9:List (Nat×(List AV→(AV→Prop)→Prop)):= [(75,BQv9)]
theorem BOl9:AAc9 prog BYh9:=Zaj BIf9 Zak
noncomputable def ARo9:Code:=sub [1,1,0,1,2,3] (code f74)
def AKw9 (l:List UseT) (ly:LayT) (acc:AV) (n i:Int):List AV:= [.bad, .fn (.func 75) [] [.rptr [i64 ly.no,i64 ly.da]], .bad, .bad, .bad,acc, .bad, .bad, .d (.sl 4 (rowsU l)), .d (i64 n), .d (i64 i)]++Zap 12 .bad
abbrev Qz13 (v0:LayT):List AV:= [Zag [i64 (Zfc v0),i64 (Zcx v0)]]
theorem CBk9 (l:List UseT) (ly:LayT) (xs:List (List Dv)) (n i:Int):wpc prog ⟨BYh9, [],wl,y,false⟩ 100 ARo9 (AKw9 l ly (.own 61 4 xs) n i) [] b (maskK 0 [1,5,8,9,10] K)=(BIf (decide (i<n)) (BIf (true&&decide (0≤i)) (∃(x0:Int) (x1:Int) (x2:Int) (x3:Int),(rowsU l)[Zam i]? =some [i64 x0,i64 x1,i64 x2,i64 x3]∧∃(x6:UseT) (ly7:LayT) (q8:Bool), [Zaq (Qz37 x0 x1 x2 x3),Zag [i64 (Zfc ly),i64 (Zcx ly)]]= [Zaq (Qz7 x6),Zag [i64 (Zfc ly7),i64 (Zcx ly7)]]∧q8=useIs x6 ly7∧BIf q8 (BIf (true&&decide ((Zaa xs+1)*32≤140737488355328)) (K .normal (Zab::Zax (Fn.func 75) [] (Qz13 ly)::bds 3 (Zgq 61 4 (xs++ [[i64 x0,i64 x1,i64 x2,i64 x3]])::Zab::Zab::Zae (Zan 4 (rowsU l))::Zae (i64 n)::Zae (i64 (Zad .i64 (i+1)))::bds 12 [])) [] b) False) (K .normal (Zab::Zax (Fn.func 75) [] (Qz13 ly)::bds 3 (Zgq 61 4 xs::Zab::Zab::Zae (Zan 4 (rowsU l))::Zae (i64 n)::Zae (i64 (Zad .i64 (i+1)))::bds 12 [])) [] b)) False) (K (Zbj 0) (Zab::Zax (Fn.func 75) [] (Qz13 ly)::bds 3 (Zgq 61 4 xs::Zab::Zab::Zae (Zan 4 (rowsU l))::Zae (i64 n)::Zae (i64 i)::bds 12 [])) [] b)):=by kernel_rfl
theorem BZb9 {Ev:Env prog} {b:Ev.β} {Q:Exit→St Ev.β→Prop} (l:List UseT) (ly:LayT) (hl:l.length<1000000) (hQ:∀i:Int,Q (.exit 0) ⟨AKw9 l ly (.own 61 4 (rowsU (l.filter (fun x:UseT=>useIs x ly)))) l.length i, [],b⟩):
 WR Ev ARo9 (l.length+1) ⟨AKw9 l ly (.own 61 4 (rowsU [])) l.length (0:Nat), [],b⟩ Q:=by
 refine WR.gathL (X:=⟨BYh9, [],wlW Ev,Ev.Y,false⟩) (k:=100) [1,5,8,9,10] mixed (CX.Ok.of BOl9 Zah) l (AJx9 (fun x:UseT=>useIs x ly)) (AKf9 _) (fun acc i=>AKw9 l ly (.own 61 4 (rowsU acc)) l.length (i:Nat)) [] 0 (fun i x acc hi hx ha K k1=> ?_) (fun acc K k1=> ?_) ?_
 ·refine Eq.mpr (CBk9 _ _ _ K l ly _ l.length i) ?_;rw [ACb9 hx];refine Zaz (by simp;omega) (Zaz (natI i) ⟨_,_,_,_,rfl,x,ly,_,rfl,rfl,Zba (fun g=>Zaz (by simp [AAh9];omega) ?_) fun g=> ?_⟩)
  ·rw [AOv9 (p:=(fun x:UseT=>useIs x ly)) (x:=x) g,AWc9] at k1;rw [wrapN (by omega)];exact k1
  ·rw [AOw9 (p:=(fun x:UseT=>useIs x ly)) (x:=x) g,Zdu] at k1;rw [wrapN (by omega)];exact k1
 ·refine Eq.mpr (CBk9 _ _ _ K l ly _ l.length _) ?_;exact Zda (by simp) k1
 ·rw [AEi9];exact hQ _
def BBu9 {β:Type}:WLT β:=fun cd tm hp b K=>∃(l:List UseT) (ly:LayT),cd= .loop ARo9∧AAv9 [1,5,8,9,10] 0 tm=AKw9 l ly nilA (rowsU l).length 0∧hp= []∧l.length<1000000∧
 ∀(i:Int) (r:List UseT),r=l.filter (fun x:UseT=>useIs x ly)→K (.exit 0) (AKw9 l ly (.own 61 4 (rowsU r)) l.length i) [] b
theorem BBt9 {Ev:Env prog} (c:Code) (tm:List AV) (hp:List Blk) (b:Ev.β) (K:Exit→List AV→List Blk→Ev.β→Prop) (h:BBu9 c tm hp b K):W Ev c ⟨tm,hp,b⟩ (fun e s=>K e s.tm s.hp s.b):=by
 obtain ⟨l,ly,rfl,htm,rfl,hl,hK⟩:=h;rw [AAh9] at htm;refine W.cast (htm▸AAb9 _ tm 0) (Zbp _) ?_;refine W.cast (tm':=AKw9 l ly (.own 61 4 (rowsU [])) l.length 0) (LeL.at [_,_,_,_,_] _ (LeA.nilOwn rfl)) (Zbp _) ?_;exact W.rounds (BZb9 (Q:=fun e s=>K e s.tm s.hp s.b) l ly hl fun i=>hK i _ rfl)
theorem AZe9 (l:List UseT) (ly:LayT):wpFn prog ⟨[], [],BBu9,y,false⟩ 100 f74 [.d (.sl 4 (rowsU l)), .fn (.func 75) [] [.rptr [i64 ly.no,i64 ly.da]]] b R=(∃(l0:List UseT) (ly1:LayT),Zat ARo9=Zat ARo9∧(Zab::Zax (Fn.func 75) [] (Qz13 ly)::bds 3 (Zae (Zdy (.slice none 0 0))::Zab::Zab::Zae (Zan 4 (rowsU l))::Zae (i64 ((Zaa (rowsU l):Nat):Int))::Zae (i64 0)::bds 12 []))=(Zab::Zax (Fn.func 75) [] (Qz13 ly1)::bds 3 (Zae (Zdy (.slice none 0 0))::Zab::Zab::Zae (Zan 4 (rowsU l0))::Zae (i64 ((Zaa (rowsU l0):Nat):Int))::Zae (i64 0)::bds 12 []))∧([]:List Blk)= []∧Zaa l0<1000000∧∀(i:Int) (r:List UseT),r=Zce (fun (x2:UseT)=>useIs x2 ly1) l0→R (.d (Zan 4 (rowsU r))) b):=by kernel_rfl
theorem BDx9 (l:List UseT) (ly:LayT) (hl:l.length<1000000):PCall prog 74 [.d (.sl 4 (rowsU l)), .fn (.func 75) [] [.rptr [i64 ly.no,i64 ly.da]]] (.d (.sl 4 (rowsU (l.filter (fun x:UseT=>useIs x ly))))):=by
 refine Zga (n:=100) (u:=false) (fun _=>BBu9) mixed Zak Zah (fun Ev=>BBt9) func74 (by rfl) (by rfl) fun Ev bb=> ?_;rw [AZe9];exact ⟨l,ly,rfl,rfl,rfl,hl,fun i r hr=>hr▸ .base LeA.rfl⟩
def AXc9 (args:List AV) (K:AV→Prop):Prop:=∃(l:List UseT) (ly:LayT) (q:List UseT),args= [.d (.sl 4 (rowsU l)), .fn (.func 75) [] [.rptr [i64 ly.no,i64 ly.da]]]∧(l.length<1000000∧q=l.filter (fun x:UseT=>useIs x ly))∧K (.d (.sl 4 (rowsU q)))
theorem AUt9:∀args K,AXc9 args K→∃x,PCall prog 74 args x∧K x:=by
 rintro _ K ⟨l,ly,_,rfl,⟨hl,rfl⟩,hk⟩;exact ⟨_,BDx9 l ly hl,hk⟩
theorem BNd9 (x:GraT) (ly:LayT):wpFn prog ⟨TIg, [],wl,y,false⟩ 100 f78 ([graA x]++ [.rptr [i64 ly.no,i64 ly.da]]) b R=(∃(x0:GraT) (ly1:LayT) (q2:Bool), [Zaq (Qz3 ly),Zaq (Qz5 x)]= [Zaq (Qz3 ly1),Zaq (Qz5 x0)]∧q2=graIs x0 ly1∧R (.d (bo q2)) b):=by kernel_rfl
theorem BUo9 (x:GraT) (ly:LayT):PCall prog 78 ([graA x]++ [.rptr [i64 ly.no,i64 ly.da]]) (.d (bo ((fun x:GraT=>graIs x ly) x))):=by
 refine Zbf (n:=100) (u:=false) mixed CIu9 Zah func78 (by rfl) (by rfl) fun Ev bb=> ?_;rw [BNd9];exact ⟨x,ly,_,rfl,rfl,rfl⟩
def BQw9 (args:List AV) (K:AV→Prop):Prop:=∃(x:GraT) (ly:LayT) (q:Bool),args= [graA x]++ [.rptr [i64 ly.no,i64 ly.da]]∧q=(fun x:GraT=>graIs x ly) x∧K (.d (bo q))
theorem BIg9:∀args K,BQw9 args K→∃x,PCall prog 78 args x∧K x:=by
 rintro _ K ⟨x,ly,_,rfl,rfl,hk⟩;exact ⟨_,BUo9 x ly,hk⟩
def BYi9:List (Nat×(List AV→(AV→Prop)→Prop)):= [(78,BQw9)]
theorem BOm9:AAc9 prog BYi9:=Zaj BIg9 Zak
noncomputable def ARp9:Code:=sub [1,1,0,1,2,3] (code f77)
def AKx9 (l:List GraT) (ly:LayT) (acc:AV) (n i:Int):List AV:= [.bad, .fn (.func 78) [] [.rptr [i64 ly.no,i64 ly.da]], .bad, .bad, .bad,acc, .bad, .bad, .d (.sl 5 (rowsG l)), .d (i64 n), .d (i64 i)]++Zap 12 .bad
theorem CBl9 (l:List GraT) (ly:LayT) (xs:List (List Dv)) (n i:Int):wpc prog ⟨BYi9, [],wl,y,false⟩ 100 ARp9 (AKx9 l ly (.own 59 5 xs) n i) [] b (maskK 0 [1,5,8,9,10] K)=(BIf (decide (i<n)) (BIf (true&&decide (0≤i)) (∃(x0:Int) (x1:Int) (x2:Int) (x3:Int) (x4:Int),(rowsG l)[Zam i]? =some (Qz41 x0 x1 x2 x3 x4)∧∃(x7:GraT) (ly8:LayT) (q9:Bool), [Zaq (Qz22 x0 x1 x2 x3 x4),Zag [i64 (Zfc ly),i64 (Zcx ly)]]= [Zaq (Qz5 x7),Zag [i64 (Zfc ly8),i64 (Zcx ly8)]]∧q9=graIs x7 ly8∧BIf q9 (BIf (true&&decide ((Zaa xs+1)*40≤140737488355328)) (K .normal (Zab::Zax (Fn.func 78) [] (Qz13 ly)::bds 3 (Zgq 59 5 (xs++ [Qz41 x0 x1 x2 x3 x4])::Zab::Zab::Zae (Zan 5 (rowsG l))::Zae (i64 n)::Zae (i64 (Zad .i64 (i+1)))::bds 12 [])) [] b) False) (K .normal (Zab::Zax (Fn.func 78) [] (Qz13 ly)::bds 3 (Zgq 59 5 xs::Zab::Zab::Zae (Zan 5 (rowsG l))::Zae (i64 n)::Zae (i64 (Zad .i64 (i+1)))::bds 12 [])) [] b)) False) (K (Zbj 0) (Zab::Zax (Fn.func 78) [] (Qz13 ly)::bds 3 (Zgq 59 5 xs::Zab::Zab::Zae (Zan 5 (rowsG l))::Zae (i64 n)::Zae (i64 i)::bds 12 [])) [] b)):=by kernel_rfl
theorem BZc9 {Ev:Env prog} {b:Ev.β} {Q:Exit→St Ev.β→Prop} (l:List GraT) (ly:LayT) (hl:l.length<1000000) (hQ:∀i:Int,Q (.exit 0) ⟨AKx9 l ly (.own 59 5 (rowsG (l.filter (fun x:GraT=>graIs x ly)))) l.length i, [],b⟩):
 WR Ev ARp9 (l.length+1) ⟨AKx9 l ly (.own 59 5 (rowsG [])) l.length (0:Nat), [],b⟩ Q:=by
 refine WR.gathL (X:=⟨BYi9, [],wlW Ev,Ev.Y,false⟩) (k:=100) [1,5,8,9,10] mixed (CX.Ok.of BOm9 Zah) l (AJx9 (fun x:GraT=>graIs x ly)) (AKf9 _) (fun acc i=>AKx9 l ly (.own 59 5 (rowsG acc)) l.length (i:Nat)) [] 0 (fun i x acc hi hx ha K k1=> ?_) (fun acc K k1=> ?_) ?_
 ·refine Eq.mpr (CBl9 _ _ _ K l ly _ l.length i) ?_;rw [ABj9 hx];refine Zaz (by simp;omega) (Zaz (natI i) ⟨_,_,_,_,_,rfl,x,ly,_,rfl,rfl,Zba (fun g=>Zaz (by simp [AAf9];omega) ?_) fun g=> ?_⟩)
  ·rw [AOv9 (p:=(fun x:GraT=>graIs x ly)) (x:=x) g,AOr9] at k1;rw [wrapN (by omega)];exact k1
  ·rw [AOw9 (p:=(fun x:GraT=>graIs x ly)) (x:=x) g,Zdu] at k1;rw [wrapN (by omega)];exact k1
 ·refine Eq.mpr (CBl9 _ _ _ K l ly _ l.length _) ?_;exact Zda (by simp) k1
 ·rw [AEi9];exact hQ _
def BBw9 {β:Type}:WLT β:=fun cd tm hp b K=>∃(l:List GraT) (ly:LayT),cd= .loop ARp9∧AAv9 [1,5,8,9,10] 0 tm=AKx9 l ly nilA (rowsG l).length 0∧hp= []∧l.length<1000000∧
 ∀(i:Int) (r:List GraT),r=l.filter (fun x:GraT=>graIs x ly)→K (.exit 0) (AKx9 l ly (.own 59 5 (rowsG r)) l.length i) [] b
theorem BBv9 {Ev:Env prog} (c:Code) (tm:List AV) (hp:List Blk) (b:Ev.β) (K:Exit→List AV→List Blk→Ev.β→Prop) (h:BBw9 c tm hp b K):W Ev c ⟨tm,hp,b⟩ (fun e s=>K e s.tm s.hp s.b):=by
 obtain ⟨l,ly,rfl,htm,rfl,hl,hK⟩:=h;rw [AAf9] at htm;refine W.cast (htm▸AAb9 _ tm 0) (Zbp _) ?_;refine W.cast (tm':=AKx9 l ly (.own 59 5 (rowsG [])) l.length 0) (LeL.at [_,_,_,_,_] _ (LeA.nilOwn rfl)) (Zbp _) ?_;exact W.rounds (BZc9 (Q:=fun e s=>K e s.tm s.hp s.b) l ly hl fun i=>hK i _ rfl)
theorem AZf9 (l:List GraT) (ly:LayT):wpFn prog ⟨[], [],BBw9,y,false⟩ 100 f77 [.d (.sl 5 (rowsG l)), .fn (.func 78) [] [.rptr [i64 ly.no,i64 ly.da]]] b R=(∃(l0:List GraT) (ly1:LayT),Zat ARp9=Zat ARp9∧(Zab::Zax (Fn.func 78) [] (Qz13 ly)::bds 3 (Zae (Zdy (.slice none 0 0))::Zab::Zab::Zae (Zan 5 (rowsG l))::Zae (i64 ((Zaa (rowsG l):Nat):Int))::Zae (i64 0)::bds 12 []))=(Zab::Zax (Fn.func 78) [] (Qz13 ly1)::bds 3 (Zae (Zdy (.slice none 0 0))::Zab::Zab::Zae (Zan 5 (rowsG l0))::Zae (i64 ((Zaa (rowsG l0):Nat):Int))::Zae (i64 0)::bds 12 []))∧([]:List Blk)= []∧Zaa l0<1000000∧∀(i:Int) (r:List GraT),r=Zce (fun (x2:GraT)=>graIs x2 ly1) l0→R (.d (Zan 5 (rowsG r))) b):=by kernel_rfl
theorem BDy9 (l:List GraT) (ly:LayT) (hl:l.length<1000000):PCall prog 77 [.d (.sl 5 (rowsG l)), .fn (.func 78) [] [.rptr [i64 ly.no,i64 ly.da]]] (.d (.sl 5 (rowsG (l.filter (fun x:GraT=>graIs x ly))))):=by
 refine Zga (n:=100) (u:=false) (fun _=>BBw9) mixed Zak Zah (fun Ev=>BBv9) func77 (by rfl) (by rfl) fun Ev bb=> ?_;rw [AZf9];exact ⟨l,ly,rfl,rfl,rfl,hl,fun i r hr=>hr▸ .base LeA.rfl⟩
def AXd9 (args:List AV) (K:AV→Prop):Prop:=∃(l:List GraT) (ly:LayT) (q:List GraT),args= [.d (.sl 5 (rowsG l)), .fn (.func 78) [] [.rptr [i64 ly.no,i64 ly.da]]]∧(l.length<1000000∧q=l.filter (fun x:GraT=>graIs x ly))∧K (.d (.sl 5 (rowsG q)))
theorem AUu9:∀args K,AXd9 args K→∃x,PCall prog 77 args x∧K x:=by
 rintro _ K ⟨l,ly,_,rfl,⟨hl,rfl⟩,hk⟩;exact ⟨_,BDy9 l ly hl,hk⟩
theorem BNe9 (x:AskT) (ly:LayT):wpFn prog ⟨TIa, [],wl,y,false⟩ 100 f80 ([askA x]++ [.rptr [i64 ly.no,i64 ly.da]]) b R=(∃(sl0:Int) (of1:Int) (pe2:Int) (l3:LayT) (z4:Bool), [Zaq (Qz3 ly),Zaq [Zae (i64 (Zcr x)),Zae (i64 (Zgd x))],Zae (i64 (Zfp x))]= [Zaq (Qz3 l3),Zaq [Zae (i64 sl0),Zae (i64 of1)],Zae (i64 pe2)]∧z4=ABw9 sl0 of1 pe2 l3∧R (.d (bo z4)) b):=by kernel_rfl
theorem BUp9 (x:AskT) (ly:LayT):PCall prog 80 ([askA x]++ [.rptr [i64 ly.no,i64 ly.da]]) (.d (bo ((fun x:AskT=>ABw9 x.sl x.of x.pe ly) x))):=by
 refine Zbf (n:=100) (u:=false) mixed CIv9 Zah func80 (by rfl) (by rfl) fun Ev bb=> ?_;rw [BNe9];exact ⟨_,_,_,ly,_,rfl,rfl,rfl⟩
def BQx9 (args:List AV) (K:AV→Prop):Prop:=∃(x:AskT) (ly:LayT) (q:Bool),args= [askA x]++ [.rptr [i64 ly.no,i64 ly.da]]∧q=(fun x:AskT=>ABw9 x.sl x.of x.pe ly) x∧K (.d (bo q))
theorem BIh9:∀args K,BQx9 args K→∃x,PCall prog 80 args x∧K x:=by
 rintro _ K ⟨x,ly,_,rfl,rfl,hk⟩;exact ⟨_,BUp9 x ly,hk⟩
def BYj9:List (Nat×(List AV→(AV→Prop)→Prop)):= [(80,BQx9)]
theorem BOn9:AAc9 prog BYj9:=Zaj BIh9 Zak
noncomputable def ARq9:Code:=sub [1,1,0,1,2,3] (code f40)
def AKy9 (l:List AskT) (ly:LayT) (acc:AV) (n i:Int):List AV:= [.bad, .fn (.func 80) [] [.rptr [i64 ly.no,i64 ly.da]], .bad, .bad, .bad,acc, .bad, .bad, .d (.sl 3 (rowsA l)), .d (i64 n), .d (i64 i)]++Zap 12 .bad
theorem CBm9 (l:List AskT) (ly:LayT) (xs:List (List Dv)) (n i:Int):wpc prog ⟨BYj9, [],wl,y,false⟩ 100 ARq9 (AKy9 l ly (.own 63 3 xs) n i) [] b (maskK 0 [1,5,8,9,10] K)=(BIf (decide (i<n)) (BIf (true&&decide (0≤i)) (∃(x0:Int) (x1:Int) (x2:Int),(rowsA l)[Zam i]? =some [i64 x0,i64 x1,i64 x2]∧∃(x5:AskT) (ly6:LayT) (q7:Bool), [Zaq (Qz31 x0 x1 x2),Zag [i64 (Zfc ly),i64 (Zcx ly)]]= [Zaq (Qz12 x5),Zag [i64 (Zfc ly6),i64 (Zcx ly6)]]∧q7=ABw9 (Zcr x5) (Zgd x5) (Zfp x5) ly6∧BIf q7 (BIf (true&&decide ((Zaa xs+1)*24≤140737488355328)) (K .normal (Zab::Zax (Fn.func 80) [] (Qz13 ly)::bds 3 (Zgq 63 3 (xs++ [[i64 x0,i64 x1,i64 x2]])::Zab::Zab::Zae (Zan 3 (rowsA l))::Zae (i64 n)::Zae (i64 (Zad .i64 (i+1)))::bds 12 [])) [] b) False) (K .normal (Zab::Zax (Fn.func 80) [] (Qz13 ly)::bds 3 (Zgq 63 3 xs::Zab::Zab::Zae (Zan 3 (rowsA l))::Zae (i64 n)::Zae (i64 (Zad .i64 (i+1)))::bds 12 [])) [] b)) False) (K (Zbj 0) (Zab::Zax (Fn.func 80) [] (Qz13 ly)::bds 3 (Zgq 63 3 xs::Zab::Zab::Zae (Zan 3 (rowsA l))::Zae (i64 n)::Zae (i64 i)::bds 12 [])) [] b)):=by kernel_rfl
theorem BZd9 {Ev:Env prog} {b:Ev.β} {Q:Exit→St Ev.β→Prop} (l:List AskT) (ly:LayT) (hl:l.length<1000000) (hQ:∀i:Int,Q (.exit 0) ⟨AKy9 l ly (.own 63 3 (rowsA (l.filter (fun x:AskT=>ABw9 x.sl x.of x.pe ly)))) l.length i, [],b⟩):
 WR Ev ARq9 (l.length+1) ⟨AKy9 l ly (.own 63 3 (rowsA [])) l.length (0:Nat), [],b⟩ Q:=by
 refine WR.gathL (X:=⟨BYj9, [],wlW Ev,Ev.Y,false⟩) (k:=100) [1,5,8,9,10] mixed (CX.Ok.of BOn9 Zah) l (AJx9 (fun x:AskT=>ABw9 x.sl x.of x.pe ly)) (AKf9 _) (fun acc i=>AKy9 l ly (.own 63 3 (rowsA acc)) l.length (i:Nat)) [] 0 (fun i x acc hi hx ha K k1=> ?_) (fun acc K k1=> ?_) ?_
 ·refine Eq.mpr (CBm9 _ _ _ K l ly _ l.length i) ?_;rw [ABk9 hx];refine Zaz (by simp;omega) (Zaz (natI i) ⟨_,_,_,rfl,x,ly,_,rfl,rfl,Zba (fun g=>Zaz (by simp [AAn9];omega) ?_) fun g=> ?_⟩)
  ·rw [AOv9 (p:=(fun x:AskT=>ABw9 x.sl x.of x.pe ly)) (x:=x) g,AWd9] at k1;rw [wrapN (by omega)];exact k1
  ·rw [AOw9 (p:=(fun x:AskT=>ABw9 x.sl x.of x.pe ly)) (x:=x) g,Zdu] at k1;rw [wrapN (by omega)];exact k1
 ·refine Eq.mpr (CBm9 _ _ _ K l ly _ l.length _) ?_;exact Zda (by simp) k1
 ·rw [AEi9];exact hQ _
def BBy9 {β:Type}:WLT β:=fun cd tm hp b K=>∃(l:List AskT) (ly:LayT),cd= .loop ARq9∧AAv9 [1,5,8,9,10] 0 tm=AKy9 l ly nilA (rowsA l).length 0∧hp= []∧l.length<1000000∧
 ∀(i:Int) (r:List AskT),r=l.filter (fun x:AskT=>ABw9 x.sl x.of x.pe ly)→K (.exit 0) (AKy9 l ly (.own 63 3 (rowsA r)) l.length i) [] b
theorem BBx9 {Ev:Env prog} (c:Code) (tm:List AV) (hp:List Blk) (b:Ev.β) (K:Exit→List AV→List Blk→Ev.β→Prop) (h:BBy9 c tm hp b K):W Ev c ⟨tm,hp,b⟩ (fun e s=>K e s.tm s.hp s.b):=by
 obtain ⟨l,ly,rfl,htm,rfl,hl,hK⟩:=h;rw [AAn9] at htm;refine W.cast (htm▸AAb9 _ tm 0) (Zbp _) ?_;refine W.cast (tm':=AKy9 l ly (.own 63 3 (rowsA [])) l.length 0) (LeL.at [_,_,_,_,_] _ (LeA.nilOwn rfl)) (Zbp _) ?_;exact W.rounds (BZd9 (Q:=fun e s=>K e s.tm s.hp s.b) l ly hl fun i=>hK i _ rfl)
theorem AZg9 (l:List AskT) (ly:LayT):wpFn prog ⟨[], [],BBy9,y,false⟩ 100 f40 [.d (.sl 3 (rowsA l)), .fn (.func 80) [] [.rptr [i64 ly.no,i64 ly.da]]] b R=(∃(l0:List AskT) (ly1:LayT),Zat ARq9=Zat ARq9∧(Zab::Zax (Fn.func 80) [] (Qz13 ly)::bds 3 (Zae (Zdy (.slice none 0 0))::Zab::Zab::Zae (Zan 3 (rowsA l))::Zae (i64 ((Zaa (rowsA l):Nat):Int))::Zae (i64 0)::bds 12 []))=(Zab::Zax (Fn.func 80) [] (Qz13 ly1)::bds 3 (Zae (Zdy (.slice none 0 0))::Zab::Zab::Zae (Zan 3 (rowsA l0))::Zae (i64 ((Zaa (rowsA l0):Nat):Int))::Zae (i64 0)::bds 12 []))∧([]:List Blk)= []∧Zaa l0<1000000∧∀(i:Int) (r:List AskT),r=Zce (fun (x2:AskT)=>ABw9 (Zcr x2) (Zgd x2) (Zfp x2) ly1) l0→R (.d (Zan 3 (rowsA r))) b):=by kernel_rfl
theorem BDz9 (l:List AskT) (ly:LayT) (hl:l.length<1000000):PCall prog 40 [.d (.sl 3 (rowsA l)), .fn (.func 80) [] [.rptr [i64 ly.no,i64 ly.da]]] (.d (.sl 3 (rowsA (l.filter (fun x:AskT=>ABw9 x.sl x.of x.pe ly))))):=by
 refine Zga (n:=100) (u:=false) (fun _=>BBy9) mixed Zak Zah (fun Ev=>BBx9) func40 (by rfl) (by rfl) fun Ev bb=> ?_;rw [AZg9];exact ⟨l,ly,rfl,rfl,rfl,hl,fun i r hr=>hr▸ .base LeA.rfl⟩
def AXe9 (args:List AV) (K:AV→Prop):Prop:=∃(l:List AskT) (ly:LayT) (q:List AskT),args= [.d (.sl 3 (rowsA l)), .fn (.func 80) [] [.rptr [i64 ly.no,i64 ly.da]]]∧(l.length<1000000∧q=l.filter (fun x:AskT=>ABw9 x.sl x.of x.pe ly))∧K (.d (.sl 3 (rowsA q)))
theorem AUv9:∀args K,AXe9 args K→∃x,PCall prog 40 args x∧K x:=by
 rintro _ K ⟨l,ly,_,rfl,⟨hl,rfl⟩,hk⟩;exact ⟨_,BDz9 l ly hl,hk⟩
theorem BNh9 (x:GraT) (s:SideT):wpFn prog ⟨[], [],wl,y,false⟩ 100 f106 ([graA x]++ [.rptr [.pt (sideD s)]]) b R=(BIf (Zgg x==Zes s) (R (Zae (bo (decide (Zeh x≥Zgh s)))) b) (R (Zae (bo false)) b)):=by kernel_rfl
theorem BUs9 (x:GraT) (s:SideT):PCall prog 106 ([graA x]++ [.rptr [.pt (sideD s)]]) (.d (bo ((fun x:GraT=>x.pe==s.me&&decide (x.un≥s.fr)) x))):=by
 refine Zbf (n:=100) (u:=false) mixed Zak Zah func106 (by rfl) (by rfl) fun Ev bb=> ?_;rw [BNh9];exact Zba (fun h=>by have h':(x.pe==s.me)=true:=h;simp only [h',Zey]) fun h=>by have h':(x.pe==s.me)=false:=h;simp only [h',Zcj]
def BRa9 (args:List AV) (K:AV→Prop):Prop:=∃(x:GraT) (s:SideT) (q:Bool),args= [graA x]++ [.rptr [.pt (sideD s)]]∧q=(fun x:GraT=>x.pe==s.me&&decide (x.un≥s.fr)) x∧K (.d (bo q))
theorem BIk9:∀args K,BRa9 args K→∃x,PCall prog 106 args x∧K x:=by
 rintro _ K ⟨x,s,_,rfl,rfl,hk⟩;exact ⟨_,BUs9 x s,hk⟩
def BYk9:List (Nat×(List AV→(AV→Prop)→Prop)):= [(106,BRa9)]
theorem BOo9:AAc9 prog BYk9:=Zaj BIk9 Zak
noncomputable def ARr9:Code:=sub [1,1,0,1,2,3] (code f77)
def AKz9 (l:List GraT) (s:SideT) (acc:AV) (n i:Int):List AV:= [.bad, .fn (.func 106) [] [.rptr [.pt (sideD s)]], .bad, .bad, .bad,acc, .bad, .bad, .d (.sl 5 (rowsG l)), .d (i64 n), .d (i64 i)]++Zap 12 .bad
theorem CBn9 (l:List GraT) (s:SideT) (xs:List (List Dv)) (n i:Int):wpc prog ⟨BYk9, [],wl,y,false⟩ 100 ARr9 (AKz9 l s (.own 59 5 xs) n i) [] b (maskK 0 [1,5,8,9,10] K)=(BIf (decide (i<n)) (BIf (true&&decide (0≤i)) (∃(x0:Int) (x1:Int) (x2:Int) (x3:Int) (x4:Int),(rowsG l)[Zam i]? =some (Qz41 x0 x1 x2 x3 x4)∧∃(x7:GraT) (s8:SideT) (q9:Bool), [Zaq (Qz22 x0 x1 x2 x3 x4),Zag [Zdr (Qz2 s)]]= [Zaq (Qz5 x7),Zag [Zdr (Qz2 s8)]]∧q9=(Zgg x7==Zes s8&&decide (Zeh x7≥Zgh s8))∧BIf q9 (BIf (true&&decide ((Zaa xs+1)*40≤140737488355328)) (K .normal (Zab::Zax (Fn.func 106) [] [Zag [Zdr (Qz2 s)]]::bds 3 (Zgq 59 5 (xs++ [Qz41 x0 x1 x2 x3 x4])::Zab::Zab::Zae (Zan 5 (rowsG l))::Zae (i64 n)::Zae (i64 (Zad .i64 (i+1)))::bds 12 [])) [] b) False) (K .normal (Zab::Zax (Fn.func 106) [] [Zag [Zdr (Qz2 s)]]::bds 3 (Zgq 59 5 xs::Zab::Zab::Zae (Zan 5 (rowsG l))::Zae (i64 n)::Zae (i64 (Zad .i64 (i+1)))::bds 12 [])) [] b)) False) (K (Zbj 0) (Zab::Zax (Fn.func 106) [] [Zag [Zdr (Qz2 s)]]::bds 3 (Zgq 59 5 xs::Zab::Zab::Zae (Zan 5 (rowsG l))::Zae (i64 n)::Zae (i64 i)::bds 12 [])) [] b)):=by kernel_rfl
theorem BZe9 {Ev:Env prog} {b:Ev.β} {Q:Exit→St Ev.β→Prop} (l:List GraT) (s:SideT) (hl:l.length<1000000) (hQ:∀i:Int,Q (.exit 0) ⟨AKz9 l s (.own 59 5 (rowsG (l.filter (fun x:GraT=>x.pe==s.me&&decide (x.un≥s.fr))))) l.length i, [],b⟩):
 WR Ev ARr9 (l.length+1) ⟨AKz9 l s (.own 59 5 (rowsG [])) l.length (0:Nat), [],b⟩ Q:=by
 refine WR.gathL (X:=⟨BYk9, [],wlW Ev,Ev.Y,false⟩) (k:=100) [1,5,8,9,10] mixed (CX.Ok.of BOo9 Zah) l (AJx9 (fun x:GraT=>x.pe==s.me&&decide (x.un≥s.fr))) (AKf9 _) (fun acc i=>AKz9 l s (.own 59 5 (rowsG acc)) l.length (i:Nat)) [] 0 (fun i x acc hi hx ha K k1=> ?_) (fun acc K k1=> ?_) ?_
 ·refine Eq.mpr (CBn9 _ _ _ K l s _ l.length i) ?_;rw [ABj9 hx];refine Zaz (by simp;omega) (Zaz (natI i) ⟨_,_,_,_,_,rfl,x,s,_,rfl,rfl,Zba (fun g=>Zaz (by simp [AAf9];omega) ?_) fun g=> ?_⟩)
  ·rw [AOv9 (p:=(fun x:GraT=>x.pe==s.me&&decide (x.un≥s.fr))) (x:=x) g,AOr9] at k1;rw [wrapN (by omega)];exact k1
  ·rw [AOw9 (p:=(fun x:GraT=>x.pe==s.me&&decide (x.un≥s.fr))) (x:=x) g,Zdu] at k1;rw [wrapN (by omega)];exact k1
 ·refine Eq.mpr (CBn9 _ _ _ K l s _ l.length _) ?_;exact Zda (by simp) k1
 ·rw [AEi9];exact hQ _
def BCa9 {β:Type}:WLT β:=fun cd tm hp b K=>∃(l:List GraT) (s:SideT),cd= .loop ARr9∧AAv9 [1,5,8,9,10] 0 tm=AKz9 l s nilA (rowsG l).length 0∧hp= []∧l.length<1000000∧
 ∀(i:Int) (r:List GraT),r=l.filter (fun x:GraT=>x.pe==s.me&&decide (x.un≥s.fr))→K (.exit 0) (AKz9 l s (.own 59 5 (rowsG r)) l.length i) [] b
theorem BBz9 {Ev:Env prog} (c:Code) (tm:List AV) (hp:List Blk) (b:Ev.β) (K:Exit→List AV→List Blk→Ev.β→Prop) (h:BCa9 c tm hp b K):W Ev c ⟨tm,hp,b⟩ (fun e s=>K e s.tm s.hp s.b):=by
 obtain ⟨l,s,rfl,htm,rfl,hl,hK⟩:=h;rw [AAf9] at htm;refine W.cast (htm▸AAb9 _ tm 0) (Zbp _) ?_;refine W.cast (tm':=AKz9 l s (.own 59 5 (rowsG [])) l.length 0) (LeL.at [_,_,_,_,_] _ (LeA.nilOwn rfl)) (Zbp _) ?_;exact W.rounds (BZe9 (Q:=fun e s=>K e s.tm s.hp s.b) l s hl fun i=>hK i _ rfl)
theorem AZh9 (l:List GraT) (s:SideT):wpFn prog ⟨[], [],BCa9,y,false⟩ 100 f77 [.d (.sl 5 (rowsG l)), .fn (.func 106) [] [.rptr [.pt (sideD s)]]] b R=(∃(l0:List GraT) (s1:SideT),Zat ARr9=Zat ARr9∧(Zab::Zax (Fn.func 106) [] [Zag [Zdr (Qz2 s)]]::bds 3 (Zae (Zdy (.slice none 0 0))::Zab::Zab::Zae (Zan 5 (rowsG l))::Zae (i64 ((Zaa (rowsG l):Nat):Int))::Zae (i64 0)::bds 12 []))=(Zab::Zax (Fn.func 106) [] [Zag [Zdr (Qz2 s1)]]::bds 3 (Zae (Zdy (.slice none 0 0))::Zab::Zab::Zae (Zan 5 (rowsG l0))::Zae (i64 ((Zaa (rowsG l0):Nat):Int))::Zae (i64 0)::bds 12 []))∧([]:List Blk)= []∧Zaa l0<1000000∧∀(i:Int) (r:List GraT),r=Zce (fun (x2:GraT)=>Zgg x2==Zes s1&&decide (Zeh x2≥Zgh s1)) l0→R (.d (Zan 5 (rowsG r))) b):=by kernel_rfl
theorem BEa9 (l:List GraT) (s:SideT) (hl:l.length<1000000):PCall prog 77 [.d (.sl 5 (rowsG l)), .fn (.func 106) [] [.rptr [.pt (sideD s)]]] (.d (.sl 5 (rowsG (l.filter (fun x:GraT=>x.pe==s.me&&decide (x.un≥s.fr)))))):=by
 refine Zga (n:=100) (u:=false) (fun _=>BCa9) mixed Zak Zah (fun Ev=>BBz9) func77 (by rfl) (by rfl) fun Ev bb=> ?_;rw [AZh9];exact ⟨l,s,rfl,rfl,rfl,hl,fun i r hr=>hr▸ .base LeA.rfl⟩
def AXf9 (args:List AV) (K:AV→Prop):Prop:=∃(l:List GraT) (s:SideT) (q:List GraT),args= [.d (.sl 5 (rowsG l)), .fn (.func 106) [] [.rptr [.pt (sideD s)]]]∧(l.length<1000000∧q=l.filter (fun x:GraT=>x.pe==s.me&&decide (x.un≥s.fr)))∧K (.d (.sl 5 (rowsG q)))
theorem AUw9:∀args K,AXf9 args K→∃x,PCall prog 77 args x∧K x:=by
 rintro _ K ⟨l,s,_,rfl,⟨hl,rfl⟩,hk⟩;exact ⟨_,BEa9 l s hl,hk⟩
def TGd:List (Nat×(List AV→(AV→Prop)→Prop)):= [(77,AXf9)]
theorem CIy9:AAc9 prog TGd:=Zaj AUw9 Zak
theorem BFf9 (s:SideT) (n:NearT):wpFn prog ⟨TGd, [],wl,y,false⟩ 100 f53 [.rptr (sideD s),nearA n] b R=(∃(l0:List GraT) (s1:SideT) (q2:List GraT), [Zae (Zan 5 (rowsG (Zck n))),Zax (Fn.func 106) [] [Zag [Zdr (Qz2 s)]]]= [Zae (Zan 5 (rowsG l0)),Zax (Fn.func 106) [] [Zag [Zdr (Qz2 s1)]]]∧(Zaa l0<1000000∧q2=Zce (fun (x3:GraT)=>Zgg x3==Zes s1&&decide (Zeh x3≥Zgh s1)) l0)∧R (.d (Zan 5 (rowsG q2))) b):=by kernel_rfl
def AEb9 (s:SideT) (n:NearT):List GraT:=n.gs.filter (fun x=>x.pe==s.me&&decide (x.un≥s.fr))
theorem BLk9 (s:SideT) (n:NearT) (h:n.gs.length<1000000):PCall prog 53 [.rptr (sideD s),nearA n] (.d (.sl 5 (rowsG (AEb9 s n)))):=by
 refine Zbf (n:=100) (u:=false) mixed CIy9 Zah func53 (by rfl) (by rfl) fun Ev bb=> ?_;rw [BFf9];exact ⟨n.gs,s,_,rfl,⟨h,rfl⟩,rfl⟩
def BHo9 (args:List AV) (K:AV→Prop):Prop:=∃(s:SideT) (n:NearT) (q:List GraT),args= [.rptr (sideD s),nearA n]∧(n.gs.length<1000000∧q=AEb9 s n)∧K (.d (.sl 5 (rowsG q)))
theorem BAo9:∀args K,BHo9 args K→∃x,PCall prog 53 args x∧K x:=by
 rintro _ K ⟨s,n,_,rfl,⟨h,rfl⟩,hk⟩;exact ⟨_,BLk9 s n h,hk⟩
def TFi:List (Nat×(List AV→(AV→Prop)→Prop)):= [(82,BHk9)]
theorem CIz9:AAc9 prog TFi:=Zaj BAm9 Zak
theorem CDr9 (s:SideT) (pe:Int):wpFn prog ⟨TFi, [],wl,y,false⟩ 100 f37 [.rptr (sideD s), .d (i64 pe)] b R=(∃(l0:List NearT) (pe1:Int) (q2:Int), [Zae (Zan 31 (rowsN (Zau s))),Zax (Fn.func 83) [] [Zag [i64 pe]]]= [Zae (Zan 31 (rowsN l0)),Zax (Fn.func 83) [] [Zag [i64 pe1]]]∧(Zaa l0≤9223372036854775807∧q2=idxS (fun (x3:NearT)=>Zdm x3==pe1) l0)∧BIf (decide (q2<(0:Int))) (R (.tup [Zaq [Zae (i64 0),Zae (i64 0),Zae (i64 0),Zae (i64 0),Zae (i64 0),Zae (i64 0),Zae (i64 0),Zae (i64 0),Zae (i64 0),Zae (i64 0),Zae (i64 0),Zae (i64 0),Zae (Zdy (.slice none 0 0)),Zae (Zdy (.slice none 0 0)),Zae (Zdy (.slice none 0 0)),Zae (Zdy (.slice none 0 0)),Zae (bo false),Zae (Zdy (.slice none 0 0)),Zae (Zdy (.slice none 0 0)),Zae (Zdy (.slice none 0 0)),Zae (i64 0),Zae (i64 0),Zae (u64 0),Zae (i64 0),Zae (i64 0),Zae (i64 0),Zae (i64 0),Zae (i64 0),Zae (Zdy (.slice none 0 0)),Zae (Zdy (.slice none 0 0)),Zae (bo false)],Zae (bo false)]) b) (BIf (true&&decide (0≤q2)) (∃(n4:NearT),(rowsN (Zau s))[Zam q2]? =some (nearR n4)∧R (.tup [nearA n4,Zae (bo true)]) b) False)):=by kernel_rfl
theorem AMf9 {α:Type} (p:α→Bool) (l:List α):(l.findIdx? p=none∧l.find? p=none)∨∃j x,l.findIdx? p=some j∧l[j]? =some x∧l.find? p=some x∧p x=true:=by
 induction l with
 |nil=>exact .inl ⟨rfl,rfl⟩
 | cons a r ih=>
  rw [Zez,List.find?_cons];by_cases h:p a=true
  ·exact .inr ⟨0,a,by simp [h],by simp,by simp [h],h⟩
  ·simp only [Bool.not_eq_true] at h;rcases ih with ⟨h1,h2⟩|⟨j,x,h1,h2,h3,h4⟩
   ·exact .inl ⟨by simp [h,h1],by simp [h,h2]⟩
   ·exact .inr ⟨j+1,x,by simp [h,h1],by simpa using h2,by simp [h,h3],h4⟩
def zeroN:NearT:=⟨0,0, [], [], [],0,0,0,0,0,0,0,0,0,0, [],false, [], [], [],0,0,0,0,0,0,0,0, [], [],false⟩
def sFind (s:SideT) (pe:Int):Option NearT:=s.ns.find? fun x=>x.fm==pe
def nearO (o:Option NearT):NearT:=match o with|some n=>n|none=>zeroN
theorem BYy9 (e:Bool):LeV (AV.tup [Zaq [Zae (i64 (0:Int)),Zae (i64 (0:Int)),Zae (i64 (0:Int)),Zae (i64 (0:Int)),Zae (i64 (0:Int)),Zae (i64 (0:Int)),Zae (i64 (0:Int)),Zae (i64 (0:Int)),Zae (i64 (0:Int)),Zae (i64 (0:Int)),Zae (i64 (0:Int)),Zae (i64 (0:Int)),Zae (Zdy (Zcw none 0 0)),Zae (Zdy (Zcw none 0 0)),Zae (Zdy (Zcw none 0 0)),Zae (Zdy (Zcw none 0 0)),Zae (bo false),Zae (Zdy (Zcw none 0 0)),Zae (Zdy (Zcw none 0 0)),Zae (Zdy (Zcw none 0 0)),Zae (i64 (0:Int)),Zae (i64 (0:Int)),Zae (u64 (0:Int)),Zae (i64 (0:Int)),Zae (i64 (0:Int)),Zae (i64 (0:Int)),Zae (i64 (0:Int)),Zae (i64 (0:Int)),Zae (Zdy (Zcw none 0 0)),Zae (Zdy (Zcw none 0 0)),Zae (bo false)],Zae (bo e)]) (.tup [nearA zeroN, .d (bo e)]):=
 LeV.tups (.cons (LeV.aggs (by repeat' (first|exact .nil|refine .cons .rfl ?_|refine .cons (.nil rfl) ?_))) (.cons .rfl .nil))
theorem CHh9 (s:SideT) (pe:Int) (h:s.ns.length≤9223372036854775807):PCall prog 37 [.rptr (sideD s), .d (i64 pe)] (.tup [nearA (nearO (sFind s pe)), .d (bo (sFind s pe).isSome)]):=by
 refine PCall.ofFnV (n:=100) (u:=false) (fun _=>fun _ _ _ _ _=>False) mixed CIz9 Zah (fun Ev _ _ _ _ _ h=>h.elim) func37 (by rfl) (by rfl) fun Ev bb=> ?_;rw [CDr9];refine ⟨s.ns,pe,_,rfl,⟨h,rfl⟩, ?_⟩;rcases AMf9 (fun x:NearT=>x.fm==pe) s.ns with ⟨h1,h2⟩|⟨j,x,h1,h2,h3,_⟩
 ·rw [ABb9 h1,show sFind s pe=none from h2];exact Zaz (by decide) (BYy9 false)
 ·rw [AAj9 h1,show sFind s pe=some x from h3,ABc9 h2];exact Zda (by simp) (Zaz (natI j) ⟨_,rfl, .rfl⟩)
def cFind (args:List AV) (K:AV→Prop):Prop:=∃(s:SideT) (pe:Int) (q:NearT) (e:Bool),args= [.rptr (sideD s), .d (i64 pe)]∧(s.ns.length≤9223372036854775807∧q=nearO (sFind s pe)∧e=(sFind s pe).isSome)∧K (.tup [nearA q, .d (bo e)])
theorem AVd9:∀args K,cFind args K→∃x,PCall prog 37 args x∧K x:=by
 rintro _ K ⟨s,pe,_,_,rfl,⟨h,rfl,rfl⟩,hk⟩;exact ⟨_,CHh9 s pe h,hk⟩
theorem BWe9 (t:TabT):wpFn prog ⟨[], [],wl,y,false⟩ 100 f34 [tabA t] b R=(BIf (decide (((Zaa (rowsU (Zdl t)):Nat):Int)≤(70:Int))) (BIf (decide (((Zaa (rowsG (Zdb t)):Nat):Int)≤(70:Int))) (R (.d (bo (decide (((Zaa (rowsA (Zdh t)):Nat):Int)≤(70:Int))))) b) (R (.d (bo false)) b)) (R (.d (bo false)) b)):=by kernel_rfl
def APm9 (t:TabT):Bool:=decide (t.us.length≤70)&&(decide (t.gs.length≤70)&&decide (t.ak.length≤70))
theorem BFt9 {t:TabT}:APm9 t=true↔t.us.length≤70∧t.gs.length≤70∧t.ak.length≤70:=by simp [APm9]
theorem CCq9 (t:TabT):PCall prog 34 [tabA t] (.d (bo (APm9 t))):=by
 refine Zbf (n:=100) (u:=false) mixed Zak Zah func34 (by rfl) (by rfl) fun Ev bb=> ?_;rw [BWe9];simp only [AAh9,AAf9,AAn9];have e:∀n:Nat,decide (((n:Nat):Int)≤70)=decide (n≤70):=fun n=>by rw [decide_eq_decide];omega
 simp only [e];refine Zba (fun h1=> ?_) fun h1=> ?_
 ·refine Zba (fun h2=> ?_) fun h2=> ?_
  ·rw [APm9,h1,h2];rfl
  ·rw [APm9,h1,h2];rfl
 ·rw [APm9,h1];rfl
def CEv9 (args:List AV) (K:AV→Prop):Prop:=∃(t:TabT) (q:Bool),args= [tabA t]∧q=APm9 t∧K (.d (bo q))
theorem BOb9:∀args K,CEv9 args K→∃x,PCall prog 34 args x∧K x:=by
 rintro _ K ⟨t,_,rfl,rfl,hk⟩;exact ⟨_,CCq9 t,hk⟩
noncomputable def lpNb:Code:=sub [1,0,1,2,3] (code f69)
def tmNb (l:List NearT) (me fr i:Int):List AV:= [.bad, .d (i64 me), .d (.sl 31 (rowsN l)), .d (i64 fr), .ptr 0 0, .bad, .bad, .bad, .d (bo false), .d (i64 i)]++Zap 56 .bad
theorem BMd9 (n:NearT) (fr:Int):wpFn prog ⟨[], [],wl,y,false⟩ 100 f27 [nearA n, .d (i64 fr)] b R=(R (Zae (bo (decide (Zad Zbc (Zfd n+(1:Int))≥fr)))) b):=by kernel_rfl
abbrev Qz27 (v0:Int) (v1:List NearT) (v2:Int) (v3:Int):=Zab::Zae (i64 v0)::Zae (Zan 31 (rowsN v1))::Zae (i64 v2)::Zaf 0 0::bds 3 (Zae (bo false)::Zae (i64 v3)::bds 56 [])
theorem rNb (ly:LayT) (l:List NearT) (me fr i:Int):wpc prog ⟨[], [],wl,y,false⟩ 100 lpNb (tmNb l me fr i) [layB ly] b (maskK 1 [1,2,3,4,8,9] K)=(BIf (decide (i<((Zaa (rowsN l):Nat):Int))) (BIf (true&&decide (0≤i)) (∃(n0:NearT),(rowsN l)[Zam i]? =some (nearR n0)∧BIf (decide (Zdm n0<(0:Int))) (K .ret (Qz27 me l fr i) [Blk.mk (Qz3 ly) false false 0] b) (BIf (decide (Zdm n0≥Zfc ly)) (K .ret (Qz27 me l fr i) [Blk.mk (Qz3 ly) false false 0] b) (BIf (Zdm n0==me) (K .ret (Qz27 me l fr i) [Blk.mk (Qz3 ly) false false 0] b) (BIf (true&&decide (0≤i)) (∃(n3:NearT),(rowsN l)[Zam i]? =some (nearR n3)∧BIf (decide (Zfd n3<(0:Int))) (K .ret (Qz27 me l fr i) [Blk.mk (Qz3 ly) false false 0] b) (BIf (true&&decide (0≤i)) (∃(n6:NearT),(rowsN l)[Zam i]? =some (nearR n6)∧BIf (decide (Zfd n6>fr)) (K .ret (Qz27 me l fr i) [Blk.mk (Qz3 ly) false false 0] b) (BIf (decide (i>(0:Int))) (BIf (true&&decide ((0:Int)≤Zad .i64 (i - 1))) (∃(n9:NearT),(rowsN l)[Zam (Zad .i64 (i - 1))]? =some (nearR n9)∧BIf (decide (Zdm n9≥Zdm n0)) (K .ret (Qz27 me l fr i) [Blk.mk (Qz3 ly) false false 0] b) (K .normal (Zab::Zae (i64 me)::Zae (Zan 31 (rowsN l))::Zae (i64 fr)::Zaf 0 0::bds 3 (Zae (bo false)::Zae (i64 (Zad .i64 (i+1)))::bds 56 [])) [Blk.mk (Qz3 ly) false false 0] b)) False) (K .normal (Zab::Zae (i64 me)::Zae (Zan 31 (rowsN l))::Zae (i64 fr)::Zaf 0 0::bds 3 (Zae (bo false)::Zae (i64 (Zad .i64 (i+1)))::bds 56 [])) [Blk.mk (Qz3 ly) false false 0] b))) False)) False)))) False) (K (Zbj 0) (Qz27 me l fr i) [Blk.mk (Qz3 ly) false false 0] b)):=by kernel_rfl
def ASf9 (n:NearT) (fr:Int):Bool:=decide (Zad Zbc (n.fr+1)≥fr)
theorem BUa9 (n:NearT) (fr:Int):PCall prog 27 [nearA n, .d (i64 fr)] (.d (bo (ASf9 n fr))):=by
 refine Zbf (n:=100) (u:=false) mixed Zak Zah func27 (by rfl) (by rfl) fun Ev bb=> ?_;rw [BMd9];rfl
def BQj9 (args:List AV) (K:AV→Prop):Prop:=∃(n:NearT) (fr:Int) (q:Bool),args= [nearA n, .d (i64 fr)]∧q=ASf9 n fr∧K (.d (bo q))
theorem BGz9:∀args K,BQj9 args K→∃x,PCall prog 27 args x∧K x:=by
 rintro _ K ⟨n,fr,_,rfl,rfl,hk⟩;exact ⟨_,BUa9 n fr,hk⟩
def AAe9 {α:Type}:Option α→List α→List (Option α×α)
 |_, []=> []
 |o,x::r=>(o,x)::AAe9 (some x) r
theorem ADw9 {α:Type} (l:List α):∀o,(AAe9 o l).length=l.length:=by
 induction l with
 |nil=>intro o;rfl
 |cons x r ih=>intro o;simp [AAe9,ih]
theorem AEr9 {α:Type} (l:List α):∀(o:Option α) (i:Nat) (p:Option α×α),(AAe9 o l)[i]? =some p→l[i]? =some p.2∧(i=0→p.1=o)∧∀j,i=j+1→∃w,p.1=some w∧l[j]? =some w:=by
 induction l with
 |nil=>intro o i p h;simp [AAe9] at h
 | cons x r ih=>
  intro o i p h;cases i with
  | zero=>
   simp only [AAe9,List.getElem?_cons_zero,Option.some.injEq] at h;subst h;exact ⟨rfl,fun _=>rfl,fun j hj=>by omega⟩
  | succ i=>
   simp only [AAe9,List.getElem?_cons_succ] at h;obtain ⟨h1,h2,h3⟩:=ih (some x) i p h;refine ⟨by simpa using h1,fun hh=>by omega,fun j hj=> ?_⟩;cases i with
   |zero=>exact ⟨x,h2 rfl,by rw [show j=0 by omega];rfl⟩
   | succ i=>
    obtain ⟨w,hw,hl⟩:=h3 i rfl;exact ⟨w,hw,by rw [show j=i+1 by omega];simpa using hl⟩
def ARf9 (o:Option NearT) (fm:Int):Bool:=match o with|some w=>decide (w.fm≥fm)|none=>false
def badN (ly:LayT) (me fr:Int) (p:Option NearT×NearT):Bool:=decide (p.2.fm<0)||(decide (p.2.fm≥ly.no)||(p.2.fm==me||(decide (p.2.fr<0)||(decide (p.2.fr>fr)||ARf9 p.1 p.2.fm))))
theorem wrNb {Ev:Env prog} {b:Ev.β} {Q:Exit→St Ev.β→Prop} (ly:LayT) (l:List NearT) (me fr:Int) (hl:l.length≤9223372036854775807) (h1:(AAe9 none l).any (badN ly me fr)=false→∀i:Int,Q (.exit 0) ⟨tmNb l me fr i, [layB ly],b⟩) (h2:(AAe9 none l).any (badN ly me fr)=true→∀i:Int,Q .ret ⟨tmNb l me fr i, [layB ly],b⟩):
 WR Ev lpNb (l.length+1) ⟨tmNb l me fr (0:Nat), [layB ly],b⟩ Q:=by
 have e:=ADw9 l none;rw [←e];refine WR.scanL (X:=⟨[], [],wlW Ev,Ev.Y,false⟩) (k:=100) [1,2,3,4,8,9] mixed (CX.Ok.of Zak Zah) (AAe9 none l) (badN ly me fr) (fun i=>tmNb l me fr (i:Nat)) (fun i=>tmNb l me fr (i:Nat)) [layB ly] 0 (fun i x hi hx K k1 k2=> ?_) (fun K k1=> ?_) (fun h=>h1 h _) fun h i=>h2 h _
 ·obtain ⟨g1,g2,g3⟩:=AEr9 l none i x hx;obtain ⟨o,x⟩:=x;simp only at g1 g2 g3;refine Eq.mpr (rNb _ _ _ K ly l me fr i) ?_;rw [ABm9];refine Zaz (by simp;omega) (Zaz (natI i) ?_);refine ⟨_,ABc9 g1, ?_⟩;refine Zba (fun c1=>k1 (by simp [badN,c1])) fun c1=>Zba (fun c2=>k1 (by simp [badN,c2])) fun c2=>Zba (fun c3=>k1 (by rw [badN];simp only [show (x.fm==me)=true from c3,Zei,Zfb])) fun c3=>Zaz (natI i) ⟨_,ABc9 g1,Zba (fun c4=>k1 (by simp [badN,c4])) fun c4=>Zaz (natI i) ⟨_,ABc9 g1,Zba (fun c5=>k1 (by simp [badN,c5])) fun c5=> ?_⟩⟩;have hb:badN ly me fr (o,x)=ARf9 o x.fm:=by rw [badN,c1,c2,show (x.fm==me)=false from c3,c4,c5];rfl
  cases i with
  | zero=>
   refine Zda (by decide) ?_;rw [wrapN (by omega)];exact k2 (by rw [hb,g2 rfl];rfl)
  | succ j=>
   obtain ⟨w,hw,hj⟩:=g3 j rfl;refine Zaz (by simp) ?_;rw [show Zad Zbc (((j+1:Nat):Int) - 1)=((j:Nat):Int) by rw [AAx9 (by omega) (by omega)];omega];refine Zaz (natI j) ⟨_,ABc9 hj,Zba (fun c6=>k1 (by rw [hb,hw];exact c6)) fun c6=> ?_⟩;rw [wrapN (by omega)];exact k2 (by rw [hb,hw];exact c6)
 ·refine Eq.mpr (rNb _ _ _ K ly l me fr _) ?_;rw [ABm9];exact Zda (by simp [e]) k1
def wlNb {β:Type}:WLT β:=fun cd tm hp b K=>∃(ly:LayT) (l:List NearT) (me fr:Int) (q:Bool),cd= .loop lpNb∧AAv9 [1,2,3,4,8,9] 0 tm=tmNb l me fr 0∧hp= [layB ly]∧(l.length≤9223372036854775807∧q=(AAe9 none l).any (badN ly me fr))∧BIf q (∀i:Int,K .ret (tmNb l me fr i) [layB ly] b) (∀i:Int,K (.exit 0) (tmNb l me fr i) [layB ly] b)
theorem CAa9 {Ev:Env prog} (c:Code) (tm:List AV) (hp:List Blk) (b:Ev.β) (K:Exit→List AV→List Blk→Ev.β→Prop) (h:wlNb c tm hp b K):W Ev c ⟨tm,hp,b⟩ (fun e s=>K e s.tm s.hp s.b):=by
 obtain ⟨ly,l,me,fr,q,rfl,htm,rfl,⟨hl,hz⟩,hK⟩:=h;refine W.cast (htm▸AAb9 _ tm 0) (Zbp _) ?_;exact W.rounds (wrNb (Q:=fun e s=>K e s.tm s.hp s.b) ly l me fr hl (fun h=>by rw [hz,h] at hK;exact hK) fun h=>by rw [hz,h] at hK;exact hK)
abbrev Qz82 (v0:Int) (v1:List NearT) (v2:Int):=Zab::Zae (i64 v0)::Zae (Zan 31 (rowsN v1))::Zae (i64 v2)::Zaf 0 0::bds 3 (Zae (bo false)::Zae (i64 0)::bds 56 [])
theorem nb_nf (ly:LayT) (l:List NearT) (me fr:Int):wpFn prog ⟨[], [],wlNb,y,false⟩ 100 f69 [layA ly, .d (i64 me), .d (.sl 31 (rowsN l)), .d (i64 fr)] b R=(∃(ly0:LayT) (l1:List NearT) (me2:Int) (fr3:Int) (q4:Bool),Zat lpNb=Zat lpNb∧(Qz82 me l fr)=(Qz82 me2 l1 fr3)∧ [Blk.mk (Qz3 ly) false false 0]= [Blk.mk (Qz3 ly0) false false 0]∧(Zaa l1≤9223372036854775807∧q4=Zcv (AAe9 none l1) (badN ly0 me2 fr3))∧BIf q4 (∀(i:Int),R (.d (bo false)) b) (∀(i:Int),R (.d (bo true)) b)):=by kernel_rfl
def nbS (ly:LayT) (l:List NearT) (me fr:Int):Bool:= !(AAe9 none l).any (badN ly me fr)
theorem pcNb (ly:LayT) (l:List NearT) (me fr:Int) (hl:l.length≤9223372036854775807):PCall prog 69 [layA ly, .d (i64 me), .d (.sl 31 (rowsN l)), .d (i64 fr)] (.d (bo (nbS ly l me fr))):=by
 refine Zcu (n:=100) (u:=false) (fun _=>wlNb) mixed Zak Zah (fun Ev=>CAa9) func69 (by rfl) (by rfl) fun Ev bb=> ?_;rw [nb_nf];exact ⟨ly,l,me,fr,_,rfl,rfl,rfl,⟨hl,rfl⟩,Zba (fun h i=>by rw [nbS,h];rfl) fun h i=>by rw [nbS,h];rfl⟩
def cNb (args:List AV) (K:AV→Prop):Prop:=∃(ly:LayT) (l:List NearT) (me fr:Int) (q:Bool),args= [layA ly, .d (i64 me), .d (.sl 31 (rowsN l)), .d (i64 fr)]∧(l.length≤9223372036854775807∧q=nbS ly l me fr)∧K (.d (bo q))
theorem CHx9:∀args K,cNb args K→∃x,PCall prog 69 args x∧K x:=by
 rintro _ K ⟨ly,l,me,fr,_,rfl,⟨hl,rfl⟩,hk⟩;exact ⟨_,pcNb ly l me fr hl,hk⟩
noncomputable def lpFo0:Code:=sub [1,0,1,2,3,1,0,2,1,2,3] (code f21)
def tmFo (l:List NearT) (me:Int) (q:Bool) (i:Int) (k:AV):List AV:= [.bad, .d (.sl 31 (rowsN l)), .bad, .d (i64 me), .ptr 0 0, .bad, .ptr 1 0, .bad, .d (bo q), .d (i64 i),k]++Zap 44 .bad
abbrev Qz26 (v0:LayT) (v1:Int) (v2:Int):= [Blk.mk (Qz3 v0) false false 0,Blk.mk [Zae (i64 v1),Zae (i64 v2)] false false 0]
theorem rFo0 (ly:LayT) (l:List NearT) (sl of me i k:Int):wpc prog ⟨TV12, [],wl,y,false⟩ 100 lpFo0 (tmFo l me false i (.d (i64 k))) [layB ly,cellB sl of] b (maskK 2 [1,3,4,6,8,9,10] K)=(BIf (true&&decide (0≤i)) (∃(n0:NearT),(rowsN l)[Zam i]? =some (nearR n0)∧BIf (decide (k<((Zaa (rowsG (Zck n0)):Nat):Int))) (BIf (true&&decide (0≤i)) (∃(n3:NearT),(rowsN l)[Zam i]? =some (nearR n3)∧BIf (true&&decide (0≤k)) (∃(x6:Int) (x7:Int) (x8:Int) (x9:Int) (x10:Int),(rowsG (Zck n3))[Zam k]? =some (Qz41 x6 x7 x8 x9 x10)∧∃(u13:GraT) (l14:LayT) (z15:Bool), [Zaq (Qz22 x6 x7 x8 x9 x10),Zaq (Qz3 ly)]= [Zaq (Qz5 u13),Zaq (Qz3 l14)]∧z15=graOk u13 l14∧BIf z15 (BIf (x6==sl&&(x7==of&&true)) (BIf (x8 !=me) (K .ret (Zab::Zae (Zan 31 (rowsN l))::Zab::Zae (i64 me)::Zaf 0 0::Zab::Zaf 1 0::Zab::Zae (bo true)::Zae (i64 i)::Zae (i64 k)::bds 44 []) (Qz26 ly sl of) b) (K .normal (Zab::Zae (Zan 31 (rowsN l))::Zab::Zae (i64 me)::Zaf 0 0::Zab::Zaf 1 0::Zab::Zae (bo false)::Zae (i64 i)::Zae (i64 (Zad .i64 (k+1)))::bds 44 []) (Qz26 ly sl of) b)) (K .normal (Zab::Zae (Zan 31 (rowsN l))::Zab::Zae (i64 me)::Zaf 0 0::Zab::Zaf 1 0::Zab::Zae (bo false)::Zae (i64 i)::Zae (i64 (Zad .i64 (k+1)))::bds 44 []) (Qz26 ly sl of) b)) (K .normal (Zab::Zae (Zan 31 (rowsN l))::Zab::Zae (i64 me)::Zaf 0 0::Zab::Zaf 1 0::Zab::Zae (bo false)::Zae (i64 i)::Zae (i64 (Zad .i64 (k+1)))::bds 44 []) (Qz26 ly sl of) b)) False) False) (K (Zbj 2) (Zab::Zae (Zan 31 (rowsN l))::Zab::Zae (i64 me)::Zaf 0 0::Zab::Zaf 1 0::Zab::Zae (bo false)::Zae (i64 i)::Zae (i64 k)::bds 44 []) (Qz26 ly sl of) b)) False):=by kernel_rfl
def forG (ly:LayT) (sl of me:Int) (g:GraT):Bool:=graOk g ly&&((g.sl==sl&&g.of==of)&& !(g.pe==me))
theorem wrFo0 {Ev:Env prog} {b:Ev.β} {Q:Exit→St Ev.β→Prop} (ly:LayT) (l:List NearT) (sl of me:Int) (i:Nat) (x:NearT) (hx:l[i]? =some x) (hl:x.gs.length≤9223372036854775807) (h1:x.gs.any (forG ly sl of me)=false→∀k:Int,Q (.exit 2) ⟨tmFo l me false i (.d (i64 k)), [layB ly,cellB sl of],b⟩) (h2:x.gs.any (forG ly sl of me)=true→∀k:Int,Q .ret ⟨tmFo l me true i (.d (i64 k)), [layB ly,cellB sl of],b⟩):
 WR Ev lpFo0 (x.gs.length+1) ⟨tmFo l me false i (.d (i64 (0:Nat))), [layB ly,cellB sl of],b⟩ Q:=by
 refine WR.scanL (X:=⟨TV12, [],wlW Ev,Ev.Y,false⟩) (k:=100) [1,3,4,6,8,9,10] mixed (CX.Ok.of AGz9 Zah) x.gs (forG ly sl of me) (fun k=>tmFo l me false i (.d (i64 (k:Nat)))) (fun k=>tmFo l me true i (.d (i64 (k:Nat)))) [layB ly,cellB sl of] 2 (fun k g hk hg K k1 k2=> ?_) (fun K k1=> ?_) (fun h=>h1 h _) fun h k=>h2 h _
 ·refine Eq.mpr (rFo0 _ _ _ K ly l sl of me i k) ?_;refine Zaz (natI i) ⟨_,ABc9 hx,Zaz (by rw [AAf9];simp;omega) (Zaz (natI i) ⟨_,ABc9 hx,Zaz (natI k) ⟨_,_,_,_,_,ABj9 hg,g,ly,_,rfl,rfl, ?_⟩⟩)⟩;repeat' (refine Zba (fun _=> ?_) fun _=> ?_)
  all_goals first|exact k1 (by simp_all [forG])|(rw [wrapN (by omega)];exact k2 (by simp_all [forG]))
 ·refine Eq.mpr (rFo0 _ _ _ K ly l sl of me i _) ?_;refine Zaz (natI i) ⟨_,ABc9 hx,Zda (by rw [AAf9];simp) k1⟩
def wlFo0 {β:Type}:WLT β:=fun cd tm hp b K=>∃(ly:LayT) (l:List NearT) (sl of me:Int) (i:Nat) (x:NearT) (q:Bool),cd= .loop lpFo0∧AAv9 [1,3,4,6,8,9,10] 0 tm=tmFo l me false i (.d (i64 0))∧hp= [layB ly,cellB sl of]∧(l[i]? =some x∧x.gs.length≤9223372036854775807∧q=x.gs.any (forG ly sl of me))∧BIf q (∀k:Int,K .ret (tmFo l me true i (.d (i64 k))) [layB ly,cellB sl of] b) (∀k:Int,K (.exit 2) (tmFo l me false i (.d (i64 k))) [layB ly,cellB sl of] b)
theorem BSu9 {Ev:Env prog} (c:Code) (tm:List AV) (hp:List Blk) (b:Ev.β) (K:Exit→List AV→List Blk→Ev.β→Prop) (h:wlFo0 c tm hp b K):W Ev c ⟨tm,hp,b⟩ (fun e s=>K e s.tm s.hp s.b):=by
 obtain ⟨ly,l,sl,of,me,i,x,q,rfl,htm,rfl,⟨hx,hl,hz⟩,hK⟩:=h;refine W.cast (htm▸AAb9 _ tm 0) (Zbp _) ?_;exact W.rounds (wrFo0 (Q:=fun e s=>K e s.tm s.hp s.b) ly l sl of me i x hx hl (fun h=>by rw [hz,h] at hK;exact hK) fun h=>by rw [hz,h] at hK;exact hK)
noncomputable def lpFo1:Code:=sub [1,0,1,2,3] (code f21)
theorem rFo1 (ly:LayT) (l:List NearT) (sl of me i:Int):wpc prog ⟨TV12, [],wlFo0,y,false⟩ 100 lpFo1 (tmFo l me false i .bad) [layB ly,cellB sl of] b (maskK 2 [1,3,4,6,8,9] K)=(BIf (decide (i<((Zaa (rowsN l):Nat):Int))) (∃(ly0:LayT) (l1:List NearT) (sl2:Int) (of3:Int) (me4:Int) (i5:Nat) (x6:NearT) (q7:Bool),Zat lpFo0=Zat lpFo0∧(Zab::Zae (Zan 31 (rowsN l))::Zab::Zae (i64 me)::Zaf 0 0::Zab::Zaf 1 0::Zab::Zae (bo false)::Zae (i64 i)::Zae (i64 0)::bds 44 [])=(Zab::Zae (Zan 31 (rowsN l1))::Zab::Zae (i64 me4)::Zaf 0 0::Zab::Zaf 1 0::Zab::Zae (bo false)::Zae (i64 (i5:Int))::Zae (i64 0)::bds 44 [])∧(Qz26 ly sl of)=(Qz26 ly0 sl2 of3)∧(l1[i5]? =some x6∧Zaa (Zck x6)≤9223372036854775807∧q7=Zcv (Zck x6) (forG ly0 sl2 of3 me4))∧BIf q7 (∀(k:Int),K .ret (Zab::Zae (Zan 31 (rowsN l1))::Zab::Zae (i64 me4)::Zaf 0 0::Zab::Zaf 1 0::Zab::Zae (bo true)::Zae (i64 (i5:Int))::bds 45 []) (Qz26 ly0 sl2 of3) b) (∀(k:Int),K .normal (Zab::Zae (Zan 31 (rowsN l1))::Zab::Zae (i64 me4)::Zaf 0 0::Zab::Zaf 1 0::Zab::Zae (bo false)::Zae (i64 (Zad .i64 ((i5:Int)+(1:Int))))::bds 45 []) (Qz26 ly0 sl2 of3) b)) (K (Zbj 0) (Zab::Zae (Zan 31 (rowsN l))::Zab::Zae (i64 me)::Zaf 0 0::Zab::Zaf 1 0::Zab::Zae (bo false)::Zae (i64 i)::bds 45 []) (Qz26 ly sl of) b)):=by kernel_rfl
theorem wrFo1 {Ev:Env prog} {b:Ev.β} {Q:Exit→St Ev.β→Prop} (ly:LayT) (l:List NearT) (sl of me:Int) (hl:l.length≤9223372036854775807) (hN:∀x∈l,AAy9 x) (h1:(l.any fun x=>x.gs.any (forG ly sl of me))=false→∀i:Int,Q (.exit 0) ⟨tmFo l me false i .bad, [layB ly,cellB sl of],b⟩) (h2:(l.any fun x=>x.gs.any (forG ly sl of me))=true→∀i:Int,Q .ret ⟨tmFo l me true i .bad, [layB ly,cellB sl of],b⟩):
 WR Ev lpFo1 (l.length+1) ⟨tmFo l me false (0:Nat) .bad, [layB ly,cellB sl of],b⟩ Q:=by
 refine WR.scanL (X:=⟨TV12, [],wlFo0,Ev.Y,false⟩) (k:=100) [1,3,4,6,8,9] mixed (CX.Ok.ofWl AGz9 Zah BSu9) l (fun x=>x.gs.any (forG ly sl of me)) (fun i=>tmFo l me false (i:Nat) .bad) (fun i=>tmFo l me true (i:Nat) .bad) [layB ly,cellB sl of] 0 (fun i x hi hx K k1 k2=> ?_) (fun K k1=> ?_) (fun h=>h1 h _) fun h i=>h2 h _
 ·refine Eq.mpr (rFo1 _ _ K ly l sl of me i) ?_;rw [ABm9];refine Zaz (by simp;omega) ⟨ly,l,sl,of,me,i,x,_,rfl,rfl,rfl,⟨hx,(hN x (Zbn hx)).2.1,rfl⟩,Zba (fun g k=>k1 g) fun g k=> ?_⟩;rw [wrapN (by omega)];exact k2 g
 ·refine Eq.mpr (rFo1 _ _ K ly l sl of me _) ?_;rw [ABm9];exact Zda (by simp) k1
def wlFo {β:Type}:WLT β:=fun cd tm hp b K=>∃(ly:LayT) (l:List NearT) (sl of me:Int) (q:Bool),cd= .loop lpFo1∧AAv9 [1,3,4,6,8,9] 0 tm=tmFo l me false 0 .bad∧hp= [layB ly,cellB sl of]∧((∀x∈l,AAy9 x)∧l.length≤9223372036854775807∧q=(l.any fun x=>x.gs.any (forG ly sl of me)))∧BIf q (∀i:Int,K .ret (tmFo l me true i .bad) [layB ly,cellB sl of] b) (∀i:Int,K (.exit 0) (tmFo l me false i .bad) [layB ly,cellB sl of] b)
theorem CAg9 {Ev:Env prog} (c:Code) (tm:List AV) (hp:List Blk) (b:Ev.β) (K:Exit→List AV→List Blk→Ev.β→Prop) (h:wlFo c tm hp b K):W Ev c ⟨tm,hp,b⟩ (fun e s=>K e s.tm s.hp s.b):=by
 obtain ⟨ly,l,sl,of,me,q,rfl,htm,rfl,⟨hN,hl,hz⟩,hK⟩:=h;refine W.cast (htm▸AAb9 _ tm 0) (Zbp _) ?_;exact W.rounds (wrFo1 (Q:=fun e s=>K e s.tm s.hp s.b) ly l sl of me hl hN (fun h=>by rw [hz,h] at hK;exact hK) fun h=>by rw [hz,h] at hK;exact hK)
abbrev Qz65 (v0:List NearT) (v1:Int):=Zab::Zae (Zan 31 (rowsN v0))::Zab::Zae (i64 v1)::Zaf 0 0::Zab::Zaf 1 0::Zab::Zae (bo false)::Zae (i64 0)::bds 45 []
theorem BFk9 (ly:LayT) (l:List NearT) (sl of me:Int):wpFn prog ⟨[], [],wlFo,y,false⟩ 100 f21 [layA ly, .d (.sl 31 (rowsN l)),cellA sl of, .d (i64 me)] b R=(∃(ly0:LayT) (l1:List NearT) (sl2:Int) (of3:Int) (me4:Int) (q5:Bool),Zat lpFo1=Zat lpFo1∧(Qz65 l me)=(Qz65 l1 me4)∧(Qz26 ly sl of)=(Qz26 ly0 sl2 of3)∧((∀(x:NearT),x∈l1→AAy9 x)∧Zaa l1≤9223372036854775807∧q5=Zcv l1 fun (x6:NearT)=>Zcv (Zck x6) (forG ly0 sl2 of3 me4))∧BIf q5 (∀(i:Int),R (.d (bo true)) b) (∀(i:Int),R (.d (bo false)) b)):=by kernel_rfl
def forS (ly:LayT) (l:List NearT) (sl of me:Int):Bool:=l.any fun x=>x.gs.any (forG ly sl of me)
theorem BLl9 (ly:LayT) (l:List NearT) (sl of me:Int) (hl:l.length≤9223372036854775807) (hN:∀x∈l,AAy9 x):PCall prog 21 [layA ly, .d (.sl 31 (rowsN l)),cellA sl of, .d (i64 me)] (.d (bo (forS ly l sl of me))):=by
 refine Zcu (n:=100) (u:=false) (fun _=>wlFo) mixed Zak Zah (fun Ev=>CAg9) func21 (by rfl) (by rfl) fun Ev bb=> ?_;rw [BFk9];exact ⟨ly,l,sl,of,me,_,rfl,rfl,rfl,⟨hN,hl,rfl⟩,Zba (fun h i=>by rw [forS,h]) fun h i=>by rw [forS,h]⟩
def BHq9 (args:List AV) (K:AV→Prop):Prop:=∃(ly:LayT) (l:List NearT) (sl of me:Int) (q:Bool),args= [layA ly, .d (.sl 31 (rowsN l)),cellA sl of, .d (i64 me)]∧(l.length≤9223372036854775807∧(∀x∈l,AAy9 x)∧q=forS ly l sl of me)∧K (.d (bo q))
theorem BAp9:∀args K,BHq9 args K→∃x,PCall prog 21 args x∧K x:=by
 rintro _ K ⟨ly,l,sl,of,me,_,rfl,⟨hl,hN,rfl⟩,hk⟩;exact ⟨_,BLl9 ly l sl of me hl hN,hk⟩
noncomputable def lpFw:Code:=sub [1,0,1,2,3] (code f33)
def tmFw (l:List NearT) (i:Int):List AV:= [.d (.sl 31 (rowsN l)), .bad, .d (bo false), .d (i64 i)]++Zap 35 .bad
abbrev Qz47 (v0:List NearT) (v1:Int):=Zae (Zan 31 (rowsN v0))::Zab::Zae (bo false)::Zae (i64 v1)::bds 35 []
theorem rFw (l:List NearT) (i:Int):wpc prog ⟨[], [],wl,y,false⟩ 100 lpFw (tmFw l i) [] b (maskK 0 [0,2,3] K)=(BIf (decide (i<((Zaa (rowsN l):Nat):Int))) (BIf (decide (i<(70:Int))) (BIf (true&&decide (0≤i)) (∃(n0:NearT),(rowsN l)[Zam i]? =some (nearR n0)∧BIf (decide (((Zaa (rowsU (Zcp n0)):Nat):Int)>(40:Int))) (K .ret (Qz47 l i) [] b) (BIf (decide (((Zaa (rowsG (Zck n0)):Nat):Int)>(40:Int))) (K .ret (Qz47 l i) [] b) (BIf (decide (((Zaa (rowsA (Zer n0)):Nat):Int)>(40:Int))) (K .ret (Qz47 l i) [] b) (K .normal (Zae (Zan 31 (rowsN l))::Zab::Zae (bo false)::Zae (i64 (Zad .i64 (i+1)))::bds 35 []) [] b)))) False) (K (Zbj 0) (Qz47 l i) [] b)) (K (Zbj 0) (Qz47 l i) [] b)):=by kernel_rfl
def manyN (x:NearT):Bool:=decide ((x.us.length:Int)>40)||(decide ((x.gs.length:Int)>40)||decide ((x.ak.length:Int)>40))
theorem wrFw {Ev:Env prog} {b:Ev.β} {Q:Exit→St Ev.β→Prop} (l:List NearT) (h1:(l.take 70).any manyN=false→∀i:Int,Q (.exit 0) ⟨tmFw l i, [],b⟩) (h2:(l.take 70).any manyN=true→∀i:Int,Q .ret ⟨tmFw l i, [],b⟩):
 WR Ev lpFw ((l.take 70).length+1) ⟨tmFw l (0:Nat), [],b⟩ Q:=by
 refine WR.scanL (X:=⟨[], [],wlW Ev,Ev.Y,false⟩) (k:=100) [0,2,3] mixed (CX.Ok.of Zak Zah) (l.take 70) manyN (fun i=>tmFw l (i:Nat)) (fun i=>tmFw l (i:Nat)) [] 0 (fun i x hi hx K k1 k2=> ?_) (fun K k1=> ?_) (fun h=>h1 h _) fun h i=>h2 h _
 ·have hl:=Zcd (i:=70) (l:=l);have hx':l[i]? =some x:=by rw [List.getElem?_take_of_lt (by omega)] at hx;exact hx
  refine Eq.mpr (rFw _ _ _ K l i) ?_;rw [ABm9];refine Zaz (by simp;omega) (Zaz (by simp;omega) (Zaz (natI i) ⟨_,ABc9 hx', ?_⟩));simp only [AAh9,AAf9,AAn9];refine Zba (fun c1=>k1 (by rw [manyN,c1];rfl)) fun c1=>Zba (fun c2=>k1 (by rw [manyN,c1,c2];rfl)) fun c2=>Zba (fun c3=>k1 (by rw [manyN,c1,c2,c3];rfl)) fun c3=> ?_;rw [wrapN (by omega)];exact k2 (by rw [manyN,c1,c2,c3];rfl)
 ·have hl:=Zcd (i:=70) (l:=l);refine Eq.mpr (rFw _ _ _ K l _) ?_;rw [ABm9];exact Zba (fun c=>Zda (by simp at c ⊢;omega) k1) fun c=>k1
def wlFw {β:Type}:WLT β:=fun cd tm hp b K=>∃(l:List NearT) (q:Bool),cd= .loop lpFw∧AAv9 [0,2,3] 0 tm=tmFw l 0∧hp= []∧q=(l.take 70).any manyN∧BIf q (∀i:Int,K .ret (tmFw l i) [] b) (∀i:Int,K (.exit 0) (tmFw l i) [] b)
theorem CAf9 {Ev:Env prog} (c:Code) (tm:List AV) (hp:List Blk) (b:Ev.β) (K:Exit→List AV→List Blk→Ev.β→Prop) (h:wlFw c tm hp b K):W Ev c ⟨tm,hp,b⟩ (fun e s=>K e s.tm s.hp s.b):=by
 obtain ⟨l,q,rfl,htm,rfl,hz,hK⟩:=h;refine W.cast (htm▸AAb9 _ tm 0) (Zbp _) ?_;exact W.rounds (wrFw (Q:=fun e s=>K e s.tm s.hp s.b) l (fun h=>by rw [hz,h] at hK;exact hK) fun h=>by rw [hz,h] at hK;exact hK)
theorem BWd9 (l:List NearT):wpFn prog ⟨[], [],wlFw,y,false⟩ 100 f33 [.d (.sl 31 (rowsN l))] b R=(∃(l0:List NearT) (q1:Bool),Zat lpFw=Zat lpFw∧(Zae (Zan 31 (rowsN l))::Zab::Zae (bo false)::Zae (i64 0)::bds 35 [])=(Zae (Zan 31 (rowsN l0))::Zab::Zae (bo false)::Zae (i64 0)::bds 35 [])∧([]:List Blk)= []∧q1=Zcv (Zbo 70 l0) manyN∧BIf q1 (∀(i:Int),R (.d (bo false)) b) (∀(i:Int),R (.d (bo (decide (((Zaa (rowsN l0):Nat):Int)≤(70:Int))))) b)):=by kernel_rfl
def AUo9 (l:List NearT):Bool:= !(l.take 70).any manyN&&decide ((l.length:Int)≤70)
theorem CCp9 (l:List NearT):PCall prog 33 [.d (.sl 31 (rowsN l))] (.d (bo (AUo9 l))):=by
 refine Zcu (n:=100) (u:=false) (fun _=>wlFw) mixed Zak Zah (fun Ev=>CAf9) func33 (by rfl) (by rfl) fun Ev bb=> ?_;rw [BWd9];refine ⟨l,_,rfl,rfl,rfl,rfl,Zba (fun h i=> ?_) fun h i=> ?_⟩
 ·rw [AUo9,h];rfl
 ·rw [AUo9,h,ABm9];rfl
def CEu9 (args:List AV) (K:AV→Prop):Prop:=∃(l:List NearT) (q:Bool),args= [.d (.sl 31 (rowsN l))]∧q=AUo9 l∧K (.d (bo q))
theorem BOa9:∀args K,CEu9 args K→∃x,PCall prog 33 args x∧K x:=by
 rintro _ K ⟨l,_,rfl,rfl,hk⟩;exact ⟨_,CCp9 l,hk⟩
def graB (g:GraT):Blk:=⟨[.d (i64 g.sl), .d (i64 g.of), .d (i64 g.pe), .d (i64 g.st), .d (i64 g.un)],false,false,0⟩
def TSm:List (Nat×(List AV→(AV→Prop)→Prop)):= [(33,CEu9),(34,CEv9)]
theorem CIi9:AAc9 prog TSm:=Zaj BOa9 (Zaj BOb9 Zak)
theorem BTh9 (t:TabT) (l:List NearT):wpFn prog ⟨TSm, [],wl,y,false⟩ 100 f11 [tabA t, .d (.sl 31 (rowsN l))] b R=(∃(l0:List NearT) (q1:Bool), [Zae (Zan 31 (rowsN l))]= [Zae (Zan 31 (rowsN l0))]∧q1=AUo9 l0∧BIf q1 (∃(t2:TabT) (q3:Bool), [Zaq (Qz1 t)]= [Zaq (Qz1 t2)]∧q3=APm9 t2∧R (.d (bo q3)) b) (R (.d (bo false)) b)):=by kernel_rfl
def AQt9 (t:TabT) (l:List NearT):Bool:=AUo9 l&&APm9 t
theorem CCj9 (t:TabT) (l:List NearT):PCall prog 11 [tabA t, .d (.sl 31 (rowsN l))] (.d (bo (AQt9 t l))):=by
 refine Zbf (n:=100) (u:=false) mixed CIi9 Zah func11 (by rfl) (by rfl) fun Ev bb=> ?_;rw [BTh9];refine ⟨l,_,rfl,rfl,Zba (fun h=>⟨t,_,rfl,rfl, ?_⟩) fun h=> ?_⟩
 ·rw [AQt9,h];rfl
 ·rw [AQt9,h];rfl
def CEn9 (args:List AV) (K:AV→Prop):Prop:=∃(t:TabT) (l:List NearT) (q:Bool),args= [tabA t, .d (.sl 31 (rowsN l))]∧q=AQt9 t l∧K (.d (bo q))
theorem BNu9:∀args K,CEn9 args K→∃x,PCall prog 11 args x∧K x:=by
 rintro _ K ⟨t,l,_,rfl,rfl,hk⟩;exact ⟨_,CCj9 t l,hk⟩
theorem CAq9 (t:TabT) (me fr:Int):wpFn prog ⟨[], [],wl,y,false⟩ 100 f32 [.d (i64 me),tabA t, .d (i64 fr)] b R=(R (Zgb 31 [[i64 fr,i64 me,i64 0,i64 0,i64 0,i64 0,i64 0,i64 0,i64 0,i64 0,i64 0,i64 0,Zan 4 (rowsU (Zdl t)),Zan 5 (rowsG (Zdb t)),Zan 3 (rowsA (Zdh t)),Zdy (.slice none 0 0),bo false,Zdy (.slice none 0 0),Zdy (.slice none 0 0),Zdy (.slice none 0 0),i64 0,i64 0,u64 0,i64 0,i64 0,i64 0,i64 0,i64 0,Zdy (.slice none 0 0),Zdy (.slice none 0 0),bo false]]) b):=by kernel_rfl
theorem PCall.semRes {P:Program} {f:Nat} {args:List AV} {x y:AV} (h:SemV x.view y.view) (hp:PCall P f args x):PCall P f args y:=by
 refine ⟨hp.1,fun S w vs h1 h2 h3 h4=>CallsIn.mono (hp.2 S w vs h1 h2 h3 h4) ?_⟩;rintro e w' hq;obtain ⟨v,S',g1,g2,g3,g4,g5⟩:=hq;exact ⟨v,S',g1,g2,g3,g4,h _ _ _ _ _ g5⟩
def toldN (me:Int) (t:TabT) (fr:Int):NearT:=⟨fr,me,t.us,t.gs,t.ak,0,0,0,0,0,0,0,0,0,0, [],false, [], [], [],0,0,0,0,0,0,0,0, [], [],false⟩
def AQj9 (me:Int) (t:TabT) (fr:Int):List Dv:= [i64 fr,i64 me,i64 0,i64 0,i64 0,i64 0,i64 0,i64 0,i64 0,i64 0,i64 0,i64 0,Zan 4 (rowsU t.us),Zan 5 (rowsG t.gs),Zan 3 (rowsA t.ak),Zdy (Zcw none 0 0),bo false,Zdy (Zcw none 0 0),Zdy (Zcw none 0 0),Zdy (Zcw none 0 0),i64 0,i64 0,u64 0,i64 0,i64 0,i64 0,i64 0,i64 0,Zdy (Zcw none 0 0),Zdy (Zcw none 0 0),bo false]
theorem AQi9 (me:Int) (t:TabT) (fr:Int):AHa9 (AQj9 me t fr) (nearR (toldN me t fr)):=by
 unfold AQj9 nearR toldN;repeat' (first|exact .nil|refine .cons .rfl ?_|refine .cons .nil ?_)
theorem CGu9 (t:TabT) (me fr:Int):PCall prog 32 [.d (i64 me),tabA t, .d (i64 fr)] (.d (.sl 31 (rowsN [toldN me t fr]))):=by
 have h:PCall prog 32 [.d (i64 me),tabA t, .d (i64 fr)] (.full 31 [AQj9 me t fr]):=by
  refine Zbf (n:=100) (u:=false) mixed Zak Zah func32 (by rfl) (by rfl) fun Ev bb=> ?_;rw [CAq9];rfl
 have g:SemV (Zgb 31 [AQj9 me t fr]).view (Zae (Zan 31 (rowsN [toldN me t fr]))).view:=SemV.rows (.cons (AQi9 me t fr) .nil);exact PCall.semRes g h
def cTold (args:List AV) (K:AV→Prop):Prop:=∃(t:TabT) (me fr:Int) (q:List NearT),args= [.d (i64 me),tabA t, .d (i64 fr)]∧q= [toldN me t fr]∧K (.d (.sl 31 (rowsN q)))
theorem BXe9:∀args K,cTold args K→∃x,PCall prog 32 args x∧K x:=by
 rintro _ K ⟨t,me,fr,_,rfl,rfl,hk⟩;exact ⟨_,CGu9 t me fr,hk⟩
def sortA (l:List AskT):Nat→List AskT
 |0=> []
 |n+1=>sortA l n++l.filter (fun x=>x.sl==((n:Nat):Int))
theorem BXz9 {α:Type} (p:α→Bool) (l:List α) (k:Nat) (x:α) (h:l[k]? =some x):(l.take (k+1)).any p=((l.take k).any p||p x):=by
 rw [Zfm,h,List.any_append];simp
noncomputable def lpNs:Code:=sub [1,1,1,0,1,2,3] (code f35)
def nilP:Dv:= .s (.pointer none)
def tmNs (l:List NearT) (me fr i:Int):List AV:= [.bad, .bad, .d (i64 me), .d (.sl 31 (rowsN l)), .d (i64 fr), .ptr 0 0, .bad, .bad, .bad, .bad, .d nilP, .d (bo false), .ptr 2 0]++Zap 26 .bad++ [.d (.sl 31 (rowsN l)), .d (i64 l.length), .d (i64 i)]++Zap 75 .bad
def layF (l:LayT) (z:Bool):Blk:=⟨[.d (i64 l.no), .d (i64 l.da)],z,false,0⟩
def sideB (l:LayT) (me fr:Int) (x:AV):Blk:=⟨[.d (i64 l.no), .d (i64 l.da), .d (i64 me),x, .d (i64 fr)],false,false,0⟩
def TNs:List (Nat×(List AV→(AV→Prop)→Prop)):= [(73,BNn9),(36,cIn),(74,AXc9),(77,AXd9),(40,AXe9)]
theorem CFp9:AAc9 prog TNs:=Zaj APt9 (Zaj BHd9 (Zaj AUt9 (Zaj AUu9 (Zaj AUv9 Zak))))
def junkB (cs:List AV):Blk:=⟨cs,false,false,0⟩
def growB (v:Nat) (cs:List AV):Blk:=⟨cs,false,true,v⟩
def UNs:List (Nat×(List AV→List Blk→(AV→List Blk→Prop)→Prop)):= [(1000055,fun _ _ _=>False)]
theorem CFi9:AAl9 prog UNs:=Zbr (fun _ _ _ h=>h.elim) Zah
abbrev Qz6 (v0:NearT) (v1:List UseT) (v2:List GraT) (v3:List AskT):List AV:= [Zae (i64 (Zfd v0)),Zae (i64 (Zdm v0)),Zae (i64 0),Zae (i64 0),Zae (i64 0),Zae (i64 0),Zae (i64 0),Zae (i64 0),Zae (i64 0),Zae (i64 0),Zae (i64 0),Zae (i64 0),Zae (Zan 4 (rowsU v1)),Zae (Zan 5 (rowsG v2)),Zae (Zan 3 (rowsA v3)),Zae (Zdy (.slice none 0 0)),Zae (bo false),Zae (Zdy (.slice none 0 0)),Zae (Zdy (.slice none 0 0)),Zae (Zdy (.slice none 0 0)),Zae (i64 0),Zae (i64 0),Zae (u64 0),Zae (i64 0),Zae (i64 0),Zae (i64 0),Zae (i64 0),Zae (i64 0),Zae (Zdy (.slice none 0 0)),Zae (Zdy (.slice none 0 0)),Zae (bo false)]
abbrev Qz29 (v0:LayT) (v1:TabT) (v2:Int) (v3:Int) (v4:NearT):= [Blk.mk (Qz3 v0) false false 0,Blk.mk (Qz1 v1) false false 0,Blk.mk [Zae (i64 (Zfc v0)),Zae (i64 (Zcx v0)),Zae (i64 v2),Zae (Zdy (.slice none 0 0)),Zae (i64 v3)] false false 0,nearB v4]
abbrev Qz32 (v0:NearT) (v1:List UseT) (v2:List GraT) (v3:List AskT):List AV:= [Zae (i64 (Zdm v0)),Zae (i64 0),Zae (i64 0),Zae (i64 0),Zae (i64 0),Zae (i64 0),Zae (i64 0),Zae (i64 0),Zae (i64 0),Zae (i64 0),Zae (i64 0),Zae (Zan 4 (rowsU v1)),Zae (Zan 5 (rowsG v2)),Zae (Zan 3 (rowsA v3)),Zae (Zdy (.slice none 0 0)),Zae (bo false),Zae (Zdy (.slice none 0 0)),Zae (Zdy (.slice none 0 0)),Zae (Zdy (.slice none 0 0)),Zae (i64 0),Zae (i64 0),Zae (u64 0),Zae (i64 0),Zae (i64 0),Zae (i64 0),Zae (i64 0),Zae (i64 0),Zae (Zdy (.slice none 0 0)),Zae (Zdy (.slice none 0 0)),Zae (bo false)]
abbrev Qz45 (v0:LayT) (v1:TabT) (v2:Int) (v3:Int):= [Blk.mk (Qz3 v0) false false 0,Blk.mk (Qz1 v1) false false 0,Blk.mk [Zae (i64 (Zfc v0)),Zae (i64 (Zcx v0)),Zae (i64 v2),Zae (Zdy (.slice none 0 0)),Zae (i64 v3)] false false 0]
theorem rNs0 (ly:LayT) (t:TabT) (l:List NearT) (me fr i:Int):wpc prog ⟨TNs,UNs,wl,y,false⟩ 100 lpNs (tmNs l me fr i) [layF ly false,tabB t,sideB ly me fr (.d (.s (.slice none 0 0)))] b (maskT [2,3,4,5,10,11,12,39,40,41] K)=(BIf (decide (i<((Zaa l:Nat):Int))) (BIf (true&&decide (0≤i)) (∃(n0:NearT),(rowsN l)[Zam i]? =some (nearR n0)∧∃(n3:Int) (h4:Int) (z5:Bool), [Zae (i64 (Zdm n0)),Zae (i64 (Zad .i64 (Zfc ly - (1:Int))))]= [Zae (i64 n3),Zae (i64 h4)]∧z5=inN n3 h4∧BIf (!z5) (K .ret (Zab::Zab::Zae (i64 me)::Zae (Zan 31 (rowsN l))::Zae (i64 fr)::Zaf 0 0::bds 4 (Zae (Zdy (Zcc none))::Zae (bo false)::Zaf 2 0::bds 26 (Zae (Zan 31 (rowsN l))::Zae (i64 ((Zaa l:Nat):Int))::Zae (i64 i)::bds 75 []))) (Qz29 ly t me fr n0) b) (BIf (Zdm n0==me) (K .ret (Zab::Zab::Zae (i64 me)::Zae (Zan 31 (rowsN l))::Zae (i64 fr)::Zaf 0 0::bds 4 (Zae (Zdy (Zcc none))::Zae (bo false)::Zaf 2 0::bds 26 (Zae (Zan 31 (rowsN l))::Zae (i64 ((Zaa l:Nat):Int))::Zae (i64 i)::bds 75 []))) (Qz29 ly t me fr n0) b) (BIf (decide (i>(0:Int))) (BIf (true&&decide ((0:Int)≤Zad .i64 (i - 1))) (∃(n6:NearT),(rowsN l)[Zam (Zad .i64 (i - 1))]? =some (nearR n6)∧BIf (decide (Zdm n0≤Zdm n6)) (K .ret (Zab::Zab::Zae (i64 me)::Zae (Zan 31 (rowsN l))::Zae (i64 fr)::Zaf 0 0::bds 4 (Zae (Zdy (Zcc none))::Zae (bo false)::Zaf 2 0::bds 26 (Zae (Zan 31 (rowsN l))::Zae (i64 ((Zaa l:Nat):Int))::Zae (i64 i)::bds 75 []))) (Qz29 ly t me fr n0) b) (∃(n9:Int) (h10:Int) (z11:Bool), [Zae (i64 (Zfd n0)),Zae (i64 fr)]= [Zae (i64 n9),Zae (i64 h10)]∧z11=inN n9 h10∧BIf (!z11) (K .ret (Zab::Zab::Zae (i64 me)::Zae (Zan 31 (rowsN l))::Zae (i64 fr)::Zaf 0 0::bds 4 (Zae (Zdy (Zcc none))::Zae (bo false)::Zaf 2 0::bds 26 (Zae (Zan 31 (rowsN l))::Zae (i64 ((Zaa l:Nat):Int))::Zae (i64 i)::bds 75 []))) (Qz29 ly t me fr n0) b) (∃(l12:List UseT) (ly13:LayT) (q14:List UseT), [Zae (Zan 4 (rowsU (Zcp n0))),Zax (Fn.func 75) [] (Qz13 ly)]= [Zae (Zan 4 (rowsU l12)),Zax (Fn.func 75) [] (Qz13 ly13)]∧(Zaa l12<1000000∧q14=Zce (fun (x15:UseT)=>useIs x15 ly13) l12)∧∃(l16:List GraT) (ly17:LayT) (q18:List GraT), [Zae (Zan 5 (rowsG (Zck n0))),Zax (Fn.func 78) [] (Qz13 ly)]= [Zae (Zan 5 (rowsG l16)),Zax (Fn.func 78) [] (Qz13 ly17)]∧(Zaa l16<1000000∧q18=Zce (fun (x19:GraT)=>graIs x19 ly17) l16)∧∃(l20:List AskT) (ly21:LayT) (q22:List AskT), [Zae (Zan 3 (rowsA (Zer n0))),Zax (Fn.func 80) [] (Qz13 ly)]= [Zae (Zan 3 (rowsA l20)),Zax (Fn.func 80) [] (Qz13 ly21)]∧(Zaa l20<1000000∧q22=Zce (fun (x23:AskT)=>ABw9 (Zcr x23) (Zgd x23) (Zfp x23) ly21) l20)∧1*392≤140737488355328∧K .normal (Zab::Zab::Zae (i64 me)::Zae (Zan 31 (rowsN l))::Zae (i64 fr)::Zaf 0 0::bds 4 (Zae (Zdy (Zcc none))::Zae (bo false)::Zaf 2 0::bds 26 (Zae (Zan 31 (rowsN l))::Zae (i64 ((Zaa l:Nat):Int))::Zae (i64 (Zad .i64 (i+1)))::bds 75 []))) [Blk.mk (Qz3 ly) true false 0,Blk.mk (Qz1 t) false false 0,Blk.mk [Zae (i64 (Zfc ly)),Zae (i64 (Zcx ly)),Zae (i64 me),Zbl 5 0 1 31,Zae (i64 fr)] false false 0,nearB n0,Blk.mk (Qz32 n0 q14 q18 q22) false false 0,Blk.mk (Qz6 n0 q14 q18 q22) false true 0] b))) False) (∃(n24:Int) (h25:Int) (z26:Bool), [Zae (i64 (Zfd n0)),Zae (i64 fr)]= [Zae (i64 n24),Zae (i64 h25)]∧z26=inN n24 h25∧BIf (!z26) (K .ret (Zab::Zab::Zae (i64 me)::Zae (Zan 31 (rowsN l))::Zae (i64 fr)::Zaf 0 0::bds 4 (Zae (Zdy (Zcc none))::Zae (bo false)::Zaf 2 0::bds 26 (Zae (Zan 31 (rowsN l))::Zae (i64 ((Zaa l:Nat):Int))::Zae (i64 i)::bds 75 []))) (Qz29 ly t me fr n0) b) (∃(l27:List UseT) (ly28:LayT) (q29:List UseT), [Zae (Zan 4 (rowsU (Zcp n0))),Zax (Fn.func 75) [] (Qz13 ly)]= [Zae (Zan 4 (rowsU l27)),Zax (Fn.func 75) [] (Qz13 ly28)]∧(Zaa l27<1000000∧q29=Zce (fun (x30:UseT)=>useIs x30 ly28) l27)∧∃(l31:List GraT) (ly32:LayT) (q33:List GraT), [Zae (Zan 5 (rowsG (Zck n0))),Zax (Fn.func 78) [] (Qz13 ly)]= [Zae (Zan 5 (rowsG l31)),Zax (Fn.func 78) [] (Qz13 ly32)]∧(Zaa l31<1000000∧q33=Zce (fun (x34:GraT)=>graIs x34 ly32) l31)∧∃(l35:List AskT) (ly36:LayT) (q37:List AskT), [Zae (Zan 3 (rowsA (Zer n0))),Zax (Fn.func 80) [] (Qz13 ly)]= [Zae (Zan 3 (rowsA l35)),Zax (Fn.func 80) [] (Qz13 ly36)]∧(Zaa l35<1000000∧q37=Zce (fun (x38:AskT)=>ABw9 (Zcr x38) (Zgd x38) (Zfp x38) ly36) l35)∧1*392≤140737488355328∧K .normal (Zab::Zab::Zae (i64 me)::Zae (Zan 31 (rowsN l))::Zae (i64 fr)::Zaf 0 0::bds 4 (Zae (Zdy (Zcc none))::Zae (bo false)::Zaf 2 0::bds 26 (Zae (Zan 31 (rowsN l))::Zae (i64 ((Zaa l:Nat):Int))::Zae (i64 (Zad .i64 (i+1)))::bds 75 []))) [Blk.mk (Qz3 ly) true false 0,Blk.mk (Qz1 t) false false 0,Blk.mk [Zae (i64 (Zfc ly)),Zae (i64 (Zcx ly)),Zae (i64 me),Zbl 5 0 1 31,Zae (i64 fr)] false false 0,nearB n0,Blk.mk (Qz32 n0 q29 q33 q37) false false 0,Blk.mk (Qz6 n0 q29 q33 q37) false true 0] b))))) False) (K (Zbj 0) (Zab::Zab::Zae (i64 me)::Zae (Zan 31 (rowsN l))::Zae (i64 fr)::Zaf 0 0::bds 4 (Zae (Zdy (Zcc none))::Zae (bo false)::Zaf 2 0::bds 26 (Zae (Zan 31 (rowsN l))::Zae (i64 ((Zaa l:Nat):Int))::Zae (i64 i)::bds 75 []))) (Qz45 ly t me fr) b)):=by kernel_rfl
abbrev Qz25 (v0:LayT) (v1:Int) (v2:Nat) (v3:Nat) (v4:Int):List AV:= [Zae (i64 (Zfc v0)),Zae (i64 (Zcx v0)),Zae (i64 v1),Zbl 5 v2 v3 31,Zae (i64 v4)]
abbrev Qz50 (v0:LayT) (v1:Int) (v2:Nat) (v3:Nat) (v4:Int):List AV:= [Zae (i64 (Zfc v0)),Zae (i64 (Zcx v0)),Zae (i64 v1),Zbl 5 (v2+1) (v3+1) 31,Zae (i64 v4)]
theorem rNs (ly:LayT) (t:TabT) (l:List NearT) (me fr i:Int) (v n:Nat) (c3 c4 cs:List AV):wpc prog ⟨TNs,UNs,wl,y,false⟩ 100 lpNs (tmNs l me fr i) [layF ly true,tabB t,sideB ly me fr (.gref 5 v n 31),junkB c3,junkB c4,growB v cs] b (maskK 6 [2,3,4,5,10,11,12,39,40,41] K)=(BIf (decide (i<((Zaa l:Nat):Int))) (BIf (true&&decide (0≤i)) (∃(n0:NearT),(rowsN l)[Zam i]? =some (nearR n0)∧∃(n3:Int) (h4:Int) (z5:Bool), [Zae (i64 (Zdm n0)),Zae (i64 (Zad .i64 (Zfc ly - (1:Int))))]= [Zae (i64 n3),Zae (i64 h4)]∧z5=inN n3 h4∧BIf (!z5) (BIf (Zbk [Blk.mk (Qz3 ly) true false 0,Blk.mk (Qz1 t) false false 0,Blk.mk (Qz25 ly me v n fr) false false 0,Blk.mk c3 false false 0,Blk.mk c4 false false 0,Blk.mk cs false true v] fun (blk6:Blk)=>lows 6 blk6.1) (K .ret (Zab::Zab::Zae (i64 me)::Zae (Zan 31 (rowsN l))::Zae (i64 fr)::Zaf 0 0::bds 4 (Zae (Zdy (Zcc none))::Zae (bo false)::Zaf 2 0::bds 26 (Zae (Zan 31 (rowsN l))::Zae (i64 ((Zaa l:Nat):Int))::Zae (i64 i)::bds 75 []))) [Blk.mk (Qz3 ly) true false 0,Blk.mk (Qz1 t) false false 0,Blk.mk (Qz25 ly me v n fr) false false 0,Blk.mk c3 false false 0,Blk.mk c4 false false 0,Blk.mk cs false true v] b) False) (BIf (Zdm n0==me) (BIf (Zbk [Blk.mk (Qz3 ly) true false 0,Blk.mk (Qz1 t) false false 0,Blk.mk (Qz25 ly me v n fr) false false 0,Blk.mk c3 false false 0,Blk.mk c4 false false 0,Blk.mk cs false true v] fun (blk7:Blk)=>lows 6 blk7.1) (K .ret (Zab::Zab::Zae (i64 me)::Zae (Zan 31 (rowsN l))::Zae (i64 fr)::Zaf 0 0::bds 4 (Zae (Zdy (Zcc none))::Zae (bo false)::Zaf 2 0::bds 26 (Zae (Zan 31 (rowsN l))::Zae (i64 ((Zaa l:Nat):Int))::Zae (i64 i)::bds 75 []))) [Blk.mk (Qz3 ly) true false 0,Blk.mk (Qz1 t) false false 0,Blk.mk (Qz25 ly me v n fr) false false 0,Blk.mk c3 false false 0,Blk.mk c4 false false 0,Blk.mk cs false true v] b) False) (BIf (decide (i>(0:Int))) (BIf (true&&decide ((0:Int)≤Zad .i64 (i - 1))) (∃(n8:NearT),(rowsN l)[Zam (Zad .i64 (i - 1))]? =some (nearR n8)∧BIf (decide (Zdm n0≤Zdm n8)) (BIf (Zbk [Blk.mk (Qz3 ly) true false 0,Blk.mk (Qz1 t) false false 0,Blk.mk (Qz25 ly me v n fr) false false 0,Blk.mk c3 false false 0,Blk.mk c4 false false 0,Blk.mk cs false true v] fun (blk11:Blk)=>lows 6 blk11.1) (K .ret (Zab::Zab::Zae (i64 me)::Zae (Zan 31 (rowsN l))::Zae (i64 fr)::Zaf 0 0::bds 4 (Zae (Zdy (Zcc none))::Zae (bo false)::Zaf 2 0::bds 26 (Zae (Zan 31 (rowsN l))::Zae (i64 ((Zaa l:Nat):Int))::Zae (i64 i)::bds 75 []))) [Blk.mk (Qz3 ly) true false 0,Blk.mk (Qz1 t) false false 0,Blk.mk (Qz25 ly me v n fr) false false 0,Blk.mk c3 false false 0,Blk.mk c4 false false 0,Blk.mk cs false true v] b) False) (∃(n12:Int) (h13:Int) (z14:Bool), [Zae (i64 (Zfd n0)),Zae (i64 fr)]= [Zae (i64 n12),Zae (i64 h13)]∧z14=inN n12 h13∧BIf (!z14) (BIf (Zbk [Blk.mk (Qz3 ly) true false 0,Blk.mk (Qz1 t) false false 0,Blk.mk (Qz25 ly me v n fr) false false 0,Blk.mk c3 false false 0,Blk.mk c4 false false 0,Blk.mk cs false true v] fun (blk15:Blk)=>lows 6 blk15.1) (K .ret (Zab::Zab::Zae (i64 me)::Zae (Zan 31 (rowsN l))::Zae (i64 fr)::Zaf 0 0::bds 4 (Zae (Zdy (Zcc none))::Zae (bo false)::Zaf 2 0::bds 26 (Zae (Zan 31 (rowsN l))::Zae (i64 ((Zaa l:Nat):Int))::Zae (i64 i)::bds 75 []))) [Blk.mk (Qz3 ly) true false 0,Blk.mk (Qz1 t) false false 0,Blk.mk (Qz25 ly me v n fr) false false 0,Blk.mk c3 false false 0,Blk.mk c4 false false 0,Blk.mk cs false true v] b) False) (∃(l16:List UseT) (ly17:LayT) (q18:List UseT), [Zae (Zan 4 (rowsU (Zcp n0))),Zax (Fn.func 75) [] (Qz13 ly)]= [Zae (Zan 4 (rowsU l16)),Zax (Fn.func 75) [] (Qz13 ly17)]∧(Zaa l16<1000000∧q18=Zce (fun (x19:UseT)=>useIs x19 ly17) l16)∧∃(l20:List GraT) (ly21:LayT) (q22:List GraT), [Zae (Zan 5 (rowsG (Zck n0))),Zax (Fn.func 78) [] (Qz13 ly)]= [Zae (Zan 5 (rowsG l20)),Zax (Fn.func 78) [] (Qz13 ly21)]∧(Zaa l20<1000000∧q22=Zce (fun (x23:GraT)=>graIs x23 ly21) l20)∧∃(l24:List AskT) (ly25:LayT) (q26:List AskT), [Zae (Zan 3 (rowsA (Zer n0))),Zax (Fn.func 80) [] (Qz13 ly)]= [Zae (Zan 3 (rowsA l24)),Zax (Fn.func 80) [] (Qz13 ly25)]∧(Zaa l24<1000000∧q26=Zce (fun (x27:AskT)=>ABw9 (Zcr x27) (Zgd x27) (Zfp x27) ly25) l24)∧v=v∧(n+1)*392≤140737488355328∧BIf (Zbk [Blk.mk (Qz3 ly) true false 0,Blk.mk (Qz1 t) false false 0,Blk.mk (Qz50 ly me v n fr) false false 0,Blk.mk c3 false false 0,Blk.mk c4 false false 0,Blk.mk (cs++(Qz6 n0 q18 q22 q26)) false true (v+1)] fun (blk28:Blk)=>lows 6 blk28.1) (K .normal (Zab::Zab::Zae (i64 me)::Zae (Zan 31 (rowsN l))::Zae (i64 fr)::Zaf 0 0::bds 4 (Zae (Zdy (Zcc none))::Zae (bo false)::Zaf 2 0::bds 26 (Zae (Zan 31 (rowsN l))::Zae (i64 ((Zaa l:Nat):Int))::Zae (i64 (Zad .i64 (i+1)))::bds 75 []))) [Blk.mk (Qz3 ly) true false 0,Blk.mk (Qz1 t) false false 0,Blk.mk (Qz50 ly me v n fr) false false 0,Blk.mk c3 false false 0,Blk.mk c4 false false 0,Blk.mk (cs++(Qz6 n0 q18 q22 q26)) false true (v+1)] b) False))) False) (∃(n29:Int) (h30:Int) (z31:Bool), [Zae (i64 (Zfd n0)),Zae (i64 fr)]= [Zae (i64 n29),Zae (i64 h30)]∧z31=inN n29 h30∧BIf (!z31) (BIf (Zbk [Blk.mk (Qz3 ly) true false 0,Blk.mk (Qz1 t) false false 0,Blk.mk (Qz25 ly me v n fr) false false 0,Blk.mk c3 false false 0,Blk.mk c4 false false 0,Blk.mk cs false true v] fun (blk32:Blk)=>lows 6 blk32.1) (K .ret (Zab::Zab::Zae (i64 me)::Zae (Zan 31 (rowsN l))::Zae (i64 fr)::Zaf 0 0::bds 4 (Zae (Zdy (Zcc none))::Zae (bo false)::Zaf 2 0::bds 26 (Zae (Zan 31 (rowsN l))::Zae (i64 ((Zaa l:Nat):Int))::Zae (i64 i)::bds 75 []))) [Blk.mk (Qz3 ly) true false 0,Blk.mk (Qz1 t) false false 0,Blk.mk (Qz25 ly me v n fr) false false 0,Blk.mk c3 false false 0,Blk.mk c4 false false 0,Blk.mk cs false true v] b) False) (∃(l33:List UseT) (ly34:LayT) (q35:List UseT), [Zae (Zan 4 (rowsU (Zcp n0))),Zax (Fn.func 75) [] (Qz13 ly)]= [Zae (Zan 4 (rowsU l33)),Zax (Fn.func 75) [] (Qz13 ly34)]∧(Zaa l33<1000000∧q35=Zce (fun (x36:UseT)=>useIs x36 ly34) l33)∧∃(l37:List GraT) (ly38:LayT) (q39:List GraT), [Zae (Zan 5 (rowsG (Zck n0))),Zax (Fn.func 78) [] (Qz13 ly)]= [Zae (Zan 5 (rowsG l37)),Zax (Fn.func 78) [] (Qz13 ly38)]∧(Zaa l37<1000000∧q39=Zce (fun (x40:GraT)=>graIs x40 ly38) l37)∧∃(l41:List AskT) (ly42:LayT) (q43:List AskT), [Zae (Zan 3 (rowsA (Zer n0))),Zax (Fn.func 80) [] (Qz13 ly)]= [Zae (Zan 3 (rowsA l41)),Zax (Fn.func 80) [] (Qz13 ly42)]∧(Zaa l41<1000000∧q43=Zce (fun (x44:AskT)=>ABw9 (Zcr x44) (Zgd x44) (Zfp x44) ly42) l41)∧v=v∧(n+1)*392≤140737488355328∧BIf (Zbk [Blk.mk (Qz3 ly) true false 0,Blk.mk (Qz1 t) false false 0,Blk.mk (Qz50 ly me v n fr) false false 0,Blk.mk c3 false false 0,Blk.mk c4 false false 0,Blk.mk (cs++(Qz6 n0 q35 q39 q43)) false true (v+1)] fun (blk45:Blk)=>lows 6 blk45.1) (K .normal (Zab::Zab::Zae (i64 me)::Zae (Zan 31 (rowsN l))::Zae (i64 fr)::Zaf 0 0::bds 4 (Zae (Zdy (Zcc none))::Zae (bo false)::Zaf 2 0::bds 26 (Zae (Zan 31 (rowsN l))::Zae (i64 ((Zaa l:Nat):Int))::Zae (i64 (Zad .i64 (i+1)))::bds 75 []))) [Blk.mk (Qz3 ly) true false 0,Blk.mk (Qz1 t) false false 0,Blk.mk (Qz50 ly me v n fr) false false 0,Blk.mk c3 false false 0,Blk.mk c4 false false 0,Blk.mk (cs++(Qz6 n0 q35 q39 q43)) false true (v+1)] b) False))))) False) (BIf (Zbk [Blk.mk (Qz3 ly) true false 0,Blk.mk (Qz1 t) false false 0,Blk.mk (Qz25 ly me v n fr) false false 0,Blk.mk c3 false false 0,Blk.mk c4 false false 0,Blk.mk cs false true v] fun (blk46:Blk)=>lows 6 blk46.1) (K (Zbj 0) (Zab::Zab::Zae (i64 me)::Zae (Zan 31 (rowsN l))::Zae (i64 fr)::Zaf 0 0::bds 4 (Zae (Zdy (Zcc none))::Zae (bo false)::Zaf 2 0::bds 26 (Zae (Zan 31 (rowsN l))::Zae (i64 ((Zaa l:Nat):Int))::Zae (i64 i)::bds 75 []))) [Blk.mk (Qz3 ly) true false 0,Blk.mk (Qz1 t) false false 0,Blk.mk (Qz25 ly me v n fr) false false 0,Blk.mk c3 false false 0,Blk.mk c4 false false 0,Blk.mk cs false true v] b) False)):=by kernel_rfl
def fTab (ly:LayT) (n:NearT):TabT:=⟨n.us.filter (fun x:UseT=>useIs x ly),n.gs.filter (fun x:GraT=>graIs x ly),n.ak.filter (fun x:AskT=>ABw9 x.sl x.of x.pe ly)⟩
def filN (ly:LayT) (n:NearT):NearT:=toldN n.fm (fTab ly n) n.fr
def AMg9 (ly:LayT) (n:NearT):List Dv:=AQj9 n.fm (fTab ly n) n.fr
def ACf9 (x:NearT):Prop:=x.us.length<1000000∧x.gs.length<1000000∧x.ak.length<1000000
theorem WR.scanG {α:Type} {P:Program} {Ev:Env P} {X:CX Ev.β} {lp:Code} {b:Ev.β} {Q:Exit→St Ev.β→Prop} {k L:Nat} (keep:List Nat) (hm:P.follows .mixedOrders=true) (hX:X.Ok) (xs:List α) (p:α→Bool) (tmOf:Nat→List AV) (hpOf:Nat→List Blk) (hL:∀i,(hpOf i).length=L) (id:Nat) (s:Nat)
 (hr:∀(i:Nat) (x:α),s≤i→i<xs.length→xs[i]? =some x→∀K:Exit→List AV→List Blk→Ev.β→Prop,(p x=true→K .ret (tmOf i) (hpOf i) b)→(p x=false→K .normal (tmOf (i+1)) (hpOf (i+1)) b)→wpc P X k lp (tmOf i) (hpOf i) b (maskK L keep K))
 (he:∀K:Exit→List AV→List Blk→Ev.β→Prop,K (.exit id) (tmOf xs.length) (hpOf xs.length) b→wpc P X k lp (tmOf xs.length) (hpOf xs.length) b (maskK L keep K))
 (h1:(xs.drop s).any p=false→Q (.exit id) ⟨tmOf xs.length,hpOf xs.length,b⟩) (h2:(xs.drop s).any p=true→∀i,Q .ret ⟨tmOf i,hpOf i,b⟩):
 ∀(m i:Nat),i+m=xs.length→s≤i→((xs.drop s).any p=(xs.drop i).any p)→WR Ev lp (m+1) ⟨tmOf i,hpOf i,b⟩ Q
 | 0,i,hi,hs,hj=>by
  have e:i=xs.length:=by omega
  subst e;refine Zdj keep hm hX (k:=k) (by rw [hL];exact he _ (h1 (by rw [hj,List.drop_length];rfl)))
 | m+1,i,hi,hs,hj=>by
  have hlt:i<xs.length:=by omega
  have hx:xs[i]? =some xs[i]:=Zbb hlt;have hd:xs.drop i=xs[i]::xs.drop (i+1):=List.drop_eq_getElem_cons hlt;refine Zdj keep hm hX (k:=k) (by
   rw [hL];refine hr i xs[i] hs hlt hx _ (fun hp=>h2 (by rw [hj,hd,List.any_cons,hp];rfl) i) fun hp=> ?_;exact WR.scanG keep hm hX xs p tmOf hpOf hL id s hr he h1 h2 m (i+1) (by omega) (by omega) (by rw [hj,hd,List.any_cons,hp];rfl))
theorem BFp9 (xs:List (List Dv)) (r:List Dv):flatA (xs++ [r])=flatA xs++r.map .d:=by simp [flatA]
def nsB (ly:LayT) (t:TabT) (l:List NearT) (me fr:Int) (c3 c4:List AV) (i:Nat):List Blk:= [layF ly true,tabB t,sideB ly me fr (.gref 5 (i - 1) i 31),junkB c3,junkB c4,growB (i - 1) (flatA ((l.take i).map (AMg9 ly)))]
theorem CHm9 {ly:LayT} {t:TabT} {l:List NearT} {me fr:Int} {c3 c4:List AV} (h3:lows 6 c3=true) (h4:lows 6 c4=true) (i:Nat):Zbk (nsB ly t l me fr c3 c4 i) (fun blk=>lows 6 blk.1)=true:=by
 simp only [nsB,List.all_cons,List.all_nil,Bool.and_true,Zai];exact ⟨rfl,rfl,rfl,h3,h4,ACu9 6 _⟩
theorem BPv9 {ly:LayT} (h:1≤ly.no∧ly.no≤1000000) (n:Int):inN n (Zad Zbc (ly.no - 1))= !(decide (n<0)||decide (n≥ly.no)):=by
 rw [AAx9 (by omega) (by omega),inN];by_cases h1:n<0
 ·simp [h1];omega
 ·by_cases h2:n≥ly.no
  ·simp [h1,h2];omega
  ·simp [h1,h2];omega
theorem CDl9 (n fr:Int):inN n fr= !(decide (n<0)||decide (n>fr)):=by
 rw [inN];by_cases h1:n<0
 ·simp [h1];omega
 ·by_cases h2:n>fr
  ·simp [h1,h2]
  ·simp [h1,h2];omega
theorem wrNs1 {Ev:Env prog} {b:Ev.β} {Q:Exit→St Ev.β→Prop} (ly:LayT) (t:TabT) (l:List NearT) (me fr:Int) (c3 c4:List AV) (hc3:lows 6 c3=true) (hc4:lows 6 c4=true) (hno:1≤ly.no∧ly.no≤1000000) (hl:l.length<1000000) (hx:∀x∈l,ACf9 x)
 (h1:((AAe9 none l).drop 1).any (badN ly me fr)=false→Q (.exit 0) ⟨tmNs l me fr l.length,nsB ly t l me fr c3 c4 l.length,b⟩) (h2:((AAe9 none l).drop 1).any (badN ly me fr)=true→∀(i:Nat),Q .ret ⟨tmNs l me fr i,nsB ly t l me fr c3 c4 i,b⟩) (m:Nat) (hm:1+m=l.length):
 WR Ev lpNs (m+1) ⟨tmNs l me fr (1:Nat),nsB ly t l me fr c3 c4 1,b⟩ Q:=by
 have e:=ADw9 l none;have low:=fun i=>CHm9 (ly:=ly) (t:=t) (l:=l) (me:=me) (fr:=fr) hc3 hc4 i;refine WR.scanG (X:=⟨TNs,UNs,wlW Ev,Ev.Y,false⟩) (k:=100) (L:=6) [2,3,4,5,10,11,12,39,40,41] mixed (CX.Ok.of CFp9 CFi9) (AAe9 none l) (badN ly me fr) (fun i=>tmNs l me fr (i:Nat)) (fun i=>nsB ly t l me fr c3 c4 i) (fun i=>rfl) 0 1 (fun i p hs hi hp K k1 k2=> ?_) (fun K k1=> ?_) (fun h=>by simp only [e];exact h1 h) (fun h i=>h2 h i) m 1 (by rw [e];exact hm) (Zaw _) rfl
 ·obtain ⟨g1,g2,g3⟩:=AEr9 l none i p hp;obtain ⟨o,x⟩:=p;simp only at g1 g2 g3;have hxl:ACf9 x:=hx x (Zbn g1);obtain ⟨j,rfl⟩:∃j,i=j+1:=⟨i - 1,by omega⟩;obtain ⟨w,hw,hj⟩:=g3 j rfl;refine Eq.mpr (rNs _ _ _ K ly t l me fr ((j+1:Nat):Int) j (j+1) c3 c4 _) ?_;refine Zaz (by simp;omega) (Zaz (natI _) ⟨_,ABc9 g1, ?_⟩);refine ⟨_,_,_,rfl,rfl, ?_⟩;rw [BPv9 hno,Zfs];refine Zba (fun c1=>Zaz (low (j+1)) (k1 (by rw [badN,←Bool.or_assoc];simp only [c1,Zei]))) fun c1=>Zba (fun c2=>Zaz (low (j+1)) (k1 (by rw [badN];simp only [show (x.fm==me)=true from c2,Zei,Zfb]))) fun c2=>Zaz (by simp) ?_;rw [show Zad Zbc (((j+1:Nat):Int) - 1)=((j:Nat):Int) by rw [AAx9 (by omega) (by omega)];omega];refine Zaz (natI j) ⟨_,ABc9 hj,Zba (fun c3=>Zaz (low (j+1)) (k1 ?_)) fun c3=>⟨_,_,_,rfl,rfl, ?_⟩⟩
  ·have hpv:ARf9 o x.fm=true:=by rw [hw];exact c3
   rw [badN];simp only [hpv,Zfb]
  ·rw [CDl9,Zfs];refine Zba (fun c4=>Zaz (low (j+1)) (k1 ?_)) fun c4=> ?_
   ·rcases (Zeb ..).mp c4 with c4|c4<;> · rw [badN];simp only [c4,Zei,Zfb]
   ·have hpv:ARf9 o x.fm=false:=by rw [hw];exact c3
    have hb:badN ly me fr (o,x)=false:=by
     rw [Zeo] at c1 c4;rw [badN,c1.1,c1.2,show (x.fm==me)=false from c2,c4.1,c4.2,hpv];rfl
    have hk:=k2 hb;have htk:(l.take (j+1+1)).map (AMg9 ly)=(l.take (j+1)).map (AMg9 ly)++ [AMg9 ly x]:=by
     rw [Zfm,g1];simp
    have hl2:=low (j+1+1);simp only [nsB,htk,BFp9] at hk hl2;refine ⟨x.us,ly,_,rfl,⟨hxl.1,rfl⟩,x.gs,ly,_,rfl,⟨hxl.2.1,rfl⟩,x.ak,ly,_,rfl,⟨hxl.2.2,rfl⟩,rfl,by omega,Zaz hl2 ?_⟩;rw [wrapN (by omega)];exact hk
 ·simp only [e] at k1 ⊢;refine Eq.mpr (rNs _ _ _ K ly t l me fr l.length (l.length - 1) l.length c3 c4 _) ?_;exact Zda (by simp) (Zaz (low l.length) k1)
def nsB0 (ly:LayT) (t:TabT) (me fr:Int):List Blk:= [layF ly false,tabB t,sideB ly me fr (.d (.s (.slice none 0 0)))]
theorem wrNs {Ev:Env prog} {b:Ev.β} {Q:Exit→St Ev.β→Prop} (ly:LayT) (t:TabT) (l:List NearT) (me fr:Int) (hno:1≤ly.no∧ly.no≤1000000) (hl:l.length<1000000) (hx:∀x∈l,ACf9 x)
 (h0:l= []→Q (.exit 0) ⟨tmNs l me fr l.length,nsB0 ly t me fr,b⟩) (h1:l≠ []→(AAe9 none l).any (badN ly me fr)=false→∀c3 c4,Q (.exit 0) ⟨tmNs l me fr l.length,nsB ly t l me fr c3 c4 l.length,b⟩) (h2:(AAe9 none l).any (badN ly me fr)=true→∀(i:Nat) (hp:List Blk),Q .ret ⟨tmNs l me fr i,hp,b⟩):
 WR Ev lpNs (l.length+1) ⟨tmNs l me fr (0:Nat),nsB0 ly t me fr,b⟩ Q:=by
 refine WR.ofMaskT (X:=⟨TNs,UNs,wlW Ev,Ev.Y,false⟩) (k:=100) [2,3,4,5,10,11,12,39,40,41] mixed (CX.Ok.of CFp9 CFi9) ?_;refine Eq.mpr (rNs0 _ _ _ _ ly t l me fr ((0:Nat):Int)) ?_;cases l with
 |nil=>exact Zda (by simp) (h0 rfl)
 | cons x r=>
  have hxl:ACf9 x:=hx x (Zbv ..);have g1:(x::r)[0]? =some x:=rfl;have hwp:AAe9 none (x::r)=(none,x)::AAe9 (some x) r:=rfl;refine Zaz (by simp) (Zaz (natI 0) ⟨_,ABc9 g1, ?_⟩);refine ⟨_,_,_,rfl,rfl, ?_⟩;rw [BPv9 hno,Zfs];have bad:badN ly me fr (none,x)=true→∀(i:Nat) (hp:List Blk),Q .ret ⟨tmNs (x::r) me fr i,hp,b⟩:=fun h=>h2 (by rw [hwp,List.any_cons,h];rfl);refine Zba (fun c1=>bad (by rw [badN,←Bool.or_assoc];simp only [c1,Zei]) 0 _) fun c1=>Zba (fun c2=>bad (by rw [badN];simp only [show (x.fm==me)=true from c2,Zei,Zfb]) 0 _) fun c2=>Zda (by decide) ?_;refine ⟨_,_,_,rfl,rfl, ?_⟩;rw [CDl9,Zfs];refine Zba (fun c4=>bad ?_ 0 _) fun c4=> ?_
  ·rcases (Zeb ..).mp c4 with c4|c4<;> · rw [badN];simp only [c4,Zei,Zfb]
  ·have hb:badN ly me fr (none,x)=false:=by
    rw [Zeo] at c1 c4;rw [badN,c1.1,c1.2,show (x.fm==me)=false from c2,c4.1,c4.2];rfl
   have hd:(AAe9 none (x::r)).drop 1=AAe9 (some x) r:=rfl;have hk:=fun c3 c4 h3 h4=>wrNs1 (Q:=Q) ly t (x::r) me fr c3 c4 h3 h4 hno hl hx (fun h=>h1 (by simp) (by rw [hwp,List.any_cons,hb];rw [hd] at h;exact h) c3 c4) (fun h i=>h2 (by rw [hwp,List.any_cons,hb];rw [hd] at h;exact h) i _) r.length (by simp;omega);refine ⟨x.us,ly,_,rfl,⟨hxl.1,rfl⟩,x.gs,ly,_,rfl,⟨hxl.2.1,rfl⟩,x.ak,ly,_,rfl,⟨hxl.2.2,rfl⟩,by decide, ?_⟩;rw [wrapN (by omega)];exact hk _ _ rfl rfl
def wlNs {β:Type}:WLT β:=fun cd tm hp b K=>∃(ly:LayT) (t:TabT) (l:List NearT) (me fr:Int) (q:Bool),cd= .loop lpNs∧AAv9 [2,3,4,5,10,11,12,39,40,41] 0 tm=tmNs l me fr 0∧hp=nsB0 ly t me fr∧
 ((1≤ly.no∧ly.no≤1000000)∧l.length<1000000∧(∀x∈l,ACf9 x)∧q=(AAe9 none l).any (badN ly me fr))∧
 BIf q (∀(i:Nat) (hp:List Blk),K .ret (tmNs l me fr i) hp b) (BIf l.isEmpty (K (.exit 0) (tmNs l me fr l.length) (nsB0 ly t me fr) b) (∀(c3 c4:List AV),K (.exit 0) (tmNs l me fr l.length) [layF ly true,tabB t,sideB ly me fr (.gref 5 (l.length - 1) l.length 31),junkB c3,junkB c4,growB (l.length - 1) (flatA (l.map (AMg9 ly)))] b))
theorem BZy9 {Ev:Env prog} (c:Code) (tm:List AV) (hp:List Blk) (b:Ev.β) (K:Exit→List AV→List Blk→Ev.β→Prop) (h:wlNs c tm hp b K):W Ev c ⟨tm,hp,b⟩ (fun e s=>K e s.tm s.hp s.b):=by
 obtain ⟨ly,t,l,me,fr,q,rfl,htm,rfl,⟨hno,hl,hx,hz⟩,hK⟩:=h;refine W.cast (htm▸AAb9 _ tm 0) (Zbp _) ?_;refine W.rounds (wrNs (Q:=fun e s=>K e s.tm s.hp s.b) ly t l me fr hno hl hx (fun h=> ?_) (fun hne h c3 c4=> ?_) fun h=>by rw [hz,h] at hK;exact hK)
 ·subst h;rw [hz] at hK;exact hK
 ·rw [hz,h] at hK;cases l with
  |nil=>exact absurd rfl hne
  | cons x r=>
   have hK':=(show ∀(c3 c4:List AV),_ from hK) c3 c4;simp only [nsB,Zdd];exact hK'
def TNf:List (Nat×(List AV→(AV→Prop)→Prop)):= [(73,BNn9),(36,cIn)]
theorem CIm9:AAc9 prog TNf:=Zaj APt9 (Zaj BHd9 Zak)
abbrev Qz61:List AV:= [Zae (Zdy (Zcc none)),Zae (bo false)]
theorem ns_nf (ly:LayT) (t:TabT) (l:List NearT) (me fr:Int):wpFn prog ⟨TNf, [],wlNs,y,false⟩ 100 f35 [layA ly,tabA t, .d (i64 me), .d (.sl 31 (rowsN l)), .d (i64 fr)] b R=(∃(t0:TabT) (l1:LayT) (q2:Bool), [Zaq (Qz1 t),Zaq (Qz3 ly)]= [Zaq (Qz1 t0),Zaq (Qz3 l1)]∧(TabOk t0∧q2=ACq9 t0 l1)∧BIf (!q2) (R (.tup Qz61) b) (∃(n3:Int) (h4:Int) (z5:Bool), [Zae (i64 me),Zae (i64 (Zad .i64 (Zfc ly - (1:Int))))]= [Zae (i64 n3),Zae (i64 h4)]∧z5=inN n3 h4∧BIf (!z5) (R (.tup Qz61) b) (∃(n6:Int) (h7:Int) (z8:Bool), [Zae (i64 fr),Zae (i64 999999992)]= [Zae (i64 n6),Zae (i64 h7)]∧z8=inN n6 h7∧BIf (!z8) (R (.tup Qz61) b) (∃(ly9:LayT) (t10:TabT) (l11:List NearT) (me12:Int) (fr13:Int) (q14:Bool),Zat lpNs=Zat lpNs∧(Zab::Zab::Zae (i64 me)::Zae (Zan 31 (rowsN l))::Zae (i64 fr)::Zaf 0 0::bds 4 (Zae (Zdy (Zcc none))::Zae (bo false)::Zaf 2 0::bds 26 (Zae (Zan 31 (rowsN l))::Zae (i64 ((Zaa (rowsN l):Nat):Int))::Zae (i64 0)::bds 75 [])))=(Zab::Zab::Zae (i64 me12)::Zae (Zan 31 (rowsN l11))::Zae (i64 fr13)::Zaf 0 0::bds 4 (Zae (Zdy (Zcc none))::Zae (bo false)::Zaf 2 0::bds 26 (Zae (Zan 31 (rowsN l11))::Zae (i64 ((Zaa l11:Nat):Int))::Zae (i64 0)::bds 75 [])))∧(Qz45 ly t me fr)=(Qz45 ly9 t10 me12 fr13)∧(((1:Int)≤Zfc ly9∧Zfc ly9≤(1000000:Int))∧Zaa l11<1000000∧(∀(x:NearT),x∈l11→ACf9 x)∧q14=Zcv (AAe9 none l11) (badN ly9 me12 fr13))∧BIf q14 (∀(i:Nat) (hp:List Blk),R (.tup Qz61) b) (BIf (Zfw l11) (R (.tup [Zag [i64 (Zfc ly9),i64 (Zcx ly9),i64 me12,Zdy (.slice none 0 0),i64 fr13],Zae (bo true)]) b) (∀(c3 c4:List AV),Zaa l11 - 1=Zaa l11 - 1∧∃(xs15:List (List Dv)),flatA (List.map (AMg9 ly9) l11)=flatA xs15∧Zaa xs15=Zaa l11∧(∀(r:List Dv),r∈xs15→Zaa r=31)∧R (.tup [Zag [i64 (Zfc ly9),i64 (Zcx ly9),i64 me12,Zan 31 xs15,i64 fr13],Zae (bo true)]) b)))))):=by kernel_rfl
theorem SemV.tup2 {a a' b:AV} (h:SemV a a'):SemV (.tup [a,b]) (.tup [a',b]):=by
 intro S w m yv v hr;cases hr with
 | tup hl h0=>
  refine .tup hl fun i c v hc hv=> ?_
  match i,hc with
  |0,hc=>simp at hc;subst hc;exact h _ _ _ _ _ (h0 0 a v (by simp) hv)
  |1,hc=>exact h0 1 c v hc hv
theorem SemV.rptr {cs ds:List Dv} (hl:cs.length=ds.length) (h:∀(j:Nat) (c d:Dv),cs[j]? =some c→ds[j]? =some d→ATb9 c d∨∃k xs ys,c= .sl k xs∧d= .sl k ys∧AJz9 xs ys):SemV (.rptr cs) (.rptr ds):=by
 intro S w m yv v hr;cases hr with
 | rptr vals hne hsp hs hc hr h1=>
  have get:∀(j:Nat) (d:Dv),ds[j]? =some d→∃c,cs[j]? =some c:=fun j d hd=>by
   have:=(Zac.1 hd).1;exact ⟨cs[j]'(by omega),Zbb (by omega)⟩
  refine .rptr vals (fun e=>hne (List.length_eq_zero_iff.1 (by rw [hl,e];rfl))) hsp (fun j d hd=> ?_) (fun j d hd=> ?_) (fun j d hd=> ?_) (fun j d hd=> ?_);all_goals obtain ⟨c,hc0⟩:=get j d hd
  ·exact hs j c hc0
  ·exact hc j c hc0
  ·rcases h j c d hc0 hd with h2|⟨k,xs,ys,rfl,rfl,h2⟩
   ·exact h2.dr (hr j c hc0)
   ·exact h2.dr (hr j _ hc0)
  ·exact h1 j c hc0
def newS (ly:LayT) (t:TabT) (me:Int) (l:List NearT) (fr:Int):Bool:=ACq9 t ly&&(inN me (Zad Zbc (ly.no - 1))&&(inN fr 999999992&& !(AAe9 none l).any (badN ly me fr)))
def sideS (ly:LayT) (me:Int) (l:List NearT) (fr:Int):SideT:=⟨ly,me,l.map (filN ly),fr⟩
def nsA (q:Bool) (s:SideT):AV:= .tup [if q then .rptr (sideD s) else .d nilP, .d (bo q)]
theorem AWt9 (ly:LayT):∀l:List NearT,AJz9 (l.map (AMg9 ly)) (rowsN (l.map (filN ly)))
 | []=> .nil
 |n::r=> .cons (AQi9 n.fm (fTab ly n) n.fr) (AWt9 ly r)
theorem CAv9 (ly:LayT) (me:Int) (l:List NearT) (fr:Int):SemV (.rptr [i64 ly.no,i64 ly.da,i64 me, .sl 31 (l.map (AMg9 ly)),i64 fr]) (.rptr (sideD (sideS ly me l fr))):=by
 refine SemV.rptr rfl fun j c d hc hd=> ?_
 match j,hc,hd with
 |0,hc,hd=>simp [sideD,sideS] at hc hd;subst hc;subst hd;exact .inl .rfl
 |1,hc,hd=>simp [sideD,sideS] at hc hd;subst hc;subst hd;exact .inl .rfl
 |2,hc,hd=>simp [sideD,sideS] at hc hd;subst hc;subst hd;exact .inl .rfl
 |3,hc,hd=>simp [sideD,sideS] at hc hd;subst hc;subst hd;exact .inr ⟨31,_,_,rfl,rfl,AWt9 ly l⟩
 |4,hc,hd=>simp [sideD,sideS] at hc hd;subst hc;subst hd;exact .inl .rfl
theorem BTj9 (ly:LayT) (me fr:Int):SemV (.rptr [i64 ly.no,i64 ly.da,i64 me,Zdy (Zcw none 0 0),i64 fr]) (.rptr (sideD (sideS ly me [] fr))):=by
 refine SemV.rptr rfl fun j c d hc hd=> ?_
 match j,hc,hd with
 |0,hc,hd=>simp [sideD,sideS] at hc hd;subst hc;subst hd;exact .inl .rfl
 |1,hc,hd=>simp [sideD,sideS] at hc hd;subst hc;subst hd;exact .inl .rfl
 |2,hc,hd=>simp [sideD,sideS] at hc hd;subst hc;subst hd;exact .inl .rfl
 |3,hc,hd=>simp [sideD,sideS,rowsN] at hc hd;subst hc;subst hd;exact .inl .nil
 |4,hc,hd=>simp [sideD,sideS] at hc hd;subst hc;subst hd;exact .inl .rfl
theorem BFs9 (ly:LayT) (l:List NearT):∀r∈l.map (AMg9 ly),r.length=31:=by
 intro r hr;simp only [Zbg] at hr;obtain ⟨x,_,rfl⟩:=hr;rfl
theorem ACa9 {t:TabT} {l:LayT} (h:ACq9 t l=true):(1≤l.no∧l.no≤60)∧(1≤l.da∧l.da≤60):=by
 unfold ACq9 at h;split at h<;>try (cases h;done)
 split at h<;>try (cases h;done)
 split at h<;>try (cases h;done)
 split at h<;>try (cases h;done)
 omega
theorem pcNew (ly:LayT) (t:TabT) (me:Int) (l:List NearT) (fr:Int) (ht:TabOk t) (hl:l.length<1000000) (hx:∀x∈l,ACf9 x):
 PCall prog 35 [layA ly,tabA t, .d (i64 me), .d (.sl 31 (rowsN l)), .d (i64 fr)] (nsA (newS ly t me l fr) (sideS ly me l fr)):=by
 have key:PCall prog 35 [layA ly,tabA t, .d (i64 me), .d (.sl 31 (rowsN l)), .d (i64 fr)] (.tup [if newS ly t me l fr then .rptr [i64 ly.no,i64 ly.da,i64 me,if l.isEmpty then Zdy (Zcw none 0 0) else .sl 31 (l.map (AMg9 ly)),i64 fr] else .d nilP, .d (bo (newS ly t me l fr))]):=by
  refine Zcu (n:=100) (u:=false) (fun _=>wlNs) mixed CIm9 Zah (fun Ev=>BZy9) func35 (by rfl) (by rfl) fun Ev bb=> ?_;rw [ns_nf,ABm9];refine ⟨t,ly,_,rfl,⟨ht,rfl⟩,Zba (fun h1=> ?_) fun h1=>⟨_,_,_,rfl,rfl,Zba (fun h2=> ?_) fun h2=>⟨_,_,_,rfl,rfl,Zba (fun h3=> ?_) fun h3=> ?_⟩⟩⟩
  ·rw [Zcb] at h1;rw [newS,h1];rfl
  ·rw [Zcb] at h2;rw [newS,h2,Zcj,Zcs];rfl
  ·rw [Zcb] at h3;rw [newS,h3,Zcj,Zcs,Zcs];rfl
  ·rw [Zej] at h1 h2 h3;have hv:=ACa9 h1;refine ⟨ly,t,l,me,fr,_,rfl,rfl,rfl,⟨⟨hv.1.1,by omega⟩,hl,hx,rfl⟩,Zba (fun h4 i hp=> ?_) fun h4=> ?_⟩
   ·rw [newS,h1,h2,h3,h4];rfl
   ·rw [newS,h1,h2,h3,h4];refine Zba (fun h5=> ?_) fun h5=> ?_
    ·rw [h5];rfl
    ·intro c3 c4;rw [h5];exact ⟨rfl,l.map (AMg9 ly),rfl,by simp,BFs9 ly l,rfl⟩
 refine PCall.semRes ?_ key;cases hq:newS ly t me l fr with
 |false=>exact SemV.rfl
 | true=>
  refine SemV.tup2 ?_;cases l with
  |nil=>exact BTj9 ly me fr
  |cons x r=>exact CAv9 ly me (x::r) fr
def cNew (args:List AV) (K:AV→Prop):Prop:=∃(ly:LayT) (t:TabT) (me:Int) (l:List NearT) (fr:Int) (s:SideT) (q:Bool),args= [layA ly,tabA t, .d (i64 me), .d (.sl 31 (rowsN l)), .d (i64 fr)]∧(TabOk t∧l.length<1000000∧(∀x∈l,ACf9 x)∧q=newS ly t me l fr∧s=sideS ly me l fr)∧BIf q (K (.tup [.rptr (sideD s), .d (bo true)])) (K (.tup [.d nilP, .d (bo false)]))
theorem BGx9:∀args K,cNew args K→∃x,PCall prog 35 args x∧K x:=by
 rintro _ K ⟨ly,t,me,l,fr,_,q,rfl,⟨ht,hl,hx,hq,rfl⟩,hk⟩;refine ⟨_,pcNew ly t me l fr ht hl hx, ?_⟩;rw [←hq];cases q with
 |true=>exact hk
 |false=>exact hk
theorem CCx9 (x:GraT) (fr:Int):wpFn prog ⟨[], [],wl,y,false⟩ 100 f96 [graA x, .rptr [i64 fr]] b R=(R (Zae (bo (decide (Zeh x<fr)))) b):=by kernel_rfl
theorem CCy9 (x:AskT) (sl:Int):wpFn prog ⟨[], [],wl,y,false⟩ 100 f138 [askA x, .rptr [i64 sl]] b R=(R (Zae (bo (Zcr x==sl))) b):=by kernel_rfl
theorem CHb9 (x:GraT) (fr:Int):PCall prog 96 [graA x, .rptr [i64 fr]] (.d (bo (decide (x.un<fr)))):=by
 refine Zbf (n:=100) (u:=false) mixed Zak Zah func96 (by rfl) (by rfl) fun Ev bb=> ?_;rw [CCx9]
def cOutG (args:List AV) (K:AV→Prop):Prop:=∃(x:GraT) (fr:Int) (q:Bool),args= [graA x, .rptr [i64 fr]]∧q=decide (x.un<fr)∧K (.d (bo q))
theorem BXm9:∀args K,cOutG args K→∃x,PCall prog 96 args x∧K x:=by
 rintro _ K ⟨x,fr,_,rfl,rfl,hk⟩;exact ⟨_,CHb9 x fr,hk⟩
theorem CHc9 (x:AskT) (sl:Int):PCall prog 138 [askA x, .rptr [i64 sl]] (.d (bo (x.sl==sl))):=by
 refine Zbf (n:=100) (u:=false) mixed Zak Zah func138 (by rfl) (by rfl) fun Ev bb=> ?_;rw [CCy9]
def cOutA (args:List AV) (K:AV→Prop):Prop:=∃(x:AskT) (sl:Int) (q:Bool),args= [askA x, .rptr [i64 sl]]∧q=(x.sl==sl)∧K (.d (bo q))
theorem BXn9:∀args K,cOutA args K→∃x,PCall prog 138 args x∧K x:=by
 rintro _ K ⟨x,sl,_,rfl,rfl,hk⟩;exact ⟨_,CHc9 x sl,hk⟩
def TOutG:List (Nat×(List AV→(AV→Prop)→Prop)):= [(95,BNr9),(96,cOutG)]
theorem BYf9:AAc9 prog TOutG:=Zaj APu9 (Zaj BXm9 Zak)
def TOutA:List (Nat×(List AV→(AV→Prop)→Prop)):= [(118,BXg9),(138,cOutA)]
theorem BYg9:AAc9 prog TOutA:=Zaj AXb9 (Zaj BXn9 Zak)
def TInsG:List (Nat×(List AV→(AV→Prop)→Prop)):= [(95,BNr9),(167,BOg9)]
theorem BYm9:AAc9 prog TInsG:=Zaj APu9 (Zaj APw9 Zak)
def TInsU:List (Nat×(List AV→(AV→Prop)→Prop)):= [(108,BXf9),(170,BOf9)]
theorem BYl9:AAc9 prog TInsU:=Zaj AXa9 (Zaj APv9 Zak)
theorem BNa9 (x:GraT) (fr:Int):wpFn prog ⟨TOutG, [],wl,y,false⟩ 100 f132 ([graA x]++ [.rptr [.fn (.func 96) [.pt [i64 fr]]], .rptr [.fn (.func 95) []]]) b R=(∃(u0:GraT), [Zaq (Qz5 x)]= [Zaq (Qz5 u0)]∧∃(x1:GraT) (fr2:Int) (q3:Bool), [Zaq (Qz5 u0),Zag [i64 fr]]= [Zaq (Qz5 x1),Zag [i64 fr2]]∧q3=decide (Zeh x1<fr2)∧R (.d (bo q3)) b):=by kernel_rfl
theorem BUl9 (x:GraT) (fr:Int):PCall prog 132 ([graA x]++ [.rptr [.fn (.func 96) [.pt [i64 fr]]], .rptr [.fn (.func 95) []]]) (.d (bo ((fun x:GraT=>decide (x.un<fr)) x))):=by
 refine Zbf (n:=100) (u:=false) mixed BYf9 Zah func132 (by rfl) (by rfl) fun Ev bb=> ?_;rw [BNa9];exact ⟨x,rfl,x,fr,_,rfl,rfl,rfl⟩
def BId9 (args:List AV) (K:AV→Prop):Prop:=∃(x:GraT) (fr:Int) (q:Bool),args= [graA x]++ [.rptr [.fn (.func 96) [.pt [i64 fr]]], .rptr [.fn (.func 95) []]]∧(q=(fun x:GraT=>decide (x.un<fr)) x)∧K (.d (bo q))
theorem ASt9:∀args K,BId9 args K→∃x,PCall prog 132 args x∧K x:=by
 rintro _ K ⟨x,fr,_,rfl,rfl,hk⟩;exact ⟨_,BUl9 x fr,hk⟩
def BYo9:List (Nat×(List AV→(AV→Prop)→Prop)):= [(132,BId9)]
theorem BOr9:AAc9 prog BYo9:=Zaj ASt9 Zak
noncomputable def ARt9:Code:=sub [1,0,1,2,3] (code f54)
def AHt9 (l:List GraT) (fr:Int) (q i:Int):List AV:= [.d (.sl 5 (rowsG l)), .fn (.func 132) [] [.rptr [.fn (.func 96) [.pt [i64 fr]]], .rptr [.fn (.func 95) []]], .bad, .bad, .d (i64 q), .bad, .bad, .d (i64 l.length), .d (i64 i)]++Zap 10 .bad
theorem CBp9 (l:List GraT) (fr:Int) (i:Int):wpc prog ⟨BYo9, [],wl,y,false⟩ 100 ARt9 (AHt9 l fr 0 i) [] b (maskK 0 [0,1,4,7,8] K)=(BIf (decide (i<((Zaa l:Nat):Int))) (BIf (true&&decide (0≤i)) (∃(x0:Int) (x1:Int) (x2:Int) (x3:Int) (x4:Int),(rowsG l)[Zam i]? =some (Qz41 x0 x1 x2 x3 x4)∧∃(x7:GraT) (fr8:Int) (q9:Bool), [Zaq (Qz22 x0 x1 x2 x3 x4),Zag [Zcq (Fn.func 96) [Zdr [i64 fr]]],Zag [Zcq (Fn.func 95) []]]= [Zaq (Qz5 x7),Zag [Zcq (Fn.func 96) [Zdr [i64 fr8]]],Zag [Zcq (Fn.func 95) []]]∧q9=decide (Zeh x7<fr8)∧BIf q9 (K .ret (Zae (Zan 5 (rowsG l))::Zax (Fn.func 132) [] [Zag [Zcq (Fn.func 96) [Zdr [i64 fr]]],Zag [Zcq (Fn.func 95) []]]::Zab::Zab::Zae (i64 i)::Zab::Zab::Zae (i64 ((Zaa l:Nat):Int))::Zae (i64 i)::bds 10 []) [] b) (K .normal (Zae (Zan 5 (rowsG l))::Zax (Fn.func 132) [] [Zag [Zcq (Fn.func 96) [Zdr [i64 fr]]],Zag [Zcq (Fn.func 95) []]]::Zab::Zab::Zae (i64 0)::Zab::Zab::Zae (i64 ((Zaa l:Nat):Int))::Zae (i64 (Zad .i64 (i+1)))::bds 10 []) [] b)) False) (K (Zbj 0) (Zae (Zan 5 (rowsG l))::Zax (Fn.func 132) [] [Zag [Zcq (Fn.func 96) [Zdr [i64 fr]]],Zag [Zcq (Fn.func 95) []]]::Zab::Zab::Zae (i64 0)::Zab::Zab::Zae (i64 ((Zaa l:Nat):Int))::Zae (i64 i)::bds 10 []) [] b)):=by kernel_rfl
theorem BZg9 {Ev:Env prog} {b:Ev.β} {Q:Exit→St Ev.β→Prop} (l:List GraT) (fr:Int) (hl:l.length≤9223372036854775807) (h1:l.findIdx? (fun x:GraT=>decide (x.un<fr))=none→∀i:Int,Q (.exit 0) ⟨AHt9 l fr 0 i, [],b⟩) (h2:∀j:Nat,l.findIdx? (fun x:GraT=>decide (x.un<fr))=some j→Q .ret ⟨AHt9 l fr j j, [],b⟩):
 WR Ev ARt9 (l.length+1) ⟨AHt9 l fr 0 (0:Nat), [],b⟩ Q:=by
 refine Zfq (X:=⟨BYo9, [],wlW Ev,Ev.Y,false⟩) (k:=100) [0,1,4,7,8] mixed (CX.Ok.of BOr9 Zah) l (fun x:GraT=>decide (x.un<fr)) (fun i=>AHt9 l fr 0 (i:Nat)) (fun i=>AHt9 l fr (i:Nat) (i:Nat)) [] 0 (fun i x hi hxi K k1 k2=> ?_) (fun K k1=> ?_) (fun h=>h1 h _) h2
 ·refine Eq.mpr (CBp9 _ _ _ K l fr i) ?_;rw [ABj9 hxi];refine Zaz (by simp;omega) (Zaz (natI i) ⟨_,_,_,_,_,rfl,x,fr,_,rfl,rfl,Zba (fun g=>k1 g) fun g=> ?_⟩);rw [wrapN (by omega)];exact k2 g
 ·refine Eq.mpr (CBp9 _ _ _ K l fr _) ?_;exact Zda (by simp) k1
def BCe9 {β:Type}:WLT β:=fun cd tm hp b K=>∃(l:List GraT) (fr:Int) (q:Int),cd= .loop ARt9∧AAv9 [0,1,4,7,8] 0 tm=AHt9 l fr 0 0∧hp= []∧(l.length≤9223372036854775807∧q=idxS (fun x:GraT=>decide (x.un<fr)) l)∧(∀i:Int,q= -1→K (.exit 0) (AHt9 l fr 0 i) [] b)∧(∀i:Int,0≤q→K .ret (AHt9 l fr q i) [] b)
theorem BCd9 {Ev:Env prog} (c:Code) (tm:List AV) (hp:List Blk) (b:Ev.β) (K:Exit→List AV→List Blk→Ev.β→Prop) (h:BCe9 c tm hp b K):W Ev c ⟨tm,hp,b⟩ (fun e s=>K e s.tm s.hp s.b):=by
 obtain ⟨l,fr,q,rfl,htm,rfl,⟨hl,rfl⟩,hK1,hK2⟩:=h;refine W.cast (htm▸AAb9 _ tm 0) (Zbp _) ?_;exact W.rounds (BZg9 (Q:=fun e s=>K e s.tm s.hp s.b) l fr hl (fun h i=>hK1 i (ABb9 h)) fun j h=>by have:=hK2 j (by rw [AAj9 h];omega);rwa [AAj9 h] at this)
theorem BEx9 (l:List GraT) (fr:Int):wpFn prog ⟨[], [],BCe9,y,false⟩ 100 f54 [.d (.sl 5 (rowsG l)), .fn (.func 132) [] [.rptr [.fn (.func 96) [.pt [i64 fr]]], .rptr [.fn (.func 95) []]]] b R=(∃(l0:List GraT) (fr1:Int) (q2:Int),Zat ARt9=Zat ARt9∧(Zae (Zan 5 (rowsG l))::Zax (Fn.func 132) [] [Zag [Zcq (Fn.func 96) [Zdr [i64 fr]]],Zag [Zcq (Fn.func 95) []]]::Zab::Zab::Zae (i64 0)::Zab::Zab::Zae (i64 ((Zaa (rowsG l):Nat):Int))::Zae (i64 0)::bds 10 [])=(Zae (Zan 5 (rowsG l0))::Zax (Fn.func 132) [] [Zag [Zcq (Fn.func 96) [Zdr [i64 fr1]]],Zag [Zcq (Fn.func 95) []]]::Zab::Zab::Zae (i64 0)::Zab::Zab::Zae (i64 ((Zaa l0:Nat):Int))::Zae (i64 0)::bds 10 [])∧([]:List Blk)= []∧(Zaa l0≤9223372036854775807∧q2=idxS (fun (x3:GraT)=>decide (Zeh x3<fr1)) l0)∧(∀(i:Int),q2=(-1:Int)→R (.d (i64 (-1))) b)∧∀(i:Int),(0:Int)≤q2→R (.d (i64 q2)) b):=by kernel_rfl
theorem BLe9 (l:List GraT) (fr:Int) (hl:l.length≤9223372036854775807):PCall prog 54 [.d (.sl 5 (rowsG l)), .fn (.func 132) [] [.rptr [.fn (.func 96) [.pt [i64 fr]]], .rptr [.fn (.func 95) []]]] (.d (i64 (idxS (fun x:GraT=>decide (x.un<fr)) l))):=by
 refine Zcu (n:=100) (u:=false) (fun _=>BCe9) mixed Zak Zah (fun Ev=>BCd9) func54 (by rfl) (by rfl) fun Ev bb=> ?_;rw [BEx9,AAf9];exact ⟨l,fr,_,rfl,rfl,rfl,⟨hl,rfl⟩,fun i h=>by rw [h],fun i h=>rfl⟩
def BHg9 (args:List AV) (K:AV→Prop):Prop:=∃(l:List GraT) (fr:Int) (q:Int),args= [.d (.sl 5 (rowsG l)), .fn (.func 132) [] [.rptr [.fn (.func 96) [.pt [i64 fr]]], .rptr [.fn (.func 95) []]]]∧(l.length≤9223372036854775807∧q=idxS (fun x:GraT=>decide (x.un<fr)) l)∧K (.d (i64 q))
theorem BAi9:∀args K,BHg9 args K→∃x,PCall prog 54 args x∧K x:=by
 rintro _ K ⟨l,fr,_,rfl,⟨hl,rfl⟩,hk⟩;exact ⟨_,BLe9 l fr hl,hk⟩
theorem BNb9 (x:AskT) (sl:Int):wpFn prog ⟨TOutA, [],wl,y,false⟩ 100 f148 ([askA x]++ [.rptr [.fn (.func 138) [.pt [i64 sl]]], .rptr [.fn (.func 118) []]]) b R=(∃(u0:AskT), [Zaq (Qz12 x)]= [Zaq (Qz12 u0)]∧∃(x1:AskT) (sl2:Int) (q3:Bool), [Zaq (Qz12 u0),Zag [i64 sl]]= [Zaq (Qz12 x1),Zag [i64 sl2]]∧q3=(Zcr x1==sl2)∧R (.d (bo q3)) b):=by kernel_rfl
theorem BUm9 (x:AskT) (sl:Int):PCall prog 148 ([askA x]++ [.rptr [.fn (.func 138) [.pt [i64 sl]]], .rptr [.fn (.func 118) []]]) (.d (bo ((fun x:AskT=>x.sl==sl) x))):=by
 refine Zbf (n:=100) (u:=false) mixed BYg9 Zah func148 (by rfl) (by rfl) fun Ev bb=> ?_;rw [BNb9];exact ⟨x,rfl,x,sl,_,rfl,rfl,rfl⟩
def BIe9 (args:List AV) (K:AV→Prop):Prop:=∃(x:AskT) (sl:Int) (q:Bool),args= [askA x]++ [.rptr [.fn (.func 138) [.pt [i64 sl]]], .rptr [.fn (.func 118) []]]∧(q=(fun x:AskT=>x.sl==sl) x)∧K (.d (bo q))
theorem ASu9:∀args K,BIe9 args K→∃x,PCall prog 148 args x∧K x:=by
 rintro _ K ⟨x,sl,_,rfl,rfl,hk⟩;exact ⟨_,BUm9 x sl,hk⟩
def BYp9:List (Nat×(List AV→(AV→Prop)→Prop)):= [(148,BIe9)]
theorem BOs9:AAc9 prog BYp9:=Zaj ASu9 Zak
noncomputable def ARu9:Code:=sub [1,0,1,2,3] (code f90)
def AHu9 (l:List AskT) (sl:Int) (q i:Int):List AV:= [.d (.sl 3 (rowsA l)), .fn (.func 148) [] [.rptr [.fn (.func 138) [.pt [i64 sl]]], .rptr [.fn (.func 118) []]], .bad, .bad, .d (i64 q), .bad, .bad, .d (i64 l.length), .d (i64 i)]++Zap 10 .bad
theorem CBq9 (l:List AskT) (sl:Int) (i:Int):wpc prog ⟨BYp9, [],wl,y,false⟩ 100 ARu9 (AHu9 l sl 0 i) [] b (maskK 0 [0,1,4,7,8] K)=(BIf (decide (i<((Zaa l:Nat):Int))) (BIf (true&&decide (0≤i)) (∃(x0:Int) (x1:Int) (x2:Int),(rowsA l)[Zam i]? =some [i64 x0,i64 x1,i64 x2]∧∃(x5:AskT) (sl6:Int) (q7:Bool), [Zaq (Qz31 x0 x1 x2),Zag [Zcq (Fn.func 138) [Zdr [i64 sl]]],Zag [Zcq (Fn.func 118) []]]= [Zaq (Qz12 x5),Zag [Zcq (Fn.func 138) [Zdr [i64 sl6]]],Zag [Zcq (Fn.func 118) []]]∧q7=(Zcr x5==sl6)∧BIf q7 (K .ret (Zae (Zan 3 (rowsA l))::Zax (Fn.func 148) [] [Zag [Zcq (Fn.func 138) [Zdr [i64 sl]]],Zag [Zcq (Fn.func 118) []]]::Zab::Zab::Zae (i64 i)::Zab::Zab::Zae (i64 ((Zaa l:Nat):Int))::Zae (i64 i)::bds 10 []) [] b) (K .normal (Zae (Zan 3 (rowsA l))::Zax (Fn.func 148) [] [Zag [Zcq (Fn.func 138) [Zdr [i64 sl]]],Zag [Zcq (Fn.func 118) []]]::Zab::Zab::Zae (i64 0)::Zab::Zab::Zae (i64 ((Zaa l:Nat):Int))::Zae (i64 (Zad .i64 (i+1)))::bds 10 []) [] b)) False) (K (Zbj 0) (Zae (Zan 3 (rowsA l))::Zax (Fn.func 148) [] [Zag [Zcq (Fn.func 138) [Zdr [i64 sl]]],Zag [Zcq (Fn.func 118) []]]::Zab::Zab::Zae (i64 0)::Zab::Zab::Zae (i64 ((Zaa l:Nat):Int))::Zae (i64 i)::bds 10 []) [] b)):=by kernel_rfl
theorem BZh9 {Ev:Env prog} {b:Ev.β} {Q:Exit→St Ev.β→Prop} (l:List AskT) (sl:Int) (hl:l.length≤9223372036854775807) (h1:l.findIdx? (fun x:AskT=>x.sl==sl)=none→∀i:Int,Q (.exit 0) ⟨AHu9 l sl 0 i, [],b⟩) (h2:∀j:Nat,l.findIdx? (fun x:AskT=>x.sl==sl)=some j→Q .ret ⟨AHu9 l sl j j, [],b⟩):
 WR Ev ARu9 (l.length+1) ⟨AHu9 l sl 0 (0:Nat), [],b⟩ Q:=by
 refine Zfq (X:=⟨BYp9, [],wlW Ev,Ev.Y,false⟩) (k:=100) [0,1,4,7,8] mixed (CX.Ok.of BOs9 Zah) l (fun x:AskT=>x.sl==sl) (fun i=>AHu9 l sl 0 (i:Nat)) (fun i=>AHu9 l sl (i:Nat) (i:Nat)) [] 0 (fun i x hi hxi K k1 k2=> ?_) (fun K k1=> ?_) (fun h=>h1 h _) h2
 ·refine Eq.mpr (CBq9 _ _ _ K l sl i) ?_;rw [ABk9 hxi];refine Zaz (by simp;omega) (Zaz (natI i) ⟨_,_,_,rfl,x,sl,_,rfl,rfl,Zba (fun g=>k1 g) fun g=> ?_⟩);rw [wrapN (by omega)];exact k2 g
 ·refine Eq.mpr (CBq9 _ _ _ K l sl _) ?_;exact Zda (by simp) k1
def BCg9 {β:Type}:WLT β:=fun cd tm hp b K=>∃(l:List AskT) (sl:Int) (q:Int),cd= .loop ARu9∧AAv9 [0,1,4,7,8] 0 tm=AHu9 l sl 0 0∧hp= []∧(l.length≤9223372036854775807∧q=idxS (fun x:AskT=>x.sl==sl) l)∧(∀i:Int,q= -1→K (.exit 0) (AHu9 l sl 0 i) [] b)∧(∀i:Int,0≤q→K .ret (AHu9 l sl q i) [] b)
theorem BCf9 {Ev:Env prog} (c:Code) (tm:List AV) (hp:List Blk) (b:Ev.β) (K:Exit→List AV→List Blk→Ev.β→Prop) (h:BCg9 c tm hp b K):W Ev c ⟨tm,hp,b⟩ (fun e s=>K e s.tm s.hp s.b):=by
 obtain ⟨l,sl,q,rfl,htm,rfl,⟨hl,rfl⟩,hK1,hK2⟩:=h;refine W.cast (htm▸AAb9 _ tm 0) (Zbp _) ?_;exact W.rounds (BZh9 (Q:=fun e s=>K e s.tm s.hp s.b) l sl hl (fun h i=>hK1 i (ABb9 h)) fun j h=>by have:=hK2 j (by rw [AAj9 h];omega);rwa [AAj9 h] at this)
theorem BEy9 (l:List AskT) (sl:Int):wpFn prog ⟨[], [],BCg9,y,false⟩ 100 f90 [.d (.sl 3 (rowsA l)), .fn (.func 148) [] [.rptr [.fn (.func 138) [.pt [i64 sl]]], .rptr [.fn (.func 118) []]]] b R=(∃(l0:List AskT) (sl1:Int) (q2:Int),Zat ARu9=Zat ARu9∧(Zae (Zan 3 (rowsA l))::Zax (Fn.func 148) [] [Zag [Zcq (Fn.func 138) [Zdr [i64 sl]]],Zag [Zcq (Fn.func 118) []]]::Zab::Zab::Zae (i64 0)::Zab::Zab::Zae (i64 ((Zaa (rowsA l):Nat):Int))::Zae (i64 0)::bds 10 [])=(Zae (Zan 3 (rowsA l0))::Zax (Fn.func 148) [] [Zag [Zcq (Fn.func 138) [Zdr [i64 sl1]]],Zag [Zcq (Fn.func 118) []]]::Zab::Zab::Zae (i64 0)::Zab::Zab::Zae (i64 ((Zaa l0:Nat):Int))::Zae (i64 0)::bds 10 [])∧([]:List Blk)= []∧(Zaa l0≤9223372036854775807∧q2=idxS (fun (x3:AskT)=>Zcr x3==sl1) l0)∧(∀(i:Int),q2=(-1:Int)→R (.d (i64 (-1))) b)∧∀(i:Int),(0:Int)≤q2→R (.d (i64 q2)) b):=by kernel_rfl
theorem BLf9 (l:List AskT) (sl:Int) (hl:l.length≤9223372036854775807):PCall prog 90 [.d (.sl 3 (rowsA l)), .fn (.func 148) [] [.rptr [.fn (.func 138) [.pt [i64 sl]]], .rptr [.fn (.func 118) []]]] (.d (i64 (idxS (fun x:AskT=>x.sl==sl) l))):=by
 refine Zcu (n:=100) (u:=false) (fun _=>BCg9) mixed Zak Zah (fun Ev=>BCf9) func90 (by rfl) (by rfl) fun Ev bb=> ?_;rw [BEy9,AAn9];exact ⟨l,sl,_,rfl,rfl,rfl,⟨hl,rfl⟩,fun i h=>by rw [h],fun i h=>rfl⟩
def BHh9 (args:List AV) (K:AV→Prop):Prop:=∃(l:List AskT) (sl:Int) (q:Int),args= [.d (.sl 3 (rowsA l)), .fn (.func 148) [] [.rptr [.fn (.func 138) [.pt [i64 sl]]], .rptr [.fn (.func 118) []]]]∧(l.length≤9223372036854775807∧q=idxS (fun x:AskT=>x.sl==sl) l)∧K (.d (i64 q))
theorem BAj9:∀args K,BHh9 args K→∃x,PCall prog 90 args x∧K x:=by
 rintro _ K ⟨l,sl,_,rfl,⟨hl,rfl⟩,hk⟩;exact ⟨_,BLf9 l sl hl,hk⟩
theorem BNg9 (x:GraT) (g:GraT):wpFn prog ⟨TInsG, [],wl,y,false⟩ 100 f135 ([graA x]++ [.rptr [.fn (.func 95) []], .rptr (graR g)]) b R=(∃(u0:GraT), [Zaq (Qz5 x)]= [Zaq (Qz5 u0)]∧∃(u1:GraT), [Zaq (Qz5 u0)]= [Zaq (Qz5 u1)]∧∃(u2:GraT), [Zaq (Qz5 g)]= [Zaq (Qz5 u2)]∧∃(u3:GraT), [Zaq (Qz5 u2)]= [Zaq (Qz5 u3)]∧R (.d (bo (decide (Zdg u1>Zdg u3)))) b):=by kernel_rfl
theorem BUr9 (x:GraT) (g:GraT):PCall prog 135 ([graA x]++ [.rptr [.fn (.func 95) []], .rptr (graR g)]) (.d (bo ((fun x:GraT=>decide (x.sl>g.sl)) x))):=by
 refine Zbf (n:=100) (u:=false) mixed BYm9 Zah func135 (by rfl) (by rfl) fun Ev bb=> ?_;rw [BNg9];exact ⟨x,rfl,x,rfl,g,rfl,g,rfl,rfl⟩
def BQz9 (args:List AV) (K:AV→Prop):Prop:=∃(x:GraT) (g:GraT) (q:Bool),args= [graA x]++ [.rptr [.fn (.func 95) []], .rptr (graR g)]∧(q=(fun x:GraT=>decide (x.sl>g.sl)) x)∧K (.d (bo q))
theorem BIj9:∀args K,BQz9 args K→∃x,PCall prog 135 args x∧K x:=by
 rintro _ K ⟨x,g,_,rfl,rfl,hk⟩;exact ⟨_,BUr9 x g,hk⟩
def BYr9:List (Nat×(List AV→(AV→Prop)→Prop)):= [(135,BQz9)]
theorem BOu9:AAc9 prog BYr9:=Zaj BIj9 Zak
noncomputable def ARw9:Code:=sub [1,0,1,2,3] (code f54)
def AHw9 (l:List GraT) (g:GraT) (q i:Int):List AV:= [.d (.sl 5 (rowsG l)), .fn (.func 135) [] [.rptr [.fn (.func 95) []], .rptr (graR g)], .bad, .bad, .d (i64 q), .bad, .bad, .d (i64 l.length), .d (i64 i)]++Zap 10 .bad
theorem CBs9 (l:List GraT) (g:GraT) (i:Int):wpc prog ⟨BYr9, [],wl,y,false⟩ 100 ARw9 (AHw9 l g 0 i) [] b (maskK 0 [0,1,4,7,8] K)=(BIf (decide (i<((Zaa l:Nat):Int))) (BIf (true&&decide (0≤i)) (∃(x0:Int) (x1:Int) (x2:Int) (x3:Int) (x4:Int),(rowsG l)[Zam i]? =some (Qz41 x0 x1 x2 x3 x4)∧∃(x7:GraT) (g8:GraT) (q9:Bool), [Zaq (Qz22 x0 x1 x2 x3 x4),Zag [Zcq (Fn.func 95) []],Zag (Qz17 g)]= [Zaq (Qz5 x7),Zag [Zcq (Fn.func 95) []],Zag (Qz17 g8)]∧q9=decide (Zdg x7>Zdg g8)∧BIf q9 (K .ret (Zae (Zan 5 (rowsG l))::Zax (Fn.func 135) [] [Zag [Zcq (Fn.func 95) []],Zag (Qz17 g)]::Zab::Zab::Zae (i64 i)::Zab::Zab::Zae (i64 ((Zaa l:Nat):Int))::Zae (i64 i)::bds 10 []) [] b) (K .normal (Zae (Zan 5 (rowsG l))::Zax (Fn.func 135) [] [Zag [Zcq (Fn.func 95) []],Zag (Qz17 g)]::Zab::Zab::Zae (i64 0)::Zab::Zab::Zae (i64 ((Zaa l:Nat):Int))::Zae (i64 (Zad .i64 (i+1)))::bds 10 []) [] b)) False) (K (Zbj 0) (Zae (Zan 5 (rowsG l))::Zax (Fn.func 135) [] [Zag [Zcq (Fn.func 95) []],Zag (Qz17 g)]::Zab::Zab::Zae (i64 0)::Zab::Zab::Zae (i64 ((Zaa l:Nat):Int))::Zae (i64 i)::bds 10 []) [] b)):=by kernel_rfl
theorem BZj9 {Ev:Env prog} {b:Ev.β} {Q:Exit→St Ev.β→Prop} (l:List GraT) (g:GraT) (hl:l.length≤9223372036854775807) (h1:l.findIdx? (fun x:GraT=>decide (x.sl>g.sl))=none→∀i:Int,Q (.exit 0) ⟨AHw9 l g 0 i, [],b⟩) (h2:∀j:Nat,l.findIdx? (fun x:GraT=>decide (x.sl>g.sl))=some j→Q .ret ⟨AHw9 l g j j, [],b⟩):
 WR Ev ARw9 (l.length+1) ⟨AHw9 l g 0 (0:Nat), [],b⟩ Q:=by
 refine Zfq (X:=⟨BYr9, [],wlW Ev,Ev.Y,false⟩) (k:=100) [0,1,4,7,8] mixed (CX.Ok.of BOu9 Zah) l (fun x:GraT=>decide (x.sl>g.sl)) (fun i=>AHw9 l g 0 (i:Nat)) (fun i=>AHw9 l g (i:Nat) (i:Nat)) [] 0 (fun i x hi hxi K k1 k2=> ?_) (fun K k1=> ?_) (fun h=>h1 h _) h2
 ·refine Eq.mpr (CBs9 _ _ _ K l g i) ?_;rw [ABj9 hxi];refine Zaz (by simp;omega) (Zaz (natI i) ⟨_,_,_,_,_,rfl,x,g,_,rfl,rfl,Zba (fun g=>k1 g) fun g=> ?_⟩);rw [wrapN (by omega)];exact k2 g
 ·refine Eq.mpr (CBs9 _ _ _ K l g _) ?_;exact Zda (by simp) k1
def BCk9 {β:Type}:WLT β:=fun cd tm hp b K=>∃(l:List GraT) (g:GraT) (q:Int),cd= .loop ARw9∧AAv9 [0,1,4,7,8] 0 tm=AHw9 l g 0 0∧hp= []∧(l.length≤9223372036854775807∧q=idxS (fun x:GraT=>decide (x.sl>g.sl)) l)∧(∀i:Int,q= -1→K (.exit 0) (AHw9 l g 0 i) [] b)∧(∀i:Int,0≤q→K .ret (AHw9 l g q i) [] b)
theorem BCj9 {Ev:Env prog} (c:Code) (tm:List AV) (hp:List Blk) (b:Ev.β) (K:Exit→List AV→List Blk→Ev.β→Prop) (h:BCk9 c tm hp b K):W Ev c ⟨tm,hp,b⟩ (fun e s=>K e s.tm s.hp s.b):=by
 obtain ⟨l,g,q,rfl,htm,rfl,⟨hl,rfl⟩,hK1,hK2⟩:=h;refine W.cast (htm▸AAb9 _ tm 0) (Zbp _) ?_;exact W.rounds (BZj9 (Q:=fun e s=>K e s.tm s.hp s.b) l g hl (fun h i=>hK1 i (ABb9 h)) fun j h=>by have:=hK2 j (by rw [AAj9 h];omega);rwa [AAj9 h] at this)
theorem BFa9 (l:List GraT) (g:GraT):wpFn prog ⟨[], [],BCk9,y,false⟩ 100 f54 [.d (.sl 5 (rowsG l)), .fn (.func 135) [] [.rptr [.fn (.func 95) []], .rptr (graR g)]] b R=(∃(l0:List GraT) (g1:GraT) (q2:Int),Zat ARw9=Zat ARw9∧(Zae (Zan 5 (rowsG l))::Zax (Fn.func 135) [] [Zag [Zcq (Fn.func 95) []],Zag (Qz17 g)]::Zab::Zab::Zae (i64 0)::Zab::Zab::Zae (i64 ((Zaa (rowsG l):Nat):Int))::Zae (i64 0)::bds 10 [])=(Zae (Zan 5 (rowsG l0))::Zax (Fn.func 135) [] [Zag [Zcq (Fn.func 95) []],Zag (Qz17 g1)]::Zab::Zab::Zae (i64 0)::Zab::Zab::Zae (i64 ((Zaa l0:Nat):Int))::Zae (i64 0)::bds 10 [])∧([]:List Blk)= []∧(Zaa l0≤9223372036854775807∧q2=idxS (fun (x3:GraT)=>decide (Zdg x3>Zdg g1)) l0)∧(∀(i:Int),q2=(-1:Int)→R (.d (i64 (-1))) b)∧∀(i:Int),(0:Int)≤q2→R (.d (i64 q2)) b):=by kernel_rfl
theorem BLh9 (l:List GraT) (g:GraT) (hl:l.length≤9223372036854775807):PCall prog 54 [.d (.sl 5 (rowsG l)), .fn (.func 135) [] [.rptr [.fn (.func 95) []], .rptr (graR g)]] (.d (i64 (idxS (fun x:GraT=>decide (x.sl>g.sl)) l))):=by
 refine Zcu (n:=100) (u:=false) (fun _=>BCk9) mixed Zak Zah (fun Ev=>BCj9) func54 (by rfl) (by rfl) fun Ev bb=> ?_;rw [BFa9,AAf9];exact ⟨l,g,_,rfl,rfl,rfl,⟨hl,rfl⟩,fun i h=>by rw [h],fun i h=>rfl⟩
def BHj9 (args:List AV) (K:AV→Prop):Prop:=∃(l:List GraT) (g:GraT) (q:Int),args= [.d (.sl 5 (rowsG l)), .fn (.func 135) [] [.rptr [.fn (.func 95) []], .rptr (graR g)]]∧(l.length≤9223372036854775807∧q=idxS (fun x:GraT=>decide (x.sl>g.sl)) l)∧K (.d (i64 q))
theorem BAl9:∀args K,BHj9 args K→∃x,PCall prog 54 args x∧K x:=by
 rintro _ K ⟨l,g,_,rfl,⟨hl,rfl⟩,hk⟩;exact ⟨_,BLh9 l g hl,hk⟩
theorem BNf9 (x:UseT) (g:UseT):wpFn prog ⟨TInsU, [],wl,y,false⟩ 100 f139 ([useA x]++ [.rptr [.fn (.func 108) []], .rptr (useR g)]) b R=(∃(u0:UseT), [Zaq (Qz7 x)]= [Zaq (Qz7 u0)]∧∃(u1:UseT), [Zaq (Qz7 u0)]= [Zaq (Qz7 u1)]∧∃(u2:UseT), [Zaq (Qz7 g)]= [Zaq (Qz7 u2)]∧∃(u3:UseT), [Zaq (Qz7 u2)]= [Zaq (Qz7 u3)]∧R (.d (bo (decide (Zcy u1>Zcy u3)))) b):=by kernel_rfl
theorem BUq9 (x:UseT) (g:UseT):PCall prog 139 ([useA x]++ [.rptr [.fn (.func 108) []], .rptr (useR g)]) (.d (bo ((fun x:UseT=>decide (x.sl>g.sl)) x))):=by
 refine Zbf (n:=100) (u:=false) mixed BYl9 Zah func139 (by rfl) (by rfl) fun Ev bb=> ?_;rw [BNf9];exact ⟨x,rfl,x,rfl,g,rfl,g,rfl,rfl⟩
def BQy9 (args:List AV) (K:AV→Prop):Prop:=∃(x:UseT) (g:UseT) (q:Bool),args= [useA x]++ [.rptr [.fn (.func 108) []], .rptr (useR g)]∧(q=(fun x:UseT=>decide (x.sl>g.sl)) x)∧K (.d (bo q))
theorem BIi9:∀args K,BQy9 args K→∃x,PCall prog 139 args x∧K x:=by
 rintro _ K ⟨x,g,_,rfl,rfl,hk⟩;exact ⟨_,BUq9 x g,hk⟩
def BYq9:List (Nat×(List AV→(AV→Prop)→Prop)):= [(139,BQy9)]
theorem BOt9:AAc9 prog BYq9:=Zaj BIi9 Zak
noncomputable def ARv9:Code:=sub [1,0,1,2,3] (code f133)
def AHv9 (l:List UseT) (g:UseT) (q i:Int):List AV:= [.d (.sl 4 (rowsU l)), .fn (.func 139) [] [.rptr [.fn (.func 108) []], .rptr (useR g)], .bad, .bad, .d (i64 q), .bad, .bad, .d (i64 l.length), .d (i64 i)]++Zap 10 .bad
theorem CBr9 (l:List UseT) (g:UseT) (i:Int):wpc prog ⟨BYq9, [],wl,y,false⟩ 100 ARv9 (AHv9 l g 0 i) [] b (maskK 0 [0,1,4,7,8] K)=(BIf (decide (i<((Zaa l:Nat):Int))) (BIf (true&&decide (0≤i)) (∃(x0:Int) (x1:Int) (x2:Int) (x3:Int),(rowsU l)[Zam i]? =some [i64 x0,i64 x1,i64 x2,i64 x3]∧∃(x6:UseT) (g7:UseT) (q8:Bool), [Zaq (Qz37 x0 x1 x2 x3),Zag [Zcq (Fn.func 108) []],Zag (Qz14 g)]= [Zaq (Qz7 x6),Zag [Zcq (Fn.func 108) []],Zag (Qz14 g7)]∧q8=decide (Zcy x6>Zcy g7)∧BIf q8 (K .ret (Zae (Zan 4 (rowsU l))::Zax (Fn.func 139) [] [Zag [Zcq (Fn.func 108) []],Zag (Qz14 g)]::Zab::Zab::Zae (i64 i)::Zab::Zab::Zae (i64 ((Zaa l:Nat):Int))::Zae (i64 i)::bds 10 []) [] b) (K .normal (Zae (Zan 4 (rowsU l))::Zax (Fn.func 139) [] [Zag [Zcq (Fn.func 108) []],Zag (Qz14 g)]::Zab::Zab::Zae (i64 0)::Zab::Zab::Zae (i64 ((Zaa l:Nat):Int))::Zae (i64 (Zad .i64 (i+1)))::bds 10 []) [] b)) False) (K (Zbj 0) (Zae (Zan 4 (rowsU l))::Zax (Fn.func 139) [] [Zag [Zcq (Fn.func 108) []],Zag (Qz14 g)]::Zab::Zab::Zae (i64 0)::Zab::Zab::Zae (i64 ((Zaa l:Nat):Int))::Zae (i64 i)::bds 10 []) [] b)):=by kernel_rfl
theorem BZi9 {Ev:Env prog} {b:Ev.β} {Q:Exit→St Ev.β→Prop} (l:List UseT) (g:UseT) (hl:l.length≤9223372036854775807) (h1:l.findIdx? (fun x:UseT=>decide (x.sl>g.sl))=none→∀i:Int,Q (.exit 0) ⟨AHv9 l g 0 i, [],b⟩) (h2:∀j:Nat,l.findIdx? (fun x:UseT=>decide (x.sl>g.sl))=some j→Q .ret ⟨AHv9 l g j j, [],b⟩):
 WR Ev ARv9 (l.length+1) ⟨AHv9 l g 0 (0:Nat), [],b⟩ Q:=by
 refine Zfq (X:=⟨BYq9, [],wlW Ev,Ev.Y,false⟩) (k:=100) [0,1,4,7,8] mixed (CX.Ok.of BOt9 Zah) l (fun x:UseT=>decide (x.sl>g.sl)) (fun i=>AHv9 l g 0 (i:Nat)) (fun i=>AHv9 l g (i:Nat) (i:Nat)) [] 0 (fun i x hi hxi K k1 k2=> ?_) (fun K k1=> ?_) (fun h=>h1 h _) h2
 ·refine Eq.mpr (CBr9 _ _ _ K l g i) ?_;rw [ACb9 hxi];refine Zaz (by simp;omega) (Zaz (natI i) ⟨_,_,_,_,rfl,x,g,_,rfl,rfl,Zba (fun g=>k1 g) fun g=> ?_⟩);rw [wrapN (by omega)];exact k2 g
 ·refine Eq.mpr (CBr9 _ _ _ K l g _) ?_;exact Zda (by simp) k1
def BCi9 {β:Type}:WLT β:=fun cd tm hp b K=>∃(l:List UseT) (g:UseT) (q:Int),cd= .loop ARv9∧AAv9 [0,1,4,7,8] 0 tm=AHv9 l g 0 0∧hp= []∧(l.length≤9223372036854775807∧q=idxS (fun x:UseT=>decide (x.sl>g.sl)) l)∧(∀i:Int,q= -1→K (.exit 0) (AHv9 l g 0 i) [] b)∧(∀i:Int,0≤q→K .ret (AHv9 l g q i) [] b)
theorem BCh9 {Ev:Env prog} (c:Code) (tm:List AV) (hp:List Blk) (b:Ev.β) (K:Exit→List AV→List Blk→Ev.β→Prop) (h:BCi9 c tm hp b K):W Ev c ⟨tm,hp,b⟩ (fun e s=>K e s.tm s.hp s.b):=by
 obtain ⟨l,g,q,rfl,htm,rfl,⟨hl,rfl⟩,hK1,hK2⟩:=h;refine W.cast (htm▸AAb9 _ tm 0) (Zbp _) ?_;exact W.rounds (BZi9 (Q:=fun e s=>K e s.tm s.hp s.b) l g hl (fun h i=>hK1 i (ABb9 h)) fun j h=>by have:=hK2 j (by rw [AAj9 h];omega);rwa [AAj9 h] at this)
theorem BEz9 (l:List UseT) (g:UseT):wpFn prog ⟨[], [],BCi9,y,false⟩ 100 f133 [.d (.sl 4 (rowsU l)), .fn (.func 139) [] [.rptr [.fn (.func 108) []], .rptr (useR g)]] b R=(∃(l0:List UseT) (g1:UseT) (q2:Int),Zat ARv9=Zat ARv9∧(Zae (Zan 4 (rowsU l))::Zax (Fn.func 139) [] [Zag [Zcq (Fn.func 108) []],Zag (Qz14 g)]::Zab::Zab::Zae (i64 0)::Zab::Zab::Zae (i64 ((Zaa (rowsU l):Nat):Int))::Zae (i64 0)::bds 10 [])=(Zae (Zan 4 (rowsU l0))::Zax (Fn.func 139) [] [Zag [Zcq (Fn.func 108) []],Zag (Qz14 g1)]::Zab::Zab::Zae (i64 0)::Zab::Zab::Zae (i64 ((Zaa l0:Nat):Int))::Zae (i64 0)::bds 10 [])∧([]:List Blk)= []∧(Zaa l0≤9223372036854775807∧q2=idxS (fun (x3:UseT)=>decide (Zcy x3>Zcy g1)) l0)∧(∀(i:Int),q2=(-1:Int)→R (.d (i64 (-1))) b)∧∀(i:Int),(0:Int)≤q2→R (.d (i64 q2)) b):=by kernel_rfl
theorem BLg9 (l:List UseT) (g:UseT) (hl:l.length≤9223372036854775807):PCall prog 133 [.d (.sl 4 (rowsU l)), .fn (.func 139) [] [.rptr [.fn (.func 108) []], .rptr (useR g)]] (.d (i64 (idxS (fun x:UseT=>decide (x.sl>g.sl)) l))):=by
 refine Zcu (n:=100) (u:=false) (fun _=>BCi9) mixed Zak Zah (fun Ev=>BCh9) func133 (by rfl) (by rfl) fun Ev bb=> ?_;rw [BEz9,AAh9];exact ⟨l,g,_,rfl,rfl,rfl,⟨hl,rfl⟩,fun i h=>by rw [h],fun i h=>rfl⟩
def BHi9 (args:List AV) (K:AV→Prop):Prop:=∃(l:List UseT) (g:UseT) (q:Int),args= [.d (.sl 4 (rowsU l)), .fn (.func 139) [] [.rptr [.fn (.func 108) []], .rptr (useR g)]]∧(l.length≤9223372036854775807∧q=idxS (fun x:UseT=>decide (x.sl>g.sl)) l)∧K (.d (i64 q))
theorem BAk9:∀args K,BHi9 args K→∃x,PCall prog 133 args x∧K x:=by
 rintro _ K ⟨l,g,_,rfl,⟨hl,rfl⟩,hk⟩;exact ⟨_,BLg9 l g hl,hk⟩
section
variable {α:Type} {row:α→List Dv} {k:Nat} (hk:∀x,(row x).length=k)
theorem ANu9 (x:α) (hs:List α):flatA ((x::hs).map row)=(row x).map .d++flatA (hs.map row):=by rw [List.map_cons,AGg9]
theorem AUn9 (a b:List α):flatA ((a++b).map row)=flatA (a.map row)++flatA (b.map row):=by simp [flatA]
include hk
theorem AZv9:∀hs:List α,(flatA (hs.map row)).length=hs.length*k
 | []=>by simp [flatA]
 |h::hs=>by rw [ANu9,Zcm,AZv9 hs,List.length_map,hk,List.length_cons,Zct];omega
theorem ASl9:∀(hs:List α) (i:Nat),(flatA (hs.map row)).take (i*k)=flatA ((hs.take i).map row)
 | [],i=>by simp [flatA]
 |h::hs,0=>by simp [flatA]
 | h::hs,i+1=>by
  rw [ANu9,List.take_succ_cons,ANu9,←ASl9 hs i,List.take_append];have e:((row h).map Zae).length=k:=by rw [List.length_map,hk]
  rw [e,List.take_of_length_le (by rw [e,Zct];omega)];congr 2;rw [Zct];omega
theorem BFq9:∀(hs:List α) (i:Nat),(flatA (hs.map row)).drop (i*k)=flatA ((hs.drop i).map row)
 | [],i=>by simp [flatA]
 |h::hs,0=>by simp
 | h::hs,i+1=>by
  rw [ANu9,List.drop_succ_cons,←BFq9 hs i,List.drop_append];have e:((row h).map Zae).length=k:=by rw [List.length_map,hk]
  rw [e,List.drop_eq_nil_of_le (by rw [e,Zct];omega),List.nil_append];congr 1;rw [Zct];omega
theorem fl_at {hs:List α} {j:Nat} {x:α} (h:hs[j]? =some x):((flatA (hs.map row)).drop (j*k)).take k=(row x).map .d:=by
 obtain ⟨hj,rfl⟩:=Zac.1 h;rw [BFq9 hk,List.drop_eq_getElem_cons hj,ANu9];have e:((row hs[j]).map Zae).length=k:=by rw [List.length_map,hk]
 rw [Zev (by rw [e];exact Zaw _),List.take_of_length_le (by rw [e];exact Zaw _)]
theorem BWc9 {hs:List α} {i:Nat} (hi:i<hs.length) (x:α):(flatA (hs.map row)).take (i*k)++(row x).map .d++(flatA (hs.map row)).drop (i*k+k)=flatA ((hs.set i x).map row):=by
 have e:i*k+k=(i+1)*k:=by rw [Zct];omega
 rw [e,ASl9 hk,BFq9 hk,List.set_eq_take_append_cons_drop,if_pos hi,AUn9,ANu9,List.append_assoc]
end
theorem WR.delL {α:Type} {P:Program} {Ev:Env P} {X:CX Ev.β} {lp:Code} {b:Ev.β} {Q:Exit→St Ev.β→Prop} {k L:Nat} (keep:List Nat) (hm:P.follows .mixedOrders=true) (hX:X.Ok) (hs:List α) (p:α→Bool) (tmOf:Nat→Nat→List AV) (hpOf:List α→List Blk) (hL:∀c,(hpOf c).length=L) (id:Nat)
 (hr:∀(i j:Nat) (cur:List α) (x:α),cur[j]? =some x→i≤j→j<hs.length→cur.length=hs.length→∀K:Exit→List AV→List Blk→Ev.β→Prop,(p x=true→K .normal (tmOf i (j+1)) (hpOf cur) b)→(p x=false→K .normal (tmOf (i+1) (j+1)) (hpOf (cur.set i x)) b)→wpc P X k lp (tmOf i j) (hpOf cur) b (maskK L keep K))
 (he:∀(i:Nat) (cur:List α) (K:Exit→List AV→List Blk→Ev.β→Prop),cur.length=hs.length→K (.exit id) (tmOf i hs.length) (hpOf cur) b→wpc P X k lp (tmOf i hs.length) (hpOf cur) b (maskK L keep K))
 (hQ:∀cur:List α,cur.length=hs.length→cur.take (hs.filter fun x=> !p x).length=(hs.filter fun x=> !p x)→Q (.exit id) ⟨tmOf (hs.filter fun x=> !p x).length hs.length,hpOf cur,b⟩):
 ∀ (rest:List α) (j i:Nat) (cur:List α),hs.drop j=rest→j≤hs.length→i≤j→cur.length=hs.length→cur.take i=(hs.take j).filter (fun x=> !p x)→cur.drop j=rest→
  WR Ev lp (rest.length+1) ⟨tmOf i j,hpOf cur,b⟩ Q
 | [],j,i,cur,hd,hj,hi,hcl,ht,hcd=>by
  have hjl:j=hs.length:=by have:=List.drop_eq_nil_iff.1 hd;omega
  subst hjl;rw [Zdd] at ht;have hil:i=(hs.filter fun x=> !p x).length:=by rw [←ht,Zcd];omega
  refine Zdj keep hm hX (k:=k) (by rw [hL];exact he i cur _ hcl (by rw [hil] at ht ⊢;exact hQ cur hcl ht))
 | h::rest,j,i,cur,hd,hj,hi,hcl,ht,hcd=>by
  have hj1:j<hs.length:=by
   apply Classical.byContradiction;intro hn;rw [List.drop_eq_nil_of_le (by omega)] at hd;cases hd
  rw [List.drop_eq_getElem_cons hj1] at hd;rw [List.drop_eq_getElem_cons (by omega:j<cur.length)] at hcd;injection hd with hh1 hd1
  injection hcd with hh2 hd2
  have htake:hs.take (j+1)=hs.take j++ [h]:=by rw [List.take_succ_eq_append_getElem hj1,hh1]
  have hx:cur[j]? =some h:=by rw [Zbb (by omega),hh2]
  refine Zdj keep hm hX (k:=k) (by
   rw [hL];refine hr i j cur h hx hi hj1 hcl _ (fun hp=> ?_) fun hp=> ?_
   ·refine WR.delL keep hm hX hs p tmOf hpOf hL id hr he hQ rest (j+1) i cur hd1 hj1 (by omega) hcl ?_ hd2;rw [htake,List.filter_append,ht];simp [hp]
   ·refine WR.delL keep hm hX hs p tmOf hpOf hL id hr he hQ rest (j+1) (i+1) (cur.set i h) hd1 hj1 (by omega) (by simpa using hcl) ?_ ?_
    ·rw [htake,List.filter_append,←ht,List.take_succ_eq_append_getElem (by simp;omega)];simp [hp,List.take_set_of_le]
    ·rw [List.drop_set_of_lt (by omega)];exact hd2)
theorem AFr9 {α:Type} {p:α→Bool}:∀ {hs:List α} {j:Nat},hs.findIdx? p=some j→j<hs.length∧hs.take j=(hs.take (j+1)).filter (fun x=> !p x)
 | [],j,h=>by simp at h
 | x::r,j,h=>by
  rw [Zez] at h;cases hp:p x with
  |true=>rw [hp] at h;simp at h;subst h;simp [hp]
  | false=>
   rw [hp] at h;simp only [Zee,if_false,Zao] at h;obtain ⟨j',h1,rfl⟩:=h;obtain ⟨h2,h3⟩:=AFr9 h1;exact ⟨by simp;omega,by simp [hp,h3]⟩
theorem BFr9 {α:Type} {p:α→Bool} {hs:List α} (h:hs.findIdx? p=none):hs.filter (fun x=> !p x)=hs:=by
 have:=List.findIdx?_eq_none_iff.1 h;exact List.filter_eq_self.2 fun x hx=>by rw [this x hx];rfl
def boxA (x:AV):Blk:=⟨[x],false,false,0⟩
theorem SCall.toSl {P:Program} {f k:Nat} {args:List AV} {hp hp':List Blk} {xs:List (List Dv)} (h:SCall P f args hp (.full k xs) hp'):SCall P f args hp (.d (.sl k xs)) hp':=by
 refine ⟨h.1,fun S X yv w m B hv vs hl hr=>CallsIn.mono (h.2 S X yv w m B hv vs hl hr) ?_⟩;rintro e w' ⟨v,S',m',hv',he,h1,h2⟩;have hrv:=h2.rv _ (Zbv ..);refine ⟨v,S',m',hv',he,h1,(h2.sub (List.sublist_cons_self _ _)).cons ?_ rfl⟩;cases hrv with|full h=>exact .d h
theorem ATa9.pc {P:Program} {f k:Nat} (hc:ATa9 P f k) (xs:List (List Dv)) (hl:xs.length≤1000000) (hk:∀r∈xs,r.length=k):PCall P f [.d (.sl k xs)] (.d (.sl k xs)):=by
 have h:=hc xs hl;cases xs with
 |nil=>exact PCall.semRes (x:= .full k []) (y:= .d (.sl k [])) (SemV.rows .nil) (h.toP (y:= .full k []) (.r (.v rfl)))
 |cons a r=>exact h.toP (.r (.gref rfl rfl rfl rfl rfl hk))
def GCG:List (Nat×(List AV→List Blk→(AV→List Blk→Prop)→Prop)):= [(1000000+59,fun _ _ _=>False)]
theorem BBe9:AAl9 prog GCG:=Zbr (fun _ _ _ h=>h.elim) Zah
theorem BMx9 (xs:List (List Dv)):wpFnS prog ⟨[],GCG,wl,y,false⟩ 100 f48 [.d (.sl 5 xs)] b Kr=(∀(t:Bool),(t=true→xs= [])→BIf t (Kr (Zae (Zdy (.slice none 0 0))) [] b) (BIf (true&&decide (Zaa xs*40≤140737488355328)) (BIf (decide (0<Zaa xs)) (Kr (Zbl 0 0 (Zaa xs) 5) [Blk.mk (flatA xs) false true 0] b) (Kr (Zgb 5 []) [] b)) False)):=by kernel_rfl
theorem BFu9:ATa9 prog 48 5:=fun xs hl=>by
 refine Zgt (n:=100) (u:=false) (fun _=>fun _ _ _ _ _=>False) mixed Zak BBe9 (fun Ev _ _ _ _ _ h=>h.elim) func48 (by rfl) (by rfl) (by split<;>rfl) fun Ev bb=> ?_;rw [BMx9];refine fun t ht=>Zba (fun h=>by rw [ht h];exact ⟨.nilFull rfl,rfl⟩) fun h=>Zaz (by simp<;>omega) ?_;cases xs with
 |nil=>exact Zda rfl ⟨.rfl,rfl⟩
 |cons a xs=>exact Zaz (by simp) ⟨.rfl,rfl⟩
theorem AFo9 (x:GraT):(graR x).length=5:=rfl
theorem AQz9 (l:List GraT):∀r∈rowsG l,r.length=5:=by
 intro r hr;simp only [rowsG,Zbg] at hr;obtain ⟨x,_,rfl⟩:=hr;rfl
def BQs9 (args:List AV) (K:AV→Prop):Prop:=∃l:List GraT,args= [.d (.sl 5 (rowsG l))]∧l.length≤1000000∧K (.d (.sl 5 (rowsG l)))
theorem BHx9:∀args K,BQs9 args K→∃x,PCall prog 48 args x∧K x:=by
 rintro _ K ⟨l,rfl,hl,hk⟩;exact ⟨_,ATa9.pc BFu9 (rowsG l) (by rw [AAf9];exact hl) (AQz9 l),hk⟩
def BDh9 (args:List AV) (hp:List Blk) (K:AV→List Blk→Prop):Prop:=∃(hs:List GraT),args= [.d (.sl 5 (rowsG hs))]∧hs.length≤1000000∧BIf hs.isEmpty (K (.d (.sl 5 [])) hp) (K (.gref hp.length 0 hs.length 5) (hp++ [growB 0 (flatA (rowsG hs))]))
theorem AQx9:∀args hp K,BDh9 args hp K→∃x hp',SCall prog 48 args hp x hp'∧K x hp':=by
 rintro _ hp K ⟨hs,rfl,hl,hK⟩;have h1:=(BFu9 (rowsG hs) (by rw [AAf9];omega)).toS rfl hp;cases hs with
 |nil=>exact ⟨_,_,SCall.toSl h1,by simpa [rowsG,AGb9,BIf] using hK⟩
 | cons a r=>
  refine ⟨_,_,h1, ?_⟩;simpa [rowsG,shift,AGb9,AQu9,blkG,AHe9,BIf,growB] using hK
noncomputable def lpDfG:Code:=sub [1,1,1,0,1,2,3] (code f131)
def tmDfG (v n:Nat) (i j:Int):List AV:= [.gref 2 v n 5, .fn (.func 132) [] [.ptr 1 0, .ptr 0 0], .bad, .bad, .bad, .d (i64 i), .d (i64 j)]++Zap 35 .bad
def UDrG:List (Nat×(List AV→List Blk→(AV→List Blk→Prop)→Prop)):= [(1000000+59,fun _ _ _=>False),(132,lendC BId9)]
theorem CFj9:AAl9 prog UDrG:=Zbr (fun _ _ _ h=>h.elim) (Zbr (AFk9 ASt9) Zah)
def hpDfG (fr:Int) (v':Nat) (cs:List AV):List Blk:= [boxA (.fn (.func 95) [] []),boxA (.fn (.func 96) [] [.rptr [i64 fr]]),growB v' cs]
abbrev Qz62 (v0:Int) (v1:Int):=Zae (i64 v0)::Zae (i64 v1)::bds 35 []
theorem rDfG (v' n:Nat) (i j fr:Int) (cs:List AV):wpc prog ⟨[],UDrG,wl,y,false⟩ 100 lpDfG (tmDfG v' n i j) (hpDfG fr v' cs) b (maskK 3 [0,1,5,6] K)=(v'=v'∧BIf (decide (j<(n:Int))) (v'=v'∧BIf (decide (0≤j)&&decide (j<(n:Int))) (v'=v'∧∃(x0:Int) (x1:Int) (x2:Int) (x3:Int) (x4:Int),Zbo 5 (Zca (Zam j*5) cs)=(Qz22 x0 x1 x2 x3 x4)∧∃(x5:GraT) (fr6:Int) (q7:Bool), [Zaq (Qz22 x0 x1 x2 x3 x4),Zag [Zcq (Fn.func 96) [Zdr [i64 fr]]],Zag [Zcq (Fn.func 95) []]]= [Zaq (Qz5 x5),Zag [Zcq (Fn.func 96) [Zdr [i64 fr6]]],Zag [Zcq (Fn.func 95) []]]∧q7=decide (Zeh x5<fr6)∧BIf (!q7) (v'=v'∧BIf (decide (0≤i)&&decide (i<(n:Int))) (v'=v'∧BIf (decide (Zam i*5+5≤Zaa cs)) (BIf (Zbk [Blk.mk [Zax (Fn.func 95) [] []] false false 0,Blk.mk [Zax (Fn.func 96) [] [Zag [i64 fr]]] false false 0,Blk.mk (Zbo (Zam i*5) cs++(Qz22 x0 x1 x2 x3 x4)++Zca (Zam i*5+5) cs) false true v'] fun (blk8:Blk)=>lows 3 blk8.1) (K .normal (Zbl 2 v' n 5::Zax (Fn.func 132) [] [Zaf 1 0,Zaf 0 0]::bds 3 (Zae (i64 (Zad .i64 (i+1)))::Zae (i64 (Zad .i64 (j+1)))::bds 35 [])) [Blk.mk [Zax (Fn.func 95) [] []] false false 0,Blk.mk [Zax (Fn.func 96) [] [Zag [i64 fr]]] false false 0,Blk.mk (Zbo (Zam i*5) cs++(Qz22 x0 x1 x2 x3 x4)++Zca (Zam i*5+5) cs) false true v'] b) False) False) False) (BIf (Zbk [Blk.mk [Zax (Fn.func 95) [] []] false false 0,Blk.mk [Zax (Fn.func 96) [] [Zag [i64 fr]]] false false 0,Blk.mk cs false true v'] fun (blk9:Blk)=>lows 3 blk9.1) (K .normal (Zbl 2 v' n 5::Zax (Fn.func 132) [] [Zaf 1 0,Zaf 0 0]::bds 3 (Zae (i64 i)::Zae (i64 (Zad .i64 (j+1)))::bds 35 [])) [Blk.mk [Zax (Fn.func 95) [] []] false false 0,Blk.mk [Zax (Fn.func 96) [] [Zag [i64 fr]]] false false 0,Blk.mk cs false true v'] b) False)) False) (BIf (Zbk [Blk.mk [Zax (Fn.func 95) [] []] false false 0,Blk.mk [Zax (Fn.func 96) [] [Zag [i64 fr]]] false false 0,Blk.mk cs false true v'] fun (blk10:Blk)=>lows 3 blk10.1) (K (Zbj 0) (Zbl 2 v' n 5::Zax (Fn.func 132) [] [Zaf 1 0,Zaf 0 0]::bds 3 (Qz62 i j)) [Blk.mk [Zax (Fn.func 95) [] []] false false 0,Blk.mk [Zax (Fn.func 96) [] [Zag [i64 fr]]] false false 0,Blk.mk cs false true v'] b) False)):=by kernel_rfl
theorem BGd9 (fr:Int) (v':Nat) (hs:List GraT):Zbk (hpDfG fr v' (flatA (rowsG hs))) (fun blk=>lows 3 blk.1)=true:=by
 simp only [hpDfG,List.all_cons,List.all_nil,Bool.and_true,Zai];exact ⟨rfl,rfl,ACu9 3 _⟩
theorem wrDfG {Ev:Env prog} {b:Ev.β} {Q:Exit→St Ev.β→Prop} (v':Nat) (fr:Int) (hs:List GraT) (hl:hs.length<1000000)
 (hQ:∀cur:List GraT,cur.length=hs.length→cur.take (hs.filter fun x=> !(fun x:GraT=>decide (x.un<fr)) x).length=(hs.filter fun x=> !(fun x:GraT=>decide (x.un<fr)) x)→Q (.exit 0) ⟨tmDfG v' hs.length ((hs.filter fun x=> !(fun x:GraT=>decide (x.un<fr)) x).length:Nat) hs.length,hpDfG fr v' (flatA (rowsG cur)),b⟩)
 (j:Nat) (hj:hs.findIdx? (fun x:GraT=>decide (x.un<fr))=some j):WR Ev lpDfG ((hs.drop (j+1)).length+1) ⟨tmDfG v' hs.length (j:Nat) ((j+1:Nat):Int),hpDfG fr v' (flatA (rowsG hs)),b⟩ Q:=by
 obtain ⟨hj1,hj2⟩:=AFr9 hj;refine WR.delL (X:=⟨[],UDrG,wlW Ev,Ev.Y,false⟩) (k:=100) (L:=3) [0,1,5,6] mixed (CX.Ok.of Zak CFj9) hs (fun x:GraT=>decide (x.un<fr)) (fun i j=>tmDfG v' hs.length (i:Nat) (j:Nat)) (fun c=>hpDfG fr v' (flatA (rowsG c))) (fun _=>rfl) 0 (fun i j cur x hx hi hj hcl K k1 k2=> ?_) (fun i cur K hcl k1=> ?_) hQ (hs.drop (j+1)) (j+1) j hs rfl hj1 (by omega) rfl hj2 rfl
 ·refine Eq.mpr (rDfG _ _ _ K v' hs.length i j fr _) ?_;refine ⟨rfl,Zaz (by simp;omega) ⟨rfl,Zaz (by simp;omega) ⟨rfl,_,_,_,_,_,by rw [Zcf];exact fl_at AFo9 hx,x,fr,_,rfl,rfl,Zba (fun h1=> ?_) fun h1=> ?_⟩⟩⟩
  ·rw [Zcb] at h1;have hk2:=k2 h1;have e:=BWc9 AFo9 (hs:=cur) (i:=i) (by omega) x;refine ⟨rfl,Zaz (by simp;omega) ⟨rfl,Zaz (by rw [Zcf];have:=AZv9 AFo9 cur;rw [show flatA (rowsG cur)=flatA (cur.map graR) from rfl,this];simp;omega) ?_⟩⟩;rw [Zcf,wrapN (by omega),wrapN (by omega)];have hlow:=BGd9 fr v' (cur.set i x);simp only [hpDfG,rowsG] at hk2 hlow;rw [←e] at hk2 hlow;exact Zaz hlow hk2
  ·rw [Zej] at h1;rw [wrapN (by omega)];exact Zaz (BGd9 fr v' cur) (k1 h1)
 ·refine Eq.mpr (rDfG _ _ _ K v' hs.length i hs.length fr _) ?_;exact ⟨rfl,Zda (by simp) (Zaz (BGd9 fr v' cur) k1)⟩
def CAk9 {β:Type}:WLT β:=fun c tm hp b K=>∃(v':Nat) (fr i j:Int) (hs out:List GraT),c= .loop lpDfG∧AAv9 [0,1,5,6] 0 tm=tmDfG v' hs.length i j∧hp=hpDfG fr v' (flatA (rowsG hs))∧(hs.length<1000000∧0≤i∧i=idxS (fun x:GraT=>decide (x.un<fr)) hs∧j=Zad Zbc (i+1)∧out=hs.filter fun x=> !(fun x:GraT=>decide (x.un<fr)) x)∧
 ∀(cur:List GraT),cur.length=hs.length→cur.take out.length=out→K (.exit 0) (tmDfG v' hs.length (out.length:Nat) hs.length) (hpDfG fr v' (flatA (rowsG cur))) b
theorem BKb9 {Ev:Env prog} (c:Code) (tm:List AV) (hp:List Blk) (b:Ev.β) (K:Exit→List AV→List Blk→Ev.β→Prop) (h:CAk9 c tm hp b K):W Ev c ⟨tm,hp,b⟩ (fun e s=>K e s.tm s.hp s.b):=by
 obtain ⟨v',fr,i,j,hs,_,rfl,htm,rfl,⟨hl,h0,hi,rfl,rfl⟩,hK⟩:=h;cases hf:hs.findIdx? (fun x:GraT=>decide (x.un<fr)) with
 |none=>rw [ABb9 hf] at hi;omega
 | some j0=>
  rw [AAj9 hf] at hi;subst hi;have hj1:=(AFr9 hf).1;rw [wrapN (by omega)] at htm;refine W.cast (htm▸AAb9 _ tm 0) (Zbp _) ?_;exact W.rounds (wrDfG (Q:=fun e s=>K e s.tm s.hp s.b) v' fr hs hl hK j0 hf)
def TDfG:List (Nat×(List AV→(AV→Prop)→Prop)):= [(4000011,cNone)]
theorem BRn9:AAc9 prog TDfG:=Zaj (ABy9 _) Zak
def UDfG:List (Nat×(List AV→List Blk→(AV→List Blk→Prop)→Prop)):= [(1000000+59,fun _ _ _=>False),(54,lendC BHg9)]
theorem BRl9:AAl9 prog UDfG:=Zbr (fun _ _ _ h=>h.elim) (Zbr (AFk9 BAi9) Zah)
def wlDfG {β:Type} (y:ACw9 β):WLT β:=wlZ prog ⟨TDfG,UDfG,fun _ _ _ _ _=>False,y,false⟩ CAk9
theorem CEb9 (v' n:Nat) (fr:Int) (cs:List AV):wpc prog ⟨TDfG,UDfG,wlDfG y,y,false⟩ 100 (code f131) (ACg9 f131 [.gref 2 v' n 5, .fn (.func 132) [] [.ptr 1 0, .ptr 0 0]]) (hpDfG fr v' cs) b (fnKS prog f131 Kr)=(v'=v'∧∃(xs0:List (List Dv)),cs=flatA xs0∧Zaa xs0=n∧(∀(r:List Dv),r∈xs0→Zaa r=5)∧∃(l1:List GraT) (fr2:Int) (q3:Int), [Zae (Zan 5 xs0),Zax (Fn.func 132) [] [Zag [Zcq (Fn.func 96) [Zdr [i64 fr]]],Zag [Zcq (Fn.func 95) []]]]= [Zae (Zan 5 (rowsG l1)),Zax (Fn.func 132) [] [Zag [Zcq (Fn.func 96) [Zdr [i64 fr2]]],Zag [Zcq (Fn.func 95) []]]]∧(Zaa l1≤9223372036854775807∧q3=idxS (fun (x4:GraT)=>decide (Zeh x4<fr2)) l1)∧BIf (q3==(-1:Int)) (Kr (Zbl 2 v' n 5) [Blk.mk [Zax (Fn.func 95) [] []] false false 0,Blk.mk [Zax (Fn.func 96) [] [Zag [i64 fr]]] false false 0,Blk.mk cs false true v'] b) (∃(v5:Nat) (fr6:Int) (i7:Int) (j8:Int) (hs9:List GraT) (out10:List GraT),Zat lpDfG=Zat lpDfG∧(Zbl 2 v' n 5::Zax (Fn.func 132) [] [Zaf 1 0,Zaf 0 0]::bds 3 (Zae (i64 q3)::Zae (i64 (Zad .i64 (q3+1)))::bds 35 []))=(Zbl 2 v5 (Zaa hs9) 5::Zax (Fn.func 132) [] [Zaf 1 0,Zaf 0 0]::bds 3 (Qz62 i7 j8))∧ [Blk.mk [Zax (Fn.func 95) [] []] false false 0,Blk.mk [Zax (Fn.func 96) [] [Zag [i64 fr]]] false false 0,Blk.mk cs false true v']= [Blk.mk [Zax (Fn.func 95) [] []] false false 0,Blk.mk [Zax (Fn.func 96) [] [Zag [i64 fr6]]] false false 0,Blk.mk (flatA (rowsG hs9)) false true v5]∧(Zaa hs9<1000000∧(0:Int)≤i7∧i7=idxS (fun (x11:GraT)=>decide (Zeh x11<fr6)) hs9∧j8=Zad .i64 (i7+1)∧out10=Zce (fun (x12:GraT)=> !decide (Zeh x12<fr6)) hs9)∧∀(cur:List GraT),Zaa cur=Zaa hs9→Zbo (Zaa out10) cur=out10→v5=v5∧BIf (true&&decide (((Zaa out10:Nat):Int)≤((Zaa hs9:Nat):Int))) (BIf (true&&decide (((Zaa out10:Nat):Int)≤((Zaa hs9:Nat):Int))) (v5=v5∧Kr (Zbl 2 (v5+1) (Zam ((Zaa out10:Nat):Int)) 5) [Blk.mk [Zax (Fn.func 95) [] []] false false 0,Blk.mk [Zax (Fn.func 96) [] [Zag [i64 fr6]]] false false 0,Blk.mk (Zbo (Zam ((Zaa out10:Nat):Int)*5) (Zbo (Zam ((Zaa out10:Nat):Int)*5) (flatA (rowsG cur))++flatA (Zap (Zaa hs9 - Zam ((Zaa out10:Nat):Int)) [i64 0,i64 0,i64 0,i64 0,i64 0]))) false true (v5+1)] b) False) False)):=by kernel_rfl
theorem BWq9 (fr:Int):wpc prog ⟨TDfG,UDfG,wlDfG y,y,false⟩ 100 (code f131) (ACg9 f131 [.d (.sl 5 []), .fn (.func 132) [] [.ptr 1 0, .ptr 0 0]]) [boxA (.fn (.func 95) [] []),boxA (.fn (.func 96) [] [.rptr [i64 fr]])] b (fnKS prog f131 Kr)=(∃(l0:List GraT) (fr1:Int) (q2:Int), [Zae (Zan 5 []),Zax (Fn.func 132) [] [Zag [Zcq (Fn.func 96) [Zdr [i64 fr]]],Zag [Zcq (Fn.func 95) []]]]= [Zae (Zan 5 (rowsG l0)),Zax (Fn.func 132) [] [Zag [Zcq (Fn.func 96) [Zdr [i64 fr1]]],Zag [Zcq (Fn.func 95) []]]]∧(Zaa l0≤9223372036854775807∧q2=idxS (fun (x3:GraT)=>decide (Zeh x3<fr1)) l0)∧BIf (q2==(-1:Int)) (Kr (Zae (Zan 5 [])) [Blk.mk [Zax (Fn.func 95) [] []] false false 0,Blk.mk [Zax (Fn.func 96) [] [Zag [i64 fr]]] false false 0] b) (∃(v4:Nat) (fr5:Int) (i6:Int) (j7:Int) (hs8:List GraT) (out9:List GraT),Zat lpDfG=Zat lpDfG∧(Zae (Zan 5 [])::Zax (Fn.func 132) [] [Zaf 1 0,Zaf 0 0]::bds 3 (Zae (i64 q2)::Zae (i64 (Zad .i64 (q2+1)))::bds 35 []))=(Zbl 2 v4 (Zaa hs8) 5::Zax (Fn.func 132) [] [Zaf 1 0,Zaf 0 0]::bds 3 (Qz62 i6 j7))∧ [Blk.mk [Zax (Fn.func 95) [] []] false false 0,Blk.mk [Zax (Fn.func 96) [] [Zag [i64 fr]]] false false 0]= [Blk.mk [Zax (Fn.func 95) [] []] false false 0,Blk.mk [Zax (Fn.func 96) [] [Zag [i64 fr5]]] false false 0,Blk.mk (flatA (rowsG hs8)) false true v4]∧(Zaa hs8<1000000∧(0:Int)≤i6∧i6=idxS (fun (x10:GraT)=>decide (Zeh x10<fr5)) hs8∧j7=Zad .i64 (i6+1)∧out9=Zce (fun (x11:GraT)=> !decide (Zeh x11<fr5)) hs8)∧∀(cur:List GraT),Zaa cur=Zaa hs8→Zbo (Zaa out9) cur=out9→v4=v4∧BIf (true&&decide (((Zaa out9:Nat):Int)≤((Zaa hs8:Nat):Int))) (BIf (true&&decide (((Zaa out9:Nat):Int)≤((Zaa hs8:Nat):Int))) (v4=v4∧Kr (Zbl 2 (v4+1) (Zam ((Zaa out9:Nat):Int)) 5) [Blk.mk [Zax (Fn.func 95) [] []] false false 0,Blk.mk [Zax (Fn.func 96) [] [Zag [i64 fr5]]] false false 0,Blk.mk (Zbo (Zam ((Zaa out9:Nat):Int)*5) (Zbo (Zam ((Zaa out9:Nat):Int)*5) (flatA (rowsG cur))++flatA (Zap (Zaa hs8 - Zam ((Zaa out9:Nat):Int)) [i64 0,i64 0,i64 0,i64 0,i64 0]))) false true (v4+1)] b) False) False)):=by kernel_rfl
def GCA:List (Nat×(List AV→List Blk→(AV→List Blk→Prop)→Prop)):= [(1000000+63,fun _ _ _=>False)]
theorem AVn9:AAl9 prog GCA:=Zbr (fun _ _ _ h=>h.elim) Zah
theorem BMy9 (xs:List (List Dv)):wpFnS prog ⟨[],GCA,wl,y,false⟩ 100 f97 [.d (.sl 3 xs)] b Kr=(∀(t:Bool),(t=true→xs= [])→BIf t (Kr (Zae (Zdy (.slice none 0 0))) [] b) (BIf (true&&decide (Zaa xs*24≤140737488355328)) (BIf (decide (0<Zaa xs)) (Kr (Zbl 0 0 (Zaa xs) 3) [Blk.mk (flatA xs) false true 0] b) (Kr (Zgb 3 []) [] b)) False)):=by kernel_rfl
theorem BFv9:ATa9 prog 97 3:=fun xs hl=>by
 refine Zgt (n:=100) (u:=false) (fun _=>fun _ _ _ _ _=>False) mixed Zak AVn9 (fun Ev _ _ _ _ _ h=>h.elim) func97 (by rfl) (by rfl) (by split<;>rfl) fun Ev bb=> ?_;rw [BMy9];refine fun t ht=>Zba (fun h=>by rw [ht h];exact ⟨.nilFull rfl,rfl⟩) fun h=>Zaz (by simp<;>omega) ?_;cases xs with
 |nil=>exact Zda rfl ⟨.rfl,rfl⟩
 |cons a xs=>exact Zaz (by simp) ⟨.rfl,rfl⟩
theorem AMn9 (x:AskT):(askR x).length=3:=rfl
theorem ANi9 (l:List AskT):∀r∈rowsA l,r.length=3:=by
 intro r hr;simp only [rowsA,Zbg] at hr;obtain ⟨x,_,rfl⟩:=hr;rfl
def BQt9 (args:List AV) (K:AV→Prop):Prop:=∃l:List AskT,args= [.d (.sl 3 (rowsA l))]∧l.length≤1000000∧K (.d (.sl 3 (rowsA l)))
theorem BHy9:∀args K,BQt9 args K→∃x,PCall prog 97 args x∧K x:=by
 rintro _ K ⟨l,rfl,hl,hk⟩;exact ⟨_,ATa9.pc BFv9 (rowsA l) (by rw [AAn9];exact hl) (ANi9 l),hk⟩
def BPe9 (args:List AV) (hp:List Blk) (K:AV→List Blk→Prop):Prop:=∃(hs:List AskT),args= [.d (.sl 3 (rowsA hs))]∧hs.length≤1000000∧BIf hs.isEmpty (K (.d (.sl 3 [])) hp) (K (.gref hp.length 0 hs.length 3) (hp++ [growB 0 (flatA (rowsA hs))]))
theorem BDi9:∀args hp K,BPe9 args hp K→∃x hp',SCall prog 97 args hp x hp'∧K x hp':=by
 rintro _ hp K ⟨hs,rfl,hl,hK⟩;have h1:=(BFv9 (rowsA hs) (by rw [AAn9];omega)).toS rfl hp;cases hs with
 |nil=>exact ⟨_,_,SCall.toSl h1,by simpa [rowsA,AGb9,BIf] using hK⟩
 | cons a r=>
  refine ⟨_,_,h1, ?_⟩;simpa [rowsA,shift,AGb9,AQu9,blkG,AHe9,BIf,growB] using hK
noncomputable def lpDfA:Code:=sub [1,1,1,0,1,2,3] (code f147)
def tmDfA (v n:Nat) (i j:Int):List AV:= [.gref 2 v n 3, .fn (.func 148) [] [.ptr 1 0, .ptr 0 0], .bad, .bad, .bad, .d (i64 i), .d (i64 j)]++Zap 35 .bad
def UDrA:List (Nat×(List AV→List Blk→(AV→List Blk→Prop)→Prop)):= [(1000000+63,fun _ _ _=>False),(148,lendC BIe9)]
theorem CFk9:AAl9 prog UDrA:=Zbr (fun _ _ _ h=>h.elim) (Zbr (AFk9 ASu9) Zah)
def hpDfA (sl:Int) (v':Nat) (cs:List AV):List Blk:= [boxA (.fn (.func 118) [] []),boxA (.fn (.func 138) [] [.rptr [i64 sl]]),growB v' cs]
theorem rDfA (v' n:Nat) (i j sl:Int) (cs:List AV):wpc prog ⟨[],UDrA,wl,y,false⟩ 100 lpDfA (tmDfA v' n i j) (hpDfA sl v' cs) b (maskK 3 [0,1,5,6] K)=(v'=v'∧BIf (decide (j<(n:Int))) (v'=v'∧BIf (decide (0≤j)&&decide (j<(n:Int))) (v'=v'∧∃(x0:Int) (x1:Int) (x2:Int),Zbo 3 (Zca (Zam j*3) cs)=(Qz31 x0 x1 x2)∧∃(x3:AskT) (sl4:Int) (q5:Bool), [Zaq (Qz31 x0 x1 x2),Zag [Zcq (Fn.func 138) [Zdr [i64 sl]]],Zag [Zcq (Fn.func 118) []]]= [Zaq (Qz12 x3),Zag [Zcq (Fn.func 138) [Zdr [i64 sl4]]],Zag [Zcq (Fn.func 118) []]]∧q5=(Zcr x3==sl4)∧BIf (!q5) (v'=v'∧BIf (decide (0≤i)&&decide (i<(n:Int))) (v'=v'∧BIf (decide (Zam i*3+3≤Zaa cs)) (BIf (Zbk [Blk.mk [Zax (Fn.func 118) [] []] false false 0,Blk.mk [Zax (Fn.func 138) [] [Zag [i64 sl]]] false false 0,Blk.mk (Zbo (Zam i*3) cs++(Qz31 x0 x1 x2)++Zca (Zam i*3+3) cs) false true v'] fun (blk6:Blk)=>lows 3 blk6.1) (K .normal (Zbl 2 v' n 3::Zax (Fn.func 148) [] [Zaf 1 0,Zaf 0 0]::bds 3 (Zae (i64 (Zad .i64 (i+1)))::Zae (i64 (Zad .i64 (j+1)))::bds 35 [])) [Blk.mk [Zax (Fn.func 118) [] []] false false 0,Blk.mk [Zax (Fn.func 138) [] [Zag [i64 sl]]] false false 0,Blk.mk (Zbo (Zam i*3) cs++(Qz31 x0 x1 x2)++Zca (Zam i*3+3) cs) false true v'] b) False) False) False) (BIf (Zbk [Blk.mk [Zax (Fn.func 118) [] []] false false 0,Blk.mk [Zax (Fn.func 138) [] [Zag [i64 sl]]] false false 0,Blk.mk cs false true v'] fun (blk7:Blk)=>lows 3 blk7.1) (K .normal (Zbl 2 v' n 3::Zax (Fn.func 148) [] [Zaf 1 0,Zaf 0 0]::bds 3 (Zae (i64 i)::Zae (i64 (Zad .i64 (j+1)))::bds 35 [])) [Blk.mk [Zax (Fn.func 118) [] []] false false 0,Blk.mk [Zax (Fn.func 138) [] [Zag [i64 sl]]] false false 0,Blk.mk cs false true v'] b) False)) False) (BIf (Zbk [Blk.mk [Zax (Fn.func 118) [] []] false false 0,Blk.mk [Zax (Fn.func 138) [] [Zag [i64 sl]]] false false 0,Blk.mk cs false true v'] fun (blk8:Blk)=>lows 3 blk8.1) (K (Zbj 0) (Zbl 2 v' n 3::Zax (Fn.func 148) [] [Zaf 1 0,Zaf 0 0]::bds 3 (Qz62 i j)) [Blk.mk [Zax (Fn.func 118) [] []] false false 0,Blk.mk [Zax (Fn.func 138) [] [Zag [i64 sl]]] false false 0,Blk.mk cs false true v'] b) False)):=by kernel_rfl
theorem BGe9 (sl:Int) (v':Nat) (hs:List AskT):Zbk (hpDfA sl v' (flatA (rowsA hs))) (fun blk=>lows 3 blk.1)=true:=by
 simp only [hpDfA,List.all_cons,List.all_nil,Bool.and_true,Zai];exact ⟨rfl,rfl,ACu9 3 _⟩
theorem wrDfA {Ev:Env prog} {b:Ev.β} {Q:Exit→St Ev.β→Prop} (v':Nat) (sl:Int) (hs:List AskT) (hl:hs.length<1000000)
 (hQ:∀cur:List AskT,cur.length=hs.length→cur.take (hs.filter fun x=> !(fun x:AskT=>x.sl==sl) x).length=(hs.filter fun x=> !(fun x:AskT=>x.sl==sl) x)→Q (.exit 0) ⟨tmDfA v' hs.length ((hs.filter fun x=> !(fun x:AskT=>x.sl==sl) x).length:Nat) hs.length,hpDfA sl v' (flatA (rowsA cur)),b⟩)
 (j:Nat) (hj:hs.findIdx? (fun x:AskT=>x.sl==sl)=some j):WR Ev lpDfA ((hs.drop (j+1)).length+1) ⟨tmDfA v' hs.length (j:Nat) ((j+1:Nat):Int),hpDfA sl v' (flatA (rowsA hs)),b⟩ Q:=by
 obtain ⟨hj1,hj2⟩:=AFr9 hj;refine WR.delL (X:=⟨[],UDrA,wlW Ev,Ev.Y,false⟩) (k:=100) (L:=3) [0,1,5,6] mixed (CX.Ok.of Zak CFk9) hs (fun x:AskT=>x.sl==sl) (fun i j=>tmDfA v' hs.length (i:Nat) (j:Nat)) (fun c=>hpDfA sl v' (flatA (rowsA c))) (fun _=>rfl) 0 (fun i j cur x hx hi hj hcl K k1 k2=> ?_) (fun i cur K hcl k1=> ?_) hQ (hs.drop (j+1)) (j+1) j hs rfl hj1 (by omega) rfl hj2 rfl
 ·refine Eq.mpr (rDfA _ _ _ K v' hs.length i j sl _) ?_;refine ⟨rfl,Zaz (by simp;omega) ⟨rfl,Zaz (by simp;omega) ⟨rfl,_,_,_,by rw [Zcf];exact fl_at AMn9 hx,x,sl,_,rfl,rfl,Zba (fun h1=> ?_) fun h1=> ?_⟩⟩⟩
  ·rw [Zcb] at h1;have hk2:=k2 h1;have e:=BWc9 AMn9 (hs:=cur) (i:=i) (by omega) x;refine ⟨rfl,Zaz (by simp;omega) ⟨rfl,Zaz (by rw [Zcf];have:=AZv9 AMn9 cur;rw [show flatA (rowsA cur)=flatA (cur.map askR) from rfl,this];simp;omega) ?_⟩⟩;rw [Zcf,wrapN (by omega),wrapN (by omega)];have hlow:=BGe9 sl v' (cur.set i x);simp only [hpDfA,rowsA] at hk2 hlow;rw [←e] at hk2 hlow;exact Zaz hlow hk2
  ·rw [Zej] at h1;rw [wrapN (by omega)];exact Zaz (BGe9 sl v' cur) (k1 h1)
 ·refine Eq.mpr (rDfA _ _ _ K v' hs.length i hs.length sl _) ?_;exact ⟨rfl,Zda (by simp) (Zaz (BGe9 sl v' cur) k1)⟩
def CAl9 {β:Type}:WLT β:=fun c tm hp b K=>∃(v':Nat) (sl i j:Int) (hs out:List AskT),c= .loop lpDfA∧AAv9 [0,1,5,6] 0 tm=tmDfA v' hs.length i j∧hp=hpDfA sl v' (flatA (rowsA hs))∧(hs.length<1000000∧0≤i∧i=idxS (fun x:AskT=>x.sl==sl) hs∧j=Zad Zbc (i+1)∧out=hs.filter fun x=> !(fun x:AskT=>x.sl==sl) x)∧
 ∀(cur:List AskT),cur.length=hs.length→cur.take out.length=out→K (.exit 0) (tmDfA v' hs.length (out.length:Nat) hs.length) (hpDfA sl v' (flatA (rowsA cur))) b
theorem BKc9 {Ev:Env prog} (c:Code) (tm:List AV) (hp:List Blk) (b:Ev.β) (K:Exit→List AV→List Blk→Ev.β→Prop) (h:CAl9 c tm hp b K):W Ev c ⟨tm,hp,b⟩ (fun e s=>K e s.tm s.hp s.b):=by
 obtain ⟨v',sl,i,j,hs,_,rfl,htm,rfl,⟨hl,h0,hi,rfl,rfl⟩,hK⟩:=h;cases hf:hs.findIdx? (fun x:AskT=>x.sl==sl) with
 |none=>rw [ABb9 hf] at hi;omega
 | some j0=>
  rw [AAj9 hf] at hi;subst hi;have hj1:=(AFr9 hf).1;rw [wrapN (by omega)] at htm;refine W.cast (htm▸AAb9 _ tm 0) (Zbp _) ?_;exact W.rounds (wrDfA (Q:=fun e s=>K e s.tm s.hp s.b) v' sl hs hl hK j0 hf)
def TDfA:List (Nat×(List AV→(AV→Prop)→Prop)):= [(4000011,cNone)]
theorem BRo9:AAc9 prog TDfA:=Zaj (ABy9 _) Zak
def UDfA:List (Nat×(List AV→List Blk→(AV→List Blk→Prop)→Prop)):= [(1000000+63,fun _ _ _=>False),(90,lendC BHh9)]
theorem BRm9:AAl9 prog UDfA:=Zbr (fun _ _ _ h=>h.elim) (Zbr (AFk9 BAj9) Zah)
def wlDfA {β:Type} (y:ACw9 β):WLT β:=wlZ prog ⟨TDfA,UDfA,fun _ _ _ _ _=>False,y,false⟩ CAl9
theorem CEd9 (v' n:Nat) (sl:Int) (cs:List AV):wpc prog ⟨TDfA,UDfA,wlDfA y,y,false⟩ 100 (code f147) (ACg9 f147 [.gref 2 v' n 3, .fn (.func 148) [] [.ptr 1 0, .ptr 0 0]]) (hpDfA sl v' cs) b (fnKS prog f147 Kr)=(v'=v'∧∃(xs0:List (List Dv)),cs=flatA xs0∧Zaa xs0=n∧(∀(r:List Dv),r∈xs0→Zaa r=3)∧∃(l1:List AskT) (sl2:Int) (q3:Int), [Zae (Zan 3 xs0),Zax (Fn.func 148) [] [Zag [Zcq (Fn.func 138) [Zdr [i64 sl]]],Zag [Zcq (Fn.func 118) []]]]= [Zae (Zan 3 (rowsA l1)),Zax (Fn.func 148) [] [Zag [Zcq (Fn.func 138) [Zdr [i64 sl2]]],Zag [Zcq (Fn.func 118) []]]]∧(Zaa l1≤9223372036854775807∧q3=idxS (fun (x4:AskT)=>Zcr x4==sl2) l1)∧BIf (q3==(-1:Int)) (Kr (Zbl 2 v' n 3) [Blk.mk [Zax (Fn.func 118) [] []] false false 0,Blk.mk [Zax (Fn.func 138) [] [Zag [i64 sl]]] false false 0,Blk.mk cs false true v'] b) (∃(v5:Nat) (sl6:Int) (i7:Int) (j8:Int) (hs9:List AskT) (out10:List AskT),Zat lpDfA=Zat lpDfA∧(Zbl 2 v' n 3::Zax (Fn.func 148) [] [Zaf 1 0,Zaf 0 0]::bds 3 (Zae (i64 q3)::Zae (i64 (Zad .i64 (q3+1)))::bds 35 []))=(Zbl 2 v5 (Zaa hs9) 3::Zax (Fn.func 148) [] [Zaf 1 0,Zaf 0 0]::bds 3 (Qz62 i7 j8))∧ [Blk.mk [Zax (Fn.func 118) [] []] false false 0,Blk.mk [Zax (Fn.func 138) [] [Zag [i64 sl]]] false false 0,Blk.mk cs false true v']= [Blk.mk [Zax (Fn.func 118) [] []] false false 0,Blk.mk [Zax (Fn.func 138) [] [Zag [i64 sl6]]] false false 0,Blk.mk (flatA (rowsA hs9)) false true v5]∧(Zaa hs9<1000000∧(0:Int)≤i7∧i7=idxS (fun (x11:AskT)=>Zcr x11==sl6) hs9∧j8=Zad .i64 (i7+1)∧out10=Zce (fun (x12:AskT)=> !AskT.sl x12==sl6) hs9)∧∀(cur:List AskT),Zaa cur=Zaa hs9→Zbo (Zaa out10) cur=out10→v5=v5∧BIf (true&&decide (((Zaa out10:Nat):Int)≤((Zaa hs9:Nat):Int))) (BIf (true&&decide (((Zaa out10:Nat):Int)≤((Zaa hs9:Nat):Int))) (v5=v5∧Kr (Zbl 2 (v5+1) (Zam ((Zaa out10:Nat):Int)) 3) [Blk.mk [Zax (Fn.func 118) [] []] false false 0,Blk.mk [Zax (Fn.func 138) [] [Zag [i64 sl6]]] false false 0,Blk.mk (Zbo (Zam ((Zaa out10:Nat):Int)*3) (Zbo (Zam ((Zaa out10:Nat):Int)*3) (flatA (rowsA cur))++flatA (Zap (Zaa hs9 - Zam ((Zaa out10:Nat):Int)) [i64 0,i64 0,i64 0]))) false true (v5+1)] b) False) False)):=by kernel_rfl
theorem BWr9 (sl:Int):wpc prog ⟨TDfA,UDfA,wlDfA y,y,false⟩ 100 (code f147) (ACg9 f147 [.d (.sl 3 []), .fn (.func 148) [] [.ptr 1 0, .ptr 0 0]]) [boxA (.fn (.func 118) [] []),boxA (.fn (.func 138) [] [.rptr [i64 sl]])] b (fnKS prog f147 Kr)=(∃(l0:List AskT) (sl1:Int) (q2:Int), [Zae (Zan 3 []),Zax (Fn.func 148) [] [Zag [Zcq (Fn.func 138) [Zdr [i64 sl]]],Zag [Zcq (Fn.func 118) []]]]= [Zae (Zan 3 (rowsA l0)),Zax (Fn.func 148) [] [Zag [Zcq (Fn.func 138) [Zdr [i64 sl1]]],Zag [Zcq (Fn.func 118) []]]]∧(Zaa l0≤9223372036854775807∧q2=idxS (fun (x3:AskT)=>Zcr x3==sl1) l0)∧BIf (q2==(-1:Int)) (Kr (Zae (Zan 3 [])) [Blk.mk [Zax (Fn.func 118) [] []] false false 0,Blk.mk [Zax (Fn.func 138) [] [Zag [i64 sl]]] false false 0] b) (∃(v4:Nat) (sl5:Int) (i6:Int) (j7:Int) (hs8:List AskT) (out9:List AskT),Zat lpDfA=Zat lpDfA∧(Zae (Zan 3 [])::Zax (Fn.func 148) [] [Zaf 1 0,Zaf 0 0]::bds 3 (Zae (i64 q2)::Zae (i64 (Zad .i64 (q2+1)))::bds 35 []))=(Zbl 2 v4 (Zaa hs8) 3::Zax (Fn.func 148) [] [Zaf 1 0,Zaf 0 0]::bds 3 (Qz62 i6 j7))∧ [Blk.mk [Zax (Fn.func 118) [] []] false false 0,Blk.mk [Zax (Fn.func 138) [] [Zag [i64 sl]]] false false 0]= [Blk.mk [Zax (Fn.func 118) [] []] false false 0,Blk.mk [Zax (Fn.func 138) [] [Zag [i64 sl5]]] false false 0,Blk.mk (flatA (rowsA hs8)) false true v4]∧(Zaa hs8<1000000∧(0:Int)≤i6∧i6=idxS (fun (x10:AskT)=>Zcr x10==sl5) hs8∧j7=Zad .i64 (i6+1)∧out9=Zce (fun (x11:AskT)=> !AskT.sl x11==sl5) hs8)∧∀(cur:List AskT),Zaa cur=Zaa hs8→Zbo (Zaa out9) cur=out9→v4=v4∧BIf (true&&decide (((Zaa out9:Nat):Int)≤((Zaa hs8:Nat):Int))) (BIf (true&&decide (((Zaa out9:Nat):Int)≤((Zaa hs8:Nat):Int))) (v4=v4∧Kr (Zbl 2 (v4+1) (Zam ((Zaa out9:Nat):Int)) 3) [Blk.mk [Zax (Fn.func 118) [] []] false false 0,Blk.mk [Zax (Fn.func 138) [] [Zag [i64 sl5]]] false false 0,Blk.mk (Zbo (Zam ((Zaa out9:Nat):Int)*3) (Zbo (Zam ((Zaa out9:Nat):Int)*3) (flatA (rowsA cur))++flatA (Zap (Zaa hs8 - Zam ((Zaa out9:Nat):Int)) [i64 0,i64 0,i64 0]))) false true (v4+1)] b) False) False)):=by kernel_rfl
def GCU:List (Nat×(List AV→List Blk→(AV→List Blk→Prop)→Prop)):= [(1000000+61,fun _ _ _=>False)]
theorem BYx9:AAl9 prog GCU:=Zbr (fun _ _ _ h=>h.elim) Zah
theorem BMw9 (xs:List (List Dv)):wpFnS prog ⟨[],GCU,wl,y,false⟩ 100 f93 [.d (.sl 4 xs)] b Kr=(∀(t:Bool),(t=true→xs= [])→BIf t (Kr (Zae (Zdy (.slice none 0 0))) [] b) (BIf (true&&decide (Zaa xs*32≤140737488355328)) (BIf (decide (0<Zaa xs)) (Kr (Zbl 0 0 (Zaa xs) 4) [Blk.mk (flatA xs) false true 0] b) (Kr (Zgb 4 []) [] b)) False)):=by kernel_rfl
theorem BWf9:ATa9 prog 93 4:=fun xs hl=>by
 refine Zgt (n:=100) (u:=false) (fun _=>fun _ _ _ _ _=>False) mixed Zak BYx9 (fun Ev _ _ _ _ _ h=>h.elim) func93 (by rfl) (by rfl) (by split<;>rfl) fun Ev bb=> ?_;rw [BMw9];refine fun t ht=>Zba (fun h=>by rw [ht h];exact ⟨.nilFull rfl,rfl⟩) fun h=>Zaz (by simp<;>omega) ?_;cases xs with
 |nil=>exact Zda rfl ⟨.rfl,rfl⟩
 |cons a xs=>exact Zaz (by simp) ⟨.rfl,rfl⟩
theorem BPf9 (l:List UseT):∀r∈rowsU l,r.length=4:=by
 intro r hr;simp only [rowsU,Zbg] at hr;obtain ⟨x,_,rfl⟩:=hr;rfl
def BHw9 (args:List AV) (K:AV→Prop):Prop:=∃l:List UseT,args= [.d (.sl 4 (rowsU l))]∧l.length≤1000000∧K (.d (.sl 4 (rowsU l)))
theorem ASs9:∀args K,BHw9 args K→∃x,PCall prog 93 args x∧K x:=by
 rintro _ K ⟨l,rfl,hl,hk⟩;exact ⟨_,ATa9.pc BWf9 (rowsU l) (by rw [AAh9];exact hl) (BPf9 l),hk⟩
theorem AWv9:Tryz.f131.body=some (code f131):=by rfl
def delVG (v':Nat) (fr:Int) (hs:List GraT):Nat:=if (hs.findIdx? (fun x:GraT=>decide (x.un<fr))).isSome then v'+1 else v'
theorem CEc9 (Ev:Env prog):CX.Ok Ev ⟨TDfG,UDfG,wlDfG Ev.Y,Ev.Y,false⟩:=
 CX.Ok.ofWl BRn9 BRl9 (BZp9 (X:=⟨TDfG,UDfG,fun _ _ _ _ _=>False,Ev.Y,false⟩) (CX.Ok.ofWl BRn9 BRl9 fun _ _ _ _ _ h=>h.elim) BKb9)
theorem CAz9 (fr:Int):SCall prog 131 [.d (.sl 5 []), .fn (.func 132) [] [.ptr 1 0, .ptr 0 0]] [boxA (.fn (.func 95) [] []),boxA (.fn (.func 96) [] [.rptr [i64 fr]])] (.d (.sl 5 [])) [boxA (.fn (.func 95) [] []),boxA (.fn (.func 96) [] [.rptr [i64 fr]])]:=by
 refine Zgn func131 AWv9 (by rfl) fun Ev b=> ?_;refine AAw9 (X:=⟨TDfG,UDfG,wlDfG Ev.Y,Ev.Y,false⟩) (n:=100) mixed (CEc9 Ev) ?_ fun e tm hp b hK=>AEw9 hK;rw [BWq9];exact ⟨[],fr, -1,rfl,⟨by simp,rfl⟩,Zaz (by decide) ⟨rfl,rfl⟩⟩
theorem CGn9 (v':Nat) (fr:Int) (hs:List GraT) (hl:hs.length<1000000):
 SCall prog 131 [.gref 2 v' hs.length 5, .fn (.func 132) [] [.ptr 1 0, .ptr 0 0]] (hpDfG fr v' (flatA (rowsG hs))) (.gref 2 (delVG v' fr hs) (hs.filter (fun x:GraT=> !(fun x:GraT=>decide (x.un<fr)) x)).length 5) (hpDfG fr (delVG v' fr hs) (flatA (rowsG (hs.filter (fun x:GraT=> !(fun x:GraT=>decide (x.un<fr)) x))))):=by
 refine Zgn func131 AWv9 (by rfl) fun Ev b=> ?_;refine AAw9 (X:=⟨TDfG,UDfG,wlDfG Ev.Y,Ev.Y,false⟩) (n:=100) mixed (CEc9 Ev) ?_ fun e tm hp b hK=>AEw9 hK;refine Eq.mpr (CEb9 _ _ _ v' hs.length fr _) ?_;refine ⟨rfl,rowsG hs,rfl,AAf9 hs,AQz9 hs,hs,fr,_,rfl,⟨by omega,rfl⟩,Zba (fun h1=> ?_) fun h1=> ?_⟩
 ·have hn:hs.findIdx? (fun x:GraT=>decide (x.un<fr))=none:=by
   cases hf:hs.findIdx? (fun x:GraT=>decide (x.un<fr)) with
   |none=>rfl
   |some j=>rw [AAj9 hf] at h1;simp at h1
  rw [delVG,hn,BFr9 hn];exact ⟨rfl,rfl⟩
 ·cases hf:hs.findIdx? (fun x:GraT=>decide (x.un<fr)) with
  |none=>rw [ABb9 hf] at h1;simp at h1
  | some j=>
   have hle:(hs.filter (fun x:GraT=> !(fun x:GraT=>decide (x.un<fr)) x)).length≤hs.length:=Zfz _ _;refine ⟨v',fr,_,_,hs,_,rfl,rfl,rfl,⟨hl,by rw [AAj9 hf];omega,rfl,rfl,rfl⟩,fun cur hcl hct=>⟨rfl,Zaz (by simp;exact hle) (Zaz (by simp;exact hle) ⟨rfl, ?_⟩)⟩⟩;rw [Zcf,delVG,hf];refine ⟨rfl, ?_⟩;have hcur:flatA (rowsG cur)=flatA (cur.map graR):=rfl;have e:((flatA (rowsG cur)).take ((hs.filter (fun x:GraT=> !(fun x:GraT=>decide (x.un<fr)) x)).length*5)).length=(hs.filter (fun x:GraT=> !(fun x:GraT=>decide (x.un<fr)) x)).length*5:=by
    rw [Zcd,hcur,AZv9 AFo9,hcl];omega
   rw [Zev (by rw [e];exact Zaw _),List.take_take,Nat.min_self,hcur,ASl9 AFo9,hct];rfl
def sDelG (args:List AV) (hp:List Blk) (K:AV→List Blk→Prop):Prop:=match hp with
 | [b0,b1]=>∃(fr:Int),args= [.d (.sl 5 []), .fn (.func 132) [] [.ptr 1 0, .ptr 0 0]]∧b0=boxA (.fn (.func 95) [] [])∧b1=boxA (.fn (.func 96) [] [.rptr [i64 fr]])∧K (.d (.sl 5 [])) [boxA (.fn (.func 95) [] []),boxA (.fn (.func 96) [] [.rptr [i64 fr]])]
 | [b0,b1,b2]=>∃(v' n:Nat) (fr:Int) (hs out:List GraT),args= [.gref 2 v' n 5, .fn (.func 132) [] [.ptr 1 0, .ptr 0 0]]∧b0=boxA (.fn (.func 95) [] [])∧b1=boxA (.fn (.func 96) [] [.rptr [i64 fr]])∧b2=growB v' (flatA (rowsG hs))∧(n=hs.length∧hs.length<1000000∧out=hs.filter (fun x:GraT=> !(fun x:GraT=>decide (x.un<fr)) x))∧
  ∀v',K (.gref 2 v' out.length 5) [boxA (.fn (.func 95) [] []),boxA (.fn (.func 96) [] [.rptr [i64 fr]]),growB v' (flatA (rowsG out))]
 |_=>False
theorem BTn9:∀args hp K,sDelG args hp K→∃x hp',SCall prog 131 args hp x hp'∧K x hp':=by
 intro args hp K h;unfold sDelG at h;split at h
 ·obtain ⟨fr,rfl,rfl,rfl,h⟩:=h;exact ⟨_,_,CAz9 fr,h⟩
 ·obtain ⟨v',_,fr,hs,_,rfl,rfl,rfl,rfl,⟨rfl,hl,rfl⟩,h⟩:=h;exact ⟨_,_,CGn9 v' fr hs hl,h _⟩
 ·exact h.elim
def UWoG:List (Nat×(List AV→List Blk→(AV→List Blk→Prop)→Prop)):= [(1000000+59,fun _ _ _=>False),(48,BDh9),(131,sDelG)]
theorem CFf9:AAl9 prog UWoG:=Zbr (fun _ _ _ h=>h.elim) (Zbr AQx9 (Zbr BTn9 Zah))
theorem CGi9 (hs:List GraT) (fr:Int):wpFn prog ⟨[],UWoG,wl,y,false⟩ 100 f94 [.d (.sl 5 (rowsG hs)), .fn (.func 95) [] [], .fn (.func 96) [] [.rptr [i64 fr]]] b R=(∃(hs0:List GraT), [Zae (Zan 5 (rowsG hs))]= [Zae (Zan 5 (rowsG hs0))]∧Zaa hs0≤1000000∧BIf (Zfw hs0) (∃(fr1:Int), [Zae (Zan 5 []),Zax (Fn.func 132) [] [Zaf 1 0,Zaf 0 0]]= [Zae (Zan 5 []),Zax (Fn.func 132) [] [Zaf 1 0,Zaf 0 0]]∧Blk.mk [Zax (Fn.func 95) [] []] false false 0=Blk.mk [Zax (Fn.func 95) [] []] false false 0∧Blk.mk [Zax (Fn.func 96) [] [Zag [i64 fr]]] false false 0=Blk.mk [Zax (Fn.func 96) [] [Zag [i64 fr1]]] false false 0∧R (.d (Zan 5 [])) b) (∃(v2:Nat) (n3:Nat) (fr4:Int) (hs5:List GraT) (out6:List GraT), [Zbl 2 0 (Zaa hs0) 5,Zax (Fn.func 132) [] [Zaf 1 0,Zaf 0 0]]= [Zbl 2 v2 n3 5,Zax (Fn.func 132) [] [Zaf 1 0,Zaf 0 0]]∧Blk.mk [Zax (Fn.func 95) [] []] false false 0=Blk.mk [Zax (Fn.func 95) [] []] false false 0∧Blk.mk [Zax (Fn.func 96) [] [Zag [i64 fr]]] false false 0=Blk.mk [Zax (Fn.func 96) [] [Zag [i64 fr4]]] false false 0∧Blk.mk (flatA (rowsG hs0)) false true 0=Blk.mk (flatA (rowsG hs5)) false true v2∧(n3=Zaa hs5∧Zaa hs5<1000000∧out6=Zce (fun (x7:GraT)=> !decide (Zeh x7<fr4)) hs5)∧∀(v':Nat),v'=v'∧∃(xs8:List (List Dv)),flatA (rowsG out6)=flatA xs8∧Zaa xs8=Zaa out6∧(∀(r:List Dv),r∈xs8→Zaa r=5)∧R (.d (Zan 5 xs8)) b)):=by kernel_rfl
theorem pcWoG (hs:List GraT) (fr:Int) (hl:hs.length<1000000):PCall prog 94 [.d (.sl 5 (rowsG hs)), .fn (.func 95) [] [], .fn (.func 96) [] [.rptr [i64 fr]]] (.d (.sl 5 (rowsG (hs.filter (fun x:GraT=> !(fun x:GraT=>decide (x.un<fr)) x))))):=by
 refine Zbf (n:=100) (u:=false) mixed Zak CFf9 func94 (by rfl) (by rfl) fun Ev bb=> ?_;rw [CGi9];refine ⟨hs,rfl,by omega,Zba (fun h1=> ?_) fun h1=> ?_⟩
 ·have h2:hs= []:=List.isEmpty_iff.1 h1;subst h2;exact ⟨fr,rfl,rfl,rfl,rfl⟩
 ·refine ⟨0,_,fr,hs,_,rfl,rfl,rfl,rfl,⟨rfl,hl,rfl⟩,fun v'=>⟨rfl,rowsG (hs.filter (fun x:GraT=> !(fun x:GraT=>decide (x.un<fr)) x)),rfl,AAf9 _,AQz9 _,rfl⟩⟩
def cWoG (args:List AV) (K:AV→Prop):Prop:=∃(hs z:List GraT) (fr:Int),args= [.d (.sl 5 (rowsG hs)), .fn (.func 95) [] [], .fn (.func 96) [] [.rptr [i64 fr]]]∧(hs.length<1000000∧z=hs.filter (fun x:GraT=> !(fun x:GraT=>decide (x.un<fr)) x))∧K (.d (.sl 5 (rowsG z)))
theorem CEh9:∀args K,cWoG args K→∃x,PCall prog 94 args x∧K x:=by
 rintro _ K ⟨hs,_,fr,rfl,⟨hl,rfl⟩,hk⟩;exact ⟨_,pcWoG hs fr hl,hk⟩
theorem AWw9:Tryz.f147.body=some (code f147):=by rfl
def delVA (v':Nat) (sl:Int) (hs:List AskT):Nat:=if (hs.findIdx? (fun x:AskT=>x.sl==sl)).isSome then v'+1 else v'
theorem CEe9 (Ev:Env prog):CX.Ok Ev ⟨TDfA,UDfA,wlDfA Ev.Y,Ev.Y,false⟩:=
 CX.Ok.ofWl BRo9 BRm9 (BZp9 (X:=⟨TDfA,UDfA,fun _ _ _ _ _=>False,Ev.Y,false⟩) (CX.Ok.ofWl BRo9 BRm9 fun _ _ _ _ _ h=>h.elim) BKc9)
theorem CBa9 (sl:Int):SCall prog 147 [.d (.sl 3 []), .fn (.func 148) [] [.ptr 1 0, .ptr 0 0]] [boxA (.fn (.func 118) [] []),boxA (.fn (.func 138) [] [.rptr [i64 sl]])] (.d (.sl 3 [])) [boxA (.fn (.func 118) [] []),boxA (.fn (.func 138) [] [.rptr [i64 sl]])]:=by
 refine Zgn func147 AWw9 (by rfl) fun Ev b=> ?_;refine AAw9 (X:=⟨TDfA,UDfA,wlDfA Ev.Y,Ev.Y,false⟩) (n:=100) mixed (CEe9 Ev) ?_ fun e tm hp b hK=>AEw9 hK;rw [BWr9];exact ⟨[],sl, -1,rfl,⟨by simp,rfl⟩,Zaz (by decide) ⟨rfl,rfl⟩⟩
theorem CGo9 (v':Nat) (sl:Int) (hs:List AskT) (hl:hs.length<1000000):
 SCall prog 147 [.gref 2 v' hs.length 3, .fn (.func 148) [] [.ptr 1 0, .ptr 0 0]] (hpDfA sl v' (flatA (rowsA hs))) (.gref 2 (delVA v' sl hs) (hs.filter (fun x:AskT=> !(fun x:AskT=>x.sl==sl) x)).length 3) (hpDfA sl (delVA v' sl hs) (flatA (rowsA (hs.filter (fun x:AskT=> !(fun x:AskT=>x.sl==sl) x))))):=by
 refine Zgn func147 AWw9 (by rfl) fun Ev b=> ?_;refine AAw9 (X:=⟨TDfA,UDfA,wlDfA Ev.Y,Ev.Y,false⟩) (n:=100) mixed (CEe9 Ev) ?_ fun e tm hp b hK=>AEw9 hK;refine Eq.mpr (CEd9 _ _ _ v' hs.length sl _) ?_;refine ⟨rfl,rowsA hs,rfl,AAn9 hs,ANi9 hs,hs,sl,_,rfl,⟨by omega,rfl⟩,Zba (fun h1=> ?_) fun h1=> ?_⟩
 ·have hn:hs.findIdx? (fun x:AskT=>x.sl==sl)=none:=by
   cases hf:hs.findIdx? (fun x:AskT=>x.sl==sl) with
   |none=>rfl
   |some j=>rw [AAj9 hf] at h1;simp at h1
  rw [delVA,hn,BFr9 hn];exact ⟨rfl,rfl⟩
 ·cases hf:hs.findIdx? (fun x:AskT=>x.sl==sl) with
  |none=>rw [ABb9 hf] at h1;simp at h1
  | some j=>
   have hle:(hs.filter (fun x:AskT=> !(fun x:AskT=>x.sl==sl) x)).length≤hs.length:=Zfz _ _;refine ⟨v',sl,_,_,hs,_,rfl,rfl,rfl,⟨hl,by rw [AAj9 hf];omega,rfl,rfl,rfl⟩,fun cur hcl hct=>⟨rfl,Zaz (by simp;exact hle) (Zaz (by simp;exact hle) ⟨rfl, ?_⟩)⟩⟩;rw [Zcf,delVA,hf];refine ⟨rfl, ?_⟩;have hcur:flatA (rowsA cur)=flatA (cur.map askR):=rfl;have e:((flatA (rowsA cur)).take ((hs.filter (fun x:AskT=> !(fun x:AskT=>x.sl==sl) x)).length*3)).length=(hs.filter (fun x:AskT=> !(fun x:AskT=>x.sl==sl) x)).length*3:=by
    rw [Zcd,hcur,AZv9 AMn9,hcl];omega
   rw [Zev (by rw [e];exact Zaw _),List.take_take,Nat.min_self,hcur,ASl9 AMn9,hct];rfl
def sDelA (args:List AV) (hp:List Blk) (K:AV→List Blk→Prop):Prop:=match hp with
 | [b0,b1]=>∃(sl:Int),args= [.d (.sl 3 []), .fn (.func 148) [] [.ptr 1 0, .ptr 0 0]]∧b0=boxA (.fn (.func 118) [] [])∧b1=boxA (.fn (.func 138) [] [.rptr [i64 sl]])∧K (.d (.sl 3 [])) [boxA (.fn (.func 118) [] []),boxA (.fn (.func 138) [] [.rptr [i64 sl]])]
 | [b0,b1,b2]=>∃(v' n:Nat) (sl:Int) (hs out:List AskT),args= [.gref 2 v' n 3, .fn (.func 148) [] [.ptr 1 0, .ptr 0 0]]∧b0=boxA (.fn (.func 118) [] [])∧b1=boxA (.fn (.func 138) [] [.rptr [i64 sl]])∧b2=growB v' (flatA (rowsA hs))∧(n=hs.length∧hs.length<1000000∧out=hs.filter (fun x:AskT=> !(fun x:AskT=>x.sl==sl) x))∧
  ∀v',K (.gref 2 v' out.length 3) [boxA (.fn (.func 118) [] []),boxA (.fn (.func 138) [] [.rptr [i64 sl]]),growB v' (flatA (rowsA out))]
 |_=>False
theorem BTo9:∀args hp K,sDelA args hp K→∃x hp',SCall prog 147 args hp x hp'∧K x hp':=by
 intro args hp K h;unfold sDelA at h;split at h
 ·obtain ⟨sl,rfl,rfl,rfl,h⟩:=h;exact ⟨_,_,CBa9 sl,h⟩
 ·obtain ⟨v',_,sl,hs,_,rfl,rfl,rfl,rfl,⟨rfl,hl,rfl⟩,h⟩:=h;exact ⟨_,_,CGo9 v' sl hs hl,h _⟩
 ·exact h.elim
def UWoA:List (Nat×(List AV→List Blk→(AV→List Blk→Prop)→Prop)):= [(1000000+63,fun _ _ _=>False),(97,BPe9),(147,sDelA)]
theorem CFg9:AAl9 prog UWoA:=Zbr (fun _ _ _ h=>h.elim) (Zbr BDi9 (Zbr BTo9 Zah))
theorem CGj9 (hs:List AskT) (sl:Int):wpFn prog ⟨[],UWoA,wl,y,false⟩ 100 f137 [.d (.sl 3 (rowsA hs)), .fn (.func 118) [] [], .fn (.func 138) [] [.rptr [i64 sl]]] b R=(∃(hs0:List AskT), [Zae (Zan 3 (rowsA hs))]= [Zae (Zan 3 (rowsA hs0))]∧Zaa hs0≤1000000∧BIf (Zfw hs0) (∃(sl1:Int), [Zae (Zan 3 []),Zax (Fn.func 148) [] [Zaf 1 0,Zaf 0 0]]= [Zae (Zan 3 []),Zax (Fn.func 148) [] [Zaf 1 0,Zaf 0 0]]∧Blk.mk [Zax (Fn.func 118) [] []] false false 0=Blk.mk [Zax (Fn.func 118) [] []] false false 0∧Blk.mk [Zax (Fn.func 138) [] [Zag [i64 sl]]] false false 0=Blk.mk [Zax (Fn.func 138) [] [Zag [i64 sl1]]] false false 0∧R (.d (Zan 3 [])) b) (∃(v2:Nat) (n3:Nat) (sl4:Int) (hs5:List AskT) (out6:List AskT), [Zbl 2 0 (Zaa hs0) 3,Zax (Fn.func 148) [] [Zaf 1 0,Zaf 0 0]]= [Zbl 2 v2 n3 3,Zax (Fn.func 148) [] [Zaf 1 0,Zaf 0 0]]∧Blk.mk [Zax (Fn.func 118) [] []] false false 0=Blk.mk [Zax (Fn.func 118) [] []] false false 0∧Blk.mk [Zax (Fn.func 138) [] [Zag [i64 sl]]] false false 0=Blk.mk [Zax (Fn.func 138) [] [Zag [i64 sl4]]] false false 0∧Blk.mk (flatA (rowsA hs0)) false true 0=Blk.mk (flatA (rowsA hs5)) false true v2∧(n3=Zaa hs5∧Zaa hs5<1000000∧out6=Zce (fun (x7:AskT)=> !AskT.sl x7==sl4) hs5)∧∀(v':Nat),v'=v'∧∃(xs8:List (List Dv)),flatA (rowsA out6)=flatA xs8∧Zaa xs8=Zaa out6∧(∀(r:List Dv),r∈xs8→Zaa r=3)∧R (.d (Zan 3 xs8)) b)):=by kernel_rfl
theorem pcWoA (hs:List AskT) (sl:Int) (hl:hs.length<1000000):PCall prog 137 [.d (.sl 3 (rowsA hs)), .fn (.func 118) [] [], .fn (.func 138) [] [.rptr [i64 sl]]] (.d (.sl 3 (rowsA (hs.filter (fun x:AskT=> !(fun x:AskT=>x.sl==sl) x))))):=by
 refine Zbf (n:=100) (u:=false) mixed Zak CFg9 func137 (by rfl) (by rfl) fun Ev bb=> ?_;rw [CGj9];refine ⟨hs,rfl,by omega,Zba (fun h1=> ?_) fun h1=> ?_⟩
 ·have h2:hs= []:=List.isEmpty_iff.1 h1;subst h2;exact ⟨sl,rfl,rfl,rfl,rfl⟩
 ·refine ⟨0,_,sl,hs,_,rfl,rfl,rfl,rfl,⟨rfl,hl,rfl⟩,fun v'=>⟨rfl,rowsA (hs.filter (fun x:AskT=> !(fun x:AskT=>x.sl==sl) x)),rfl,AAn9 _,ANi9 _,rfl⟩⟩
def cWoA (args:List AV) (K:AV→Prop):Prop:=∃(hs z:List AskT) (sl:Int),args= [.d (.sl 3 (rowsA hs)), .fn (.func 118) [] [], .fn (.func 138) [] [.rptr [i64 sl]]]∧(hs.length<1000000∧z=hs.filter (fun x:AskT=> !(fun x:AskT=>x.sl==sl) x))∧K (.d (.sl 3 (rowsA z)))
theorem CEi9:∀args K,cWoA args K→∃x,PCall prog 137 args x∧K x:=by
 rintro _ K ⟨hs,_,sl,rfl,⟨hl,rfl⟩,hk⟩;exact ⟨_,pcWoA hs sl hl,hk⟩
def TEx:List (Nat×(List AV→(AV→Prop)→Prop)):= [(93,BHw9),(97,BQt9),(94,cWoG)]
theorem CJb9:AAc9 prog TEx:=Zaj ASs9 (Zaj BHy9 (Zaj CEh9 Zak))
def TUa:List (Nat×(List AV→(AV→Prop)→Prop)):= [(137,cWoA)]
theorem CIg9:AAc9 prog TUa:=Zaj CEi9 Zak
abbrev Qz85 (v0:List UseT) (v1:List GraT) (v2:List AskT):List AV:= [Zae (Zan 4 (rowsU v0)),Zae (Zan 5 (rowsG v1)),Zae (Zan 3 (rowsA v2))]
theorem BMs9 (t:TabT) (fr:Int):wpFn prog ⟨TEx, [],wl,y,false⟩ 100 f47 [tabA t, .d (i64 fr)] b R=(∃(l0:List UseT), [Zae (Zan 4 (rowsU (Zdl t)))]= [Zae (Zan 4 (rowsU l0))]∧Zaa l0≤1000000∧∃(hs1:List GraT) (z2:List GraT) (fr3:Int), [Zae (Zan 5 (rowsG (Zdb t))),Zax (Fn.func 95) [] [],Zax (Fn.func 96) [] [Zag [i64 fr]]]= [Zae (Zan 5 (rowsG hs1)),Zax (Fn.func 95) [] [],Zax (Fn.func 96) [] [Zag [i64 fr3]]]∧(Zaa hs1<1000000∧z2=Zce (fun (x4:GraT)=> !decide (Zeh x4<fr3)) hs1)∧∃(l5:List AskT), [Zae (Zan 3 (rowsA (Zdh t)))]= [Zae (Zan 3 (rowsA l5))]∧Zaa l5≤1000000∧R (.agg (Qz85 l0 z2 l5)) b):=by kernel_rfl
theorem BCt9 (t:TabT) (sl:Int):wpFn prog ⟨TUa, [],wl,y,false⟩ 100 f105 [tabA t, .d (i64 sl)] b R=(∃(hs0:List AskT) (z1:List AskT) (sl2:Int), [Zae (Zan 3 (rowsA (Zdh t))),Zax (Fn.func 118) [] [],Zax (Fn.func 138) [] [Zag [i64 sl]]]= [Zae (Zan 3 (rowsA hs0)),Zax (Fn.func 118) [] [],Zax (Fn.func 138) [] [Zag [i64 sl2]]]∧(Zaa hs0<1000000∧z1=Zce (fun (x3:AskT)=> !AskT.sl x3==sl2) hs0)∧R (.d (Zan 3 (rowsA z1))) b):=by kernel_rfl
def TabLt (t:TabT):Prop:=t.us.length<1000000∧t.gs.length<1000000∧t.ak.length<1000000
def AEc9 (t:TabT) (fr:Int):TabT:=⟨t.us,t.gs.filter fun x=> !decide (x.un<fr),t.ak⟩
theorem BUh9 (t:TabT) (fr:Int) (h:TabLt t):PCall prog 47 [tabA t, .d (i64 fr)] (tabA (AEc9 t fr)):=by
 refine Zbf (n:=100) (u:=false) mixed CJb9 Zah func47 (by rfl) (by rfl) fun Ev bb=> ?_;rw [BMs9];exact ⟨t.us,rfl,by have:=h.1;omega,t.gs,_,fr,rfl,⟨h.2.1,rfl⟩,t.ak,rfl,by have:=h.2.2;omega,rfl⟩
def BQp9 (args:List AV) (K:AV→Prop):Prop:=∃(t z:TabT) (fr:Int),args= [tabA t, .d (i64 fr)]∧(TabLt t∧z=AEc9 t fr)∧K (tabA z)
theorem BHr9:∀args K,BQp9 args K→∃x,PCall prog 47 args x∧K x:=by
 rintro _ K ⟨t,_,fr,rfl,⟨h,rfl⟩,hk⟩;exact ⟨_,BUh9 t fr h,hk⟩
def AJu9 (t:TabT) (sl:Int):List AskT:=t.ak.filter fun x=> !(x.sl==sl)
theorem CCd9 (t:TabT) (sl:Int) (h:TabLt t):PCall prog 105 [tabA t, .d (i64 sl)] (.d (.sl 3 (rowsA (AJu9 t sl)))):=by
 refine Zbf (n:=100) (u:=false) mixed CIg9 Zah func105 (by rfl) (by rfl) fun Ev bb=> ?_;rw [BCt9];exact ⟨t.ak,_,sl,rfl,⟨h.2.2,rfl⟩,rfl⟩
def BXd9 (args:List AV) (K:AV→Prop):Prop:=∃(t:TabT) (z:List AskT) (sl:Int),args= [tabA t, .d (i64 sl)]∧(TabLt t∧z=AJu9 t sl)∧K (.d (.sl 3 (rowsA z)))
theorem AWz9:∀args K,BXd9 args K→∃x,PCall prog 105 args x∧K x:=by
 rintro _ K ⟨t,_,sl,rfl,⟨h,rfl⟩,hk⟩;exact ⟨_,CCd9 t sl h,hk⟩
def nilSl:AV:= .d (.s (.slice none 0 0))
theorem BVw9 (n:Int):wpFnS prog ⟨[],GCG,wl,y,false⟩ 100 f146 [nilSl, .d (i64 n)] b Kr=(BIf (decide (n<(0:Int))) False (BIf (decide (Zad .i64 (n - 0)>(0:Int))) (BIf (true&&decide ((0:Int)<Zad .i64 (n - 0))&&decide (Zad .i64 (n - 0)*(40:Int)≤(281474976710656:Int))&&decide (Zad .i64 (n - 0)≤(9223372036854775807:Int))&&true&&true&&true&&true) (0=0∧Kr (Zbl 0 1 0 5) [Blk.mk [] false true 1] b) False) (Kr (Zae (Zdy (.slice none 0 0))) [] b))):=by kernel_rfl
theorem BVv9 (n:Int):wpFnS prog ⟨[],GCU,wl,y,false⟩ 100 f149 [nilSl, .d (i64 n)] b Kr=(BIf (decide (n<(0:Int))) False (BIf (decide (Zad .i64 (n - 0)>(0:Int))) (BIf (true&&decide ((0:Int)<Zad .i64 (n - 0))&&decide (Zad .i64 (n - 0)*(32:Int)≤(281474976710656:Int))&&decide (Zad .i64 (n - 0)≤(9223372036854775807:Int))&&true&&true&&true&&true) (0=0∧Kr (Zbl 0 1 0 4) [Blk.mk [] false true 1] b) False) (Kr (Zae (Zdy (.slice none 0 0))) [] b))):=by kernel_rfl
theorem CDv9 (n:Int) (h0:0<n) (hn:n≤1000000):FCall prog 146 [nilSl, .d (i64 n)] (.gref 0 1 0 5) [growB 1 []]:=by
 refine FCall.ofFnW (n:=100) (u:=false) (fun _=>fun _ _ _ _ _=>False) mixed Zak BBe9 (fun Ev _ _ _ _ _ h=>h.elim) func146 (by rfl) (by rfl) (by rfl) fun Ev bb=> ?_;rw [BVw9];have e:Zad Zbc (n - 0)=n:=by rw [AAx9 (by omega) (by omega)];omega
 rw [e];refine Zda (by simp<;>omega) (Zaz (by simp<;>omega) (Zaz ?_ ⟨rfl,rfl,rfl⟩));simp only [Bool.and_true,Zey,Zai,decide_eq_true_eq];omega
theorem CDu9 (n:Int) (h0:0<n) (hn:n≤1000000):FCall prog 149 [nilSl, .d (i64 n)] (.gref 0 1 0 4) [growB 1 []]:=by
 refine FCall.ofFnW (n:=100) (u:=false) (fun _=>fun _ _ _ _ _=>False) mixed Zak BYx9 (fun Ev _ _ _ _ _ h=>h.elim) func149 (by rfl) (by rfl) (by rfl) fun Ev bb=> ?_;rw [BVv9];have e:Zad Zbc (n - 0)=n:=by rw [AAx9 (by omega) (by omega)];omega
 rw [e];refine Zda (by simp<;>omega) (Zaz (by simp<;>omega) (Zaz ?_ ⟨rfl,rfl,rfl⟩));simp only [Bool.and_true,Zey,Zai,decide_eq_true_eq];omega
def CBd9 (args:List AV) (hp:List Blk) (K:AV→List Blk→Prop):Prop:=∃(n:Int),args= [nilSl, .d (i64 n)]∧(0<n∧n≤1000000)∧K (.gref hp.length 1 0 5) (hp++ [growB 1 []])
theorem BKt9:∀args hp K,CBd9 args hp K→∃x hp',SCall prog 146 args hp x hp'∧K x hp':=by
 rintro _ hp K ⟨n,rfl,⟨h0,hn⟩,h⟩;exact ⟨_,_,(CDv9 n h0 hn).toS rfl hp,by simpa [shift,AJv9,AGb9,AQu9,growB] using h⟩
def CBc9 (args:List AV) (hp:List Blk) (K:AV→List Blk→Prop):Prop:=∃(n:Int),args= [nilSl, .d (i64 n)]∧(0<n∧n≤1000000)∧K (.gref hp.length 1 0 4) (hp++ [growB 1 []])
theorem BKs9:∀args hp K,CBc9 args hp K→∃x hp',SCall prog 149 args hp x hp'∧K x hp':=by
 rintro _ hp K ⟨n,rfl,⟨h0,hn⟩,h⟩;exact ⟨_,_,(CDu9 n h0 hn).toS rfl hp,by simpa [shift,AJv9,AGb9,AQu9,growB] using h⟩
def UCoG:List (Nat×(List AV→List Blk→(AV→List Blk→Prop)→Prop)):= [(146,CBd9),(1000059,fun _ _ _=>False)]
theorem CFm9:AAl9 prog UCoG:=Zbr BKt9 BBe9
def UCoU:List (Nat×(List AV→List Blk→(AV→List Blk→Prop)→Prop)):= [(149,CBc9),(1000061,fun _ _ _=>False)]
theorem CFl9:AAl9 prog UCoU:=Zbr BKs9 BYx9
theorem BWu9 (x z m:List (List Dv)):wpFn prog ⟨[],UCoG,wl,y,true⟩ 1000 f136 [.full 1 [[.sl 5 x], [.sl 5 z], [.sl 5 m]]] b R=(∃(xs0:List (List Dv)),some [Zan 5 x]=some [Zan 5 xs0]∧BIf (decide (Zad .i64 ((0:Int)+((Zaa xs0:Nat):Int))<(0:Int))) False (∃(xs1:List (List Dv)),some [Zan 5 z]=some [Zan 5 xs1]∧BIf (decide (Zad .i64 (Zad .i64 ((0:Int)+((Zaa xs0:Nat):Int))+((Zaa xs1:Nat):Int))<(0:Int))) False (∃(xs2:List (List Dv)),some [Zan 5 m]=some [Zan 5 xs2]∧BIf (decide (Zad .i64 (Zad .i64 (Zad .i64 ((0:Int)+((Zaa xs0:Nat):Int))+((Zaa xs1:Nat):Int))+((Zaa xs2:Nat):Int))<(0:Int))) False (∃(n3:Int), [Zae (Zdy (.slice none 0 0)),Zae (i64 (Zad .i64 (Zad .i64 (Zad .i64 ((0:Int)+((Zaa xs0:Nat):Int))+((Zaa xs1:Nat):Int))+((Zaa xs2:Nat):Int))))]= [Zae (Zdy (.slice none 0 0)),Zae (i64 n3)]∧((0:Int)<n3∧n3≤(1000000:Int))∧∃(xs4:List (List Dv)),some [Zan 5 x]=some [Zan 5 xs4]∧1=1∧BIf (decide ((0+Zaa xs4)*40≤140737488355328)) (∃(xs5:List (List Dv)),some [Zan 5 z]=some [Zan 5 xs5]∧2=2∧BIf (decide ((0+Zaa xs4+Zaa xs5)*40≤140737488355328)) (∃(xs6:List (List Dv)),some [Zan 5 m]=some [Zan 5 xs6]∧3=3∧BIf (decide ((0+Zaa xs4+Zaa xs5+Zaa xs6)*40≤140737488355328)) (4=4∧∃(xs7:List (List Dv)), []++flatA xs4++flatA xs5++flatA xs6=flatA xs7∧Zaa xs7=0+Zaa xs4+Zaa xs5+Zaa xs6∧(∀(r:List Dv),r∈xs7→Zaa r=5)∧R (.d (Zan 5 xs7)) b) False) False) False)))):=by kernel_rfl
theorem BWt9 (x z m:List (List Dv)):wpFn prog ⟨[],UCoU,wl,y,true⟩ 1000 f140 [.full 1 [[.sl 4 x], [.sl 4 z], [.sl 4 m]]] b R=(∃(xs0:List (List Dv)),some [Zan 4 x]=some [Zan 4 xs0]∧BIf (decide (Zad .i64 ((0:Int)+((Zaa xs0:Nat):Int))<(0:Int))) False (∃(xs1:List (List Dv)),some [Zan 4 z]=some [Zan 4 xs1]∧BIf (decide (Zad .i64 (Zad .i64 ((0:Int)+((Zaa xs0:Nat):Int))+((Zaa xs1:Nat):Int))<(0:Int))) False (∃(xs2:List (List Dv)),some [Zan 4 m]=some [Zan 4 xs2]∧BIf (decide (Zad .i64 (Zad .i64 (Zad .i64 ((0:Int)+((Zaa xs0:Nat):Int))+((Zaa xs1:Nat):Int))+((Zaa xs2:Nat):Int))<(0:Int))) False (∃(n3:Int), [Zae (Zdy (.slice none 0 0)),Zae (i64 (Zad .i64 (Zad .i64 (Zad .i64 ((0:Int)+((Zaa xs0:Nat):Int))+((Zaa xs1:Nat):Int))+((Zaa xs2:Nat):Int))))]= [Zae (Zdy (.slice none 0 0)),Zae (i64 n3)]∧((0:Int)<n3∧n3≤(1000000:Int))∧∃(xs4:List (List Dv)),some [Zan 4 x]=some [Zan 4 xs4]∧1=1∧BIf (decide ((0+Zaa xs4)*32≤140737488355328)) (∃(xs5:List (List Dv)),some [Zan 4 z]=some [Zan 4 xs5]∧2=2∧BIf (decide ((0+Zaa xs4+Zaa xs5)*32≤140737488355328)) (∃(xs6:List (List Dv)),some [Zan 4 m]=some [Zan 4 xs6]∧3=3∧BIf (decide ((0+Zaa xs4+Zaa xs5+Zaa xs6)*32≤140737488355328)) (4=4∧∃(xs7:List (List Dv)), []++flatA xs4++flatA xs5++flatA xs6=flatA xs7∧Zaa xs7=0+Zaa xs4+Zaa xs5+Zaa xs6∧(∀(r:List Dv),r∈xs7→Zaa r=4)∧R (.d (Zan 4 xs7)) b) False) False) False)))):=by kernel_rfl
theorem CCs9 (x z m:List GraT) (h0:0<x.length+z.length+m.length) (hl:x.length+z.length+m.length≤1000000):
 PCall prog 136 [.full 1 [[.sl 5 (rowsG x)], [.sl 5 (rowsG z)], [.sl 5 (rowsG m)]]] (.d (.sl 5 (rowsG (x++z++m)))):=by
 refine Zbf (n:=1000) (u:=true) mixed Zak CFm9 func136 (by rfl) (by rfl) fun Ev bb=> ?_;rw [BWu9];have e1:Zad Zbc ((0:Int)+(((rowsG x).length:Nat):Int))=((x.length:Nat):Int):=by rw [AAf9,AAx9 (by omega) (by omega)];omega
 have e2:Zad Zbc (((x.length:Nat):Int)+(((rowsG z).length:Nat):Int))=((x.length+z.length:Nat):Int):=by rw [AAf9,AAx9 (by omega) (by omega)];omega
 have e3:Zad Zbc (((x.length+z.length:Nat):Int)+(((rowsG m).length:Nat):Int))=((x.length+z.length+m.length:Nat):Int):=by rw [AAf9,AAx9 (by omega) (by omega)];omega
 refine ⟨rowsG x,rfl, ?_⟩;rw [e1];refine Zda (by simp) ⟨rowsG z,rfl, ?_⟩;rw [e2];refine Zda (by simp;omega) ⟨rowsG m,rfl, ?_⟩;rw [e3];refine Zda (by simp;omega) ⟨_,rfl,⟨by omega,by omega⟩,rowsG x,rfl,rfl,Zaz (by rw [AAf9];simp;omega) ⟨rowsG z,rfl,rfl,Zaz (by rw [AAf9,AAf9];simp;omega) ⟨rowsG m,rfl,rfl,Zaz (by rw [AAf9,AAf9,AAf9];simp;omega) ⟨rfl,rowsG (x++z++m), ?_, ?_,AQz9 _,rfl⟩⟩⟩⟩
 ·have f:∀l:List GraT,flatA (rowsG l)=flatA (l.map graR):=fun _=>rfl;rw [f,f,f,f,AUn9,AUn9,List.nil_append]
 ·rw [AAf9,AAf9,AAf9,AAf9,Zcm,Zcm];omega
def CEx9 (args:List AV) (K:AV→Prop):Prop:=∃(x m q:List GraT) (g:GraT),args= [.full 1 [[.sl 5 (rowsG x)], [.sl 5 [graR g]], [.sl 5 (rowsG m)]]]∧(x.length+m.length<1000000∧q=x++ [g]++m)∧K (.d (.sl 5 (rowsG q)))
theorem BOd9:∀args K,CEx9 args K→∃x,PCall prog 136 args x∧K x:=by
 rintro _ K ⟨x,m,_,g,rfl,⟨hl,rfl⟩,hk⟩;exact ⟨_,CCs9 x [g] m (by simp;omega) (by simp;omega),hk⟩
def TInG:List (Nat×(List AV→(AV→Prop)→Prop)):= [(136,CEx9),(54,BHj9)]
theorem CFs9:AAc9 prog TInG:=Zaj BOd9 (Zaj BAl9 Zak)
theorem CDk9 (l:List GraT) (g:GraT):wpFn prog ⟨TInG, [],wl,y,false⟩ 100 f104 [.d (.sl 5 (rowsG l)),graA g, .fn (.func 95) [] []] b R=(∃(l0:List GraT) (g1:GraT) (q2:Int), [Zae (Zan 5 (rowsG l)),Zax (Fn.func 135) [] [Zag [Zcq (Fn.func 95) []],Zag (Qz17 g)]]= [Zae (Zan 5 (rowsG l0)),Zax (Fn.func 135) [] [Zag [Zcq (Fn.func 95) []],Zag (Qz17 g1)]]∧(Zaa l0≤9223372036854775807∧q2=idxS (fun (x3:GraT)=>decide (Zdg x3>Zdg g1)) l0)∧BIf (decide (q2<(0:Int))) (BIf (true&&decide ((0:Int)≤(0:Int)∧(0:Int)≤((Zaa (rowsG l):Nat):Int)∧((Zaa (rowsG l):Nat):Int)≤((Zaa (rowsG l):Nat):Int)∧((Zaa (rowsG l):Nat):Int)≤((Zaa (rowsG l):Nat):Int))) (BIf (true&&decide ((0:Int)≤((Zaa (rowsG l):Nat):Int)∧((Zaa (rowsG l):Nat):Int)≤((Zaa (rowsG l):Nat):Int)∧((Zaa (rowsG l):Nat):Int)≤((Zaa (rowsG l):Nat):Int)∧((Zaa (rowsG l):Nat):Int)≤((Zaa (rowsG l):Nat):Int))) (∃(x4:List GraT) (m5:List GraT) (q6:List GraT) (g7:GraT), [Zgb 1 [[Zan 5 (Zbo (Zam ((Zaa (rowsG l):Nat):Int) - Zam (0:Int)) (Zca (Zam (0:Int)) (rowsG l)))], [Zan 5 [Qz17 g]], [Zan 5 (Zbo (Zam ((Zaa (rowsG l):Nat):Int) - Zam ((Zaa (rowsG l):Nat):Int)) (Zca (Zam ((Zaa (rowsG l):Nat):Int)) (rowsG l)))]]]= [Zgb 1 [[Zan 5 (rowsG x4)], [Zan 5 [Qz17 g7]], [Zan 5 (rowsG m5)]]]∧(Zaa x4+Zaa m5<1000000∧q6=x4++ [g7]++m5)∧R (.d (Zan 5 (rowsG q6))) b) False) False) (BIf (true&&decide ((0:Int)≤(0:Int)∧(0:Int)≤q2∧q2≤((Zaa (rowsG l):Nat):Int)∧((Zaa (rowsG l):Nat):Int)≤((Zaa (rowsG l):Nat):Int))) (BIf (true&&decide ((0:Int)≤q2∧q2≤((Zaa (rowsG l):Nat):Int)∧((Zaa (rowsG l):Nat):Int)≤((Zaa (rowsG l):Nat):Int)∧((Zaa (rowsG l):Nat):Int)≤((Zaa (rowsG l):Nat):Int))) (∃(x8:List GraT) (m9:List GraT) (q10:List GraT) (g11:GraT), [Zgb 1 [[Zan 5 (Zbo (Zam q2 - Zam (0:Int)) (Zca (Zam (0:Int)) (rowsG l)))], [Zan 5 [Qz17 g]], [Zan 5 (Zbo (Zam ((Zaa (rowsG l):Nat):Int) - Zam q2) (Zca (Zam q2) (rowsG l)))]]]= [Zgb 1 [[Zan 5 (rowsG x8)], [Zan 5 [Qz17 g11]], [Zan 5 (rowsG m9)]]]∧(Zaa x8+Zaa m9<1000000∧q10=x8++ [g11]++m9)∧R (.d (Zan 5 (rowsG q10))) b) False) False)):=by kernel_rfl
theorem CCr9 (x z m:List UseT) (h0:0<x.length+z.length+m.length) (hl:x.length+z.length+m.length≤1000000):
 PCall prog 140 [.full 1 [[.sl 4 (rowsU x)], [.sl 4 (rowsU z)], [.sl 4 (rowsU m)]]] (.d (.sl 4 (rowsU (x++z++m)))):=by
 refine Zbf (n:=1000) (u:=true) mixed Zak CFl9 func140 (by rfl) (by rfl) fun Ev bb=> ?_;rw [BWt9];have e1:Zad Zbc ((0:Int)+(((rowsU x).length:Nat):Int))=((x.length:Nat):Int):=by rw [AAh9,AAx9 (by omega) (by omega)];omega
 have e2:Zad Zbc (((x.length:Nat):Int)+(((rowsU z).length:Nat):Int))=((x.length+z.length:Nat):Int):=by rw [AAh9,AAx9 (by omega) (by omega)];omega
 have e3:Zad Zbc (((x.length+z.length:Nat):Int)+(((rowsU m).length:Nat):Int))=((x.length+z.length+m.length:Nat):Int):=by rw [AAh9,AAx9 (by omega) (by omega)];omega
 refine ⟨rowsU x,rfl, ?_⟩;rw [e1];refine Zda (by simp) ⟨rowsU z,rfl, ?_⟩;rw [e2];refine Zda (by simp;omega) ⟨rowsU m,rfl, ?_⟩;rw [e3];refine Zda (by simp;omega) ⟨_,rfl,⟨by omega,by omega⟩,rowsU x,rfl,rfl,Zaz (by rw [AAh9];simp;omega) ⟨rowsU z,rfl,rfl,Zaz (by rw [AAh9,AAh9];simp;omega) ⟨rowsU m,rfl,rfl,Zaz (by rw [AAh9,AAh9,AAh9];simp;omega) ⟨rfl,rowsU (x++z++m), ?_, ?_,BPf9 _,rfl⟩⟩⟩⟩
 ·have f:∀l:List UseT,flatA (rowsU l)=flatA (l.map useR):=fun _=>rfl;rw [f,f,f,f,AUn9,AUn9,List.nil_append]
 ·rw [AAh9,AAh9,AAh9,AAh9,Zcm,Zcm];omega
def CEw9 (args:List AV) (K:AV→Prop):Prop:=∃(x m q:List UseT) (g:UseT),args= [.full 1 [[.sl 4 (rowsU x)], [.sl 4 [useR g]], [.sl 4 (rowsU m)]]]∧(x.length+m.length<1000000∧q=x++ [g]++m)∧K (.d (.sl 4 (rowsU q)))
theorem BOc9:∀args K,CEw9 args K→∃x,PCall prog 140 args x∧K x:=by
 rintro _ K ⟨x,m,_,g,rfl,⟨hl,rfl⟩,hk⟩;exact ⟨_,CCr9 x [g] m (by simp;omega) (by simp;omega),hk⟩
def TInU:List (Nat×(List AV→(AV→Prop)→Prop)):= [(140,CEw9),(133,BHi9)]
theorem CFr9:AAc9 prog TInU:=Zaj BOc9 (Zaj BAk9 Zak)
theorem CDj9 (l:List UseT) (g:UseT):wpFn prog ⟨TInU, [],wl,y,false⟩ 100 f107 [.d (.sl 4 (rowsU l)),useA g, .fn (.func 108) [] []] b R=(∃(l0:List UseT) (g1:UseT) (q2:Int), [Zae (Zan 4 (rowsU l)),Zax (Fn.func 139) [] [Zag [Zcq (Fn.func 108) []],Zag (Qz14 g)]]= [Zae (Zan 4 (rowsU l0)),Zax (Fn.func 139) [] [Zag [Zcq (Fn.func 108) []],Zag (Qz14 g1)]]∧(Zaa l0≤9223372036854775807∧q2=idxS (fun (x3:UseT)=>decide (Zcy x3>Zcy g1)) l0)∧BIf (decide (q2<(0:Int))) (BIf (true&&decide ((0:Int)≤(0:Int)∧(0:Int)≤((Zaa (rowsU l):Nat):Int)∧((Zaa (rowsU l):Nat):Int)≤((Zaa (rowsU l):Nat):Int)∧((Zaa (rowsU l):Nat):Int)≤((Zaa (rowsU l):Nat):Int))) (BIf (true&&decide ((0:Int)≤((Zaa (rowsU l):Nat):Int)∧((Zaa (rowsU l):Nat):Int)≤((Zaa (rowsU l):Nat):Int)∧((Zaa (rowsU l):Nat):Int)≤((Zaa (rowsU l):Nat):Int)∧((Zaa (rowsU l):Nat):Int)≤((Zaa (rowsU l):Nat):Int))) (∃(x4:List UseT) (m5:List UseT) (q6:List UseT) (g7:UseT), [Zgb 1 [[Zan 4 (Zbo (Zam ((Zaa (rowsU l):Nat):Int) - Zam (0:Int)) (Zca (Zam (0:Int)) (rowsU l)))], [Zan 4 [Qz14 g]], [Zan 4 (Zbo (Zam ((Zaa (rowsU l):Nat):Int) - Zam ((Zaa (rowsU l):Nat):Int)) (Zca (Zam ((Zaa (rowsU l):Nat):Int)) (rowsU l)))]]]= [Zgb 1 [[Zan 4 (rowsU x4)], [Zan 4 [Qz14 g7]], [Zan 4 (rowsU m5)]]]∧(Zaa x4+Zaa m5<1000000∧q6=x4++ [g7]++m5)∧R (.d (Zan 4 (rowsU q6))) b) False) False) (BIf (true&&decide ((0:Int)≤(0:Int)∧(0:Int)≤q2∧q2≤((Zaa (rowsU l):Nat):Int)∧((Zaa (rowsU l):Nat):Int)≤((Zaa (rowsU l):Nat):Int))) (BIf (true&&decide ((0:Int)≤q2∧q2≤((Zaa (rowsU l):Nat):Int)∧((Zaa (rowsU l):Nat):Int)≤((Zaa (rowsU l):Nat):Int)∧((Zaa (rowsU l):Nat):Int)≤((Zaa (rowsU l):Nat):Int))) (∃(x8:List UseT) (m9:List UseT) (q10:List UseT) (g11:UseT), [Zgb 1 [[Zan 4 (Zbo (Zam q2 - Zam (0:Int)) (Zca (Zam (0:Int)) (rowsU l)))], [Zan 4 [Qz14 g]], [Zan 4 (Zbo (Zam ((Zaa (rowsU l):Nat):Int) - Zam q2) (Zca (Zam q2) (rowsU l)))]]]= [Zgb 1 [[Zan 4 (rowsU x8)], [Zan 4 [Qz14 g11]], [Zan 4 (rowsU m9)]]]∧(Zaa x8+Zaa m9<1000000∧q10=x8++ [g11]++m9)∧R (.d (Zan 4 (rowsU q10))) b) False) False)):=by kernel_rfl
def insP {α:Type} (p:α→Bool) (g:α):List α→List α
 | []=> [g]
 |x::r=>if p x=true then g::x::r else x::insP p g r
theorem APe9 {α:Type} {p:α→Bool} {g:α}:∀ {l:List α},l.findIdx? p=none→insP p g l=l++ [g]
 | [],_=>rfl
 | x::r,h=>by
  rw [Zez] at h;cases hp:p x with
  |true=>rw [hp] at h;simp at h
  | false=>
   rw [hp] at h;simp only [Zee,if_false,Option.map_eq_none_iff] at h;rw [insP,hp,if_neg (by decide),APe9 h];rfl
theorem APd9 {α:Type} {p:α→Bool} {g:α}:∀ {l:List α} {j:Nat},l.findIdx? p=some j→insP p g l=l.take j++ [g]++l.drop j
 | [],j,h=>by simp at h
 | x::r,j,h=>by
  rw [Zez] at h;cases hp:p x with
  |true=>rw [hp] at h;simp at h;subst h;rw [insP,hp,if_pos rfl];rfl
  | false=>
   rw [hp] at h;simp only [Zee,if_false,Zao] at h;obtain ⟨j',h1,rfl⟩:=h;rw [insP,hp,if_neg (by decide),APd9 h1];rfl
theorem AWa9 {α:Type} (row:α→List Dv) (l:List α) (i:Nat):((l.map row).take i)=(l.take i).map row:=by simp
theorem AWb9 {α:Type} (row:α→List Dv) (l:List α) (i:Nat):((l.map row).drop i)=(l.drop i).map row:=by simp
def insSG (g:GraT) (l:List GraT):List GraT:=insP (fun x:GraT=>decide (x.sl>g.sl)) g l
theorem CHf9 (l:List GraT) (g:GraT) (hl:l.length<1000000):PCall prog 104 [.d (.sl 5 (rowsG l)),graA g, .fn (.func 95) [] []] (.d (.sl 5 (rowsG (insSG g l)))):=by
 refine Zbf (n:=100) (u:=false) mixed CFs9 Zah func104 (by rfl) (by rfl) fun Ev bb=> ?_;rw [CDk9,AAf9];refine ⟨l,g,_,rfl,⟨by omega,rfl⟩, ?_⟩;cases hf:l.findIdx? (fun x:GraT=>decide (x.sl>g.sl)) with
 | none=>
  rw [ABb9 hf];refine Zaz (by decide) (Zaz (by simp) (Zaz (by simp) ⟨l, [],_,g, ?_,⟨by simpa using hl,rfl⟩, ?_⟩))
  ·simp only [rowsG,Zcf,Zfk,Zfn,Nat.sub_zero,Nat.sub_self,List.take_zero,List.map_nil];rw [show (l.map graR).take l.length=l.map graR by rw [List.take_of_length_le (by simp)]]
  ·rw [insSG,APe9 hf,Zdu]
 | some j=>
  have hj:=(AFr9 hf).1;rw [AAj9 hf];refine Zda (by simp) (Zaz (by simp;omega) (Zaz (by simp;omega) ⟨l.take j,l.drop j,_,g, ?_,⟨by rw [Zcd,List.length_drop];omega,rfl⟩, ?_⟩))
  ·simp only [rowsG,Zcf,Zfk,Zfn,Nat.sub_zero];rw [show ((l.map graR).drop j).take (l.length - j)=(l.drop j).map graR by rw [AWb9,List.take_of_length_le (by simp)],AWa9]
  ·rw [insSG,APd9 hf]
def cInsG (args:List AV) (K:AV→Prop):Prop:=∃(l z:List GraT) (g:GraT),args= [.d (.sl 5 (rowsG l)),graA g, .fn (.func 95) [] []]∧(l.length<1000000∧z=insSG g l)∧K (.d (.sl 5 (rowsG z)))
theorem BXp9:∀args K,cInsG args K→∃x,PCall prog 104 args x∧K x:=by
 rintro _ K ⟨l,_,g,rfl,⟨hl,rfl⟩,hk⟩;exact ⟨_,CHf9 l g hl,hk⟩
def insSU (g:UseT) (l:List UseT):List UseT:=insP (fun x:UseT=>decide (x.sl>g.sl)) g l
theorem CHe9 (l:List UseT) (g:UseT) (hl:l.length<1000000):PCall prog 107 [.d (.sl 4 (rowsU l)),useA g, .fn (.func 108) [] []] (.d (.sl 4 (rowsU (insSU g l)))):=by
 refine Zbf (n:=100) (u:=false) mixed CFr9 Zah func107 (by rfl) (by rfl) fun Ev bb=> ?_;rw [CDj9,AAh9];refine ⟨l,g,_,rfl,⟨by omega,rfl⟩, ?_⟩;cases hf:l.findIdx? (fun x:UseT=>decide (x.sl>g.sl)) with
 | none=>
  rw [ABb9 hf];refine Zaz (by decide) (Zaz (by simp) (Zaz (by simp) ⟨l, [],_,g, ?_,⟨by simpa using hl,rfl⟩, ?_⟩))
  ·simp only [rowsU,Zcf,Zfk,Zfn,Nat.sub_zero,Nat.sub_self,List.take_zero,List.map_nil];rw [show (l.map useR).take l.length=l.map useR by rw [List.take_of_length_le (by simp)]]
  ·rw [insSU,APe9 hf,Zdu]
 | some j=>
  have hj:=(AFr9 hf).1;rw [AAj9 hf];refine Zda (by simp) (Zaz (by simp;omega) (Zaz (by simp;omega) ⟨l.take j,l.drop j,_,g, ?_,⟨by rw [Zcd,List.length_drop];omega,rfl⟩, ?_⟩))
  ·simp only [rowsU,Zcf,Zfk,Zfn,Nat.sub_zero];rw [show ((l.map useR).drop j).take (l.length - j)=(l.drop j).map useR by rw [AWb9,List.take_of_length_le (by simp)],AWa9]
  ·rw [insSU,APd9 hf]
def cInsU (args:List AV) (K:AV→Prop):Prop:=∃(l z:List UseT) (g:UseT),args= [.d (.sl 4 (rowsU l)),useA g, .fn (.func 108) [] []]∧(l.length<1000000∧z=insSU g l)∧K (.d (.sl 4 (rowsU z)))
theorem BXo9:∀args K,cInsU args K→∃x,PCall prog 107 args x∧K x:=by
 rintro _ K ⟨l,_,g,rfl,⟨hl,rfl⟩,hk⟩;exact ⟨_,CHe9 l g hl,hk⟩
def useI (u:UseT):AV:= .d (.s (.iface 149 (.agg #[.int .i64 u.sl, .int .i64 u.of, .int .i64 u.pe, .int .i64 u.st])))
def graI (g:GraT):AV:= .d (.s (.iface 140 (.agg #[.int .i64 g.sl, .int .i64 g.of, .int .i64 g.pe, .int .i64 g.st, .int .i64 g.un])))
def TRfd:List (Nat×(List AV→(AV→Prop)→Prop)):= [(4000001,cNone),(73,BNn9),(84,BXt9),(170,BOf9),(167,BOg9)]
theorem AYb9:AAc9 prog TRfd:=Zaj (ABy9 _) (Zaj APt9 (Zaj AXu9 (Zaj APv9 (Zaj APw9 Zak))))
def wlRfd {β:Type} (y:ACw9 β):WLT β:=wlI prog TRfd IVa y (fun _ _ _ _ _=>False)
theorem CBh9 (t:TabT) (ly:LayT) (u:UseT):wpFn prog ⟨TRfd, [],wlRfd y,y,false⟩ 100 f103 [tabA t,layA ly,useI u] b R=(∃(t0:TabT) (l1:LayT) (q2:Bool), [Zaq (Qz1 t),Zaq (Qz3 ly)]= [Zaq (Qz1 t0),Zaq (Qz3 l1)]∧(TabOk t0∧q2=ACq9 t0 l1)∧BIf (!q2) (R (.d (i64 1)) b) (true=true∧∃(u3:UseT) (l4:LayT) (z5:Bool), [Zaq (Qz7 u),Zaq (Qz3 ly)]= [Zaq (Qz7 u3),Zaq (Qz3 l4)]∧z5=useOk u3 l4∧BIf (!z5) (R (.d (i64 1)) b) (∃(u6:UseT), [Zaq (Qz7 u)]= [Zaq (Qz7 u6)]∧∃(t7:TabT) (s8:Int) (q9:Bool), [Zaq (Qz1 t),Zae (i64 (Zcy u6))]= [Zaq (Qz1 t7),Zae (i64 s8)]∧(TabOk t7∧q9=busyT t7 s8)∧BIf q9 (R (.d (i64 5)) b) (BIf (decide (Zad .i64 (((Zaa (rowsU (Zdl t)):Nat):Int)+((Zaa (rowsG (Zdb t)):Nat):Int))≥(24:Int))) (R (.d (i64 10)) b) (R (.d (i64 0)) b))))):=by kernel_rfl
theorem CBi9 (t:TabT) (ly:LayT) (u:GraT):wpFn prog ⟨TRfd, [],wlRfd y,y,false⟩ 100 f103 [tabA t,layA ly,graI u] b R=(∃(t0:TabT) (l1:LayT) (q2:Bool), [Zaq (Qz1 t),Zaq (Qz3 ly)]= [Zaq (Qz1 t0),Zaq (Qz3 l1)]∧(TabOk t0∧q2=ACq9 t0 l1)∧BIf (!q2) (R (.d (i64 1)) b) (true=true∧∃(u3:GraT) (l4:LayT) (z5:Bool), [Zaq (Qz5 u),Zaq (Qz3 ly)]= [Zaq (Qz5 u3),Zaq (Qz3 l4)]∧z5=graOk u3 l4∧BIf (!z5) (R (.d (i64 1)) b) (∃(u6:GraT), [Zaq (Qz5 u)]= [Zaq (Qz5 u6)]∧∃(t7:TabT) (s8:Int) (q9:Bool), [Zaq (Qz1 t),Zae (i64 (Zdg u6))]= [Zaq (Qz1 t7),Zae (i64 s8)]∧(TabOk t7∧q9=busyT t7 s8)∧BIf q9 (R (.d (i64 5)) b) (BIf (decide (Zad .i64 (((Zaa (rowsU (Zdl t)):Nat):Int)+((Zaa (rowsG (Zdb t)):Nat):Int))≥(24:Int))) (R (.d (i64 10)) b) (R (.d (i64 0)) b))))):=by kernel_rfl
def refS (t:TabT) (ly:LayT) (sl:Int) (ok:Bool):Int:=if ACq9 t ly&&ok then (if busyT t sl then 5 else if (t.us.length:Int)+(t.gs.length:Int)≥24 then 10 else 0) else 1
theorem CGx9 (t:TabT) (ly:LayT) (u:UseT) (ht:TabOk t):PCall prog 103 [tabA t,layA ly,useI u] (.d (i64 (refS t ly u.sl (useOk u ly)))):=by
 refine PCall.ofFnE (n:=100) (u:=false) (fun Ev=>wlRfd Ev.Y) mixed AYb9 Zah (fun Ev=>CAc9 mixed AYb9 ASz9 fun _ _ _ _ _ h=>h.elim) func103 (by rfl) (by rfl) fun Ev bb=> ?_;rw [CBh9,AAh9,AAf9];have hw:Zad Zbc ((t.us.length:Int)+(t.gs.length:Int))=(t.us.length:Int)+(t.gs.length:Int):=AAx9 (by have:=ht.1;have:=ht.2.1;omega) (by have:=ht.1;have:=ht.2.1;omega);rw [hw];refine ⟨t,ly,_,rfl,⟨ht,rfl⟩,Zba (fun h1=> ?_) fun h1=>⟨rfl,u,ly,_,rfl,rfl,Zba (fun h2=> ?_) fun h2=>⟨u,rfl,t,u.sl,_,rfl,⟨ht,rfl⟩,Zba (fun h3=> ?_) fun h3=>Zba (fun h4=> ?_) fun h4=> ?_⟩⟩⟩
 ·rw [Zcb] at h1;rw [refS,h1];rfl
 ·rw [Zcb] at h2;rw [refS,h2,Zcs];rfl
 all_goals (rw [Zej] at h1 h2;rw [refS,h1,h2,h3])
 ·rfl
 ·rw [if_pos (by rfl),if_neg (by decide),if_pos (of_decide_eq_true h4)]
 ·rw [if_pos (by rfl),if_neg (by decide),if_neg (of_decide_eq_false h4)]
def cRefU (args:List AV) (K:AV→Prop):Prop:=∃(t:TabT) (ly:LayT) (u:UseT) (q:Int),args= [tabA t,layA ly,useI u]∧(TabOk t∧q=refS t ly u.sl (useOk u ly))∧K (.d (i64 q))
theorem BXj9:∀args K,cRefU args K→∃x,PCall prog 103 args x∧K x:=by
 rintro _ K ⟨t,ly,u,_,rfl,⟨h,rfl⟩,hk⟩;exact ⟨_,CGx9 t ly u h,hk⟩
theorem CGy9 (t:TabT) (ly:LayT) (u:GraT) (ht:TabOk t):PCall prog 103 [tabA t,layA ly,graI u] (.d (i64 (refS t ly u.sl (graOk u ly)))):=by
 refine PCall.ofFnE (n:=100) (u:=false) (fun Ev=>wlRfd Ev.Y) mixed AYb9 Zah (fun Ev=>CAc9 mixed AYb9 ASz9 fun _ _ _ _ _ h=>h.elim) func103 (by rfl) (by rfl) fun Ev bb=> ?_;rw [CBi9,AAh9,AAf9];have hw:Zad Zbc ((t.us.length:Int)+(t.gs.length:Int))=(t.us.length:Int)+(t.gs.length:Int):=AAx9 (by have:=ht.1;have:=ht.2.1;omega) (by have:=ht.1;have:=ht.2.1;omega);rw [hw];refine ⟨t,ly,_,rfl,⟨ht,rfl⟩,Zba (fun h1=> ?_) fun h1=>⟨rfl,u,ly,_,rfl,rfl,Zba (fun h2=> ?_) fun h2=>⟨u,rfl,t,u.sl,_,rfl,⟨ht,rfl⟩,Zba (fun h3=> ?_) fun h3=>Zba (fun h4=> ?_) fun h4=> ?_⟩⟩⟩
 ·rw [Zcb] at h1;rw [refS,h1];rfl
 ·rw [Zcb] at h2;rw [refS,h2,Zcs];rfl
 all_goals (rw [Zej] at h1 h2;rw [refS,h1,h2,h3])
 ·rfl
 ·rw [if_pos (by rfl),if_neg (by decide),if_pos (of_decide_eq_true h4)]
 ·rw [if_pos (by rfl),if_neg (by decide),if_neg (of_decide_eq_false h4)]
def cRefG (args:List AV) (K:AV→Prop):Prop:=∃(t:TabT) (ly:LayT) (u:GraT) (q:Int),args= [tabA t,layA ly,graI u]∧(TabOk t∧q=refS t ly u.sl (graOk u ly))∧K (.d (i64 q))
theorem BXk9:∀args K,cRefG args K→∃x,PCall prog 103 args x∧K x:=by
 rintro _ K ⟨t,ly,u,_,rfl,⟨h,rfl⟩,hk⟩;exact ⟨_,CGy9 t ly u h,hk⟩
def TAu:List (Nat×(List AV→(AV→Prop)→Prop)):= [(103,cRefU),(107,cInsU),(48,BQs9),(105,BXd9)]
theorem CJe9:AAc9 prog TAu:=Zaj BXj9 (Zaj BXo9 (Zaj BHx9 (Zaj AWz9 Zak)))
def TAg:List (Nat×(List AV→(AV→Prop)→Prop)):= [(103,cRefG),(104,cInsG),(93,BHw9),(105,BXd9)]
theorem CJf9:AAc9 prog TAg:=Zaj BXk9 (Zaj BXp9 (Zaj ASs9 (Zaj AWz9 Zak)))
abbrev Qz4:List AV:= [Zae (Zdy (.slice none 0 0)),Zae (Zdy (.slice none 0 0)),Zae (Zdy (.slice none 0 0))]
abbrev Qz52 (v0:TabT) (v1:LayT) (v2:UseT):List AV:= [Zaq (Qz1 v0),Zaq (Qz3 v1),Zae (Zdy (Value.iface 149 (Value.agg (Array.mk [Zex Zbc (Zcy v2),Zex Zbc (Zek v2),Zex Zbc (Zgk v2),Zex Zbc (UseT.st v2)]))))]
theorem CFc9 (t:TabT) (ly:LayT) (u:UseT):wpFn prog ⟨TAu, [],wl,y,false⟩ 100 f56 [tabA t,layA ly,useA u] b R=(∃(t0:TabT) (ly1:LayT) (u2:UseT) (q3:Int),(Qz52 t ly u)=(Qz52 t0 ly1 u2)∧(TabOk t0∧q3=refS t0 ly1 (Zcy u2) (useOk u2 ly1))∧BIf (q3 !=(0:Int)) (R (.tup [Zaq Qz4,Zae (i64 q3)]) b) (∃(l4:List UseT) (z5:List UseT) (g6:UseT), [Zae (Zan 4 (rowsU (Zdl t))),Zaq (Qz7 u),Zax (Fn.func 108) [] []]= [Zae (Zan 4 (rowsU l4)),Zaq (Qz7 g6),Zax (Fn.func 108) [] []]∧(Zaa l4<1000000∧z5=insSU g6 l4)∧∃(l7:List GraT), [Zae (Zan 5 (rowsG (Zdb t)))]= [Zae (Zan 5 (rowsG l7))]∧Zaa l7≤1000000∧∃(t8:TabT) (z9:List AskT) (sl10:Int), [Zaq (Qz1 t),Zae (i64 (Zcy u))]= [Zaq (Qz1 t8),Zae (i64 sl10)]∧(TabLt t8∧z9=AJu9 t8 sl10)∧R (.tup [Zaq (Qz85 z5 l7 z9),Zae (i64 0)]) b)):=by kernel_rfl
abbrev Qz49 (v0:TabT) (v1:LayT) (v2:GraT):List AV:= [Zaq (Qz1 v0),Zaq (Qz3 v1),Zae (Zdy (Value.iface 140 (Value.agg (Array.mk [Zex Zbc (Zdg v2),Zex Zbc (Zfe v2),Zex Zbc (Zgg v2),Zex Zbc (GraT.st v2),Zex Zbc (Zeh v2)]))))]
theorem CFd9 (t:TabT) (ly:LayT) (u:GraT):wpFn prog ⟨TAg, [],wl,y,false⟩ 100 f52 [tabA t,layA ly,graA u] b R=(∃(t0:TabT) (ly1:LayT) (u2:GraT) (q3:Int),(Qz49 t ly u)=(Qz49 t0 ly1 u2)∧(TabOk t0∧q3=refS t0 ly1 (Zdg u2) (graOk u2 ly1))∧BIf (q3 !=(0:Int)) (R (.tup [Zaq Qz4,Zae (i64 q3)]) b) (∃(l4:List UseT), [Zae (Zan 4 (rowsU (Zdl t)))]= [Zae (Zan 4 (rowsU l4))]∧Zaa l4≤1000000∧∃(l5:List GraT) (z6:List GraT) (g7:GraT), [Zae (Zan 5 (rowsG (Zdb t))),Zaq (Qz5 u),Zax (Fn.func 95) [] []]= [Zae (Zan 5 (rowsG l5)),Zaq (Qz5 g7),Zax (Fn.func 95) [] []]∧(Zaa l5<1000000∧z6=insSG g7 l5)∧∃(t8:TabT) (z9:List AskT) (sl10:Int), [Zaq (Qz1 t),Zae (i64 (Zdg u))]= [Zaq (Qz1 t8),Zae (i64 sl10)]∧(TabLt t8∧z9=AJu9 t8 sl10)∧R (.tup [Zaq (Qz85 l4 z6 z9),Zae (i64 0)]) b)):=by kernel_rfl
end Go.Proofs.YthcbbmnjikhihaaGreat.Am