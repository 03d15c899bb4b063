import Derived.Test.YthcbbmnjikhihaaGreatPnJ4
import Derived.Shelf.SlSortCmp.WholeK
import Derived.Test.YthcbbmnjikhihaaGreatProg
import Derived.Shelf.SlSortCmp.NoneTotal
set_option linter.unusedSimpArgs false
set_option linter.unusedVariables false
namespace Go.Proofs.YthcbbmnjikhihaaGreat.Am
open Go Go.RowKit Go.Proofs Tryz
open AV renaming agg → Zaq, bad → Zab, d → Zae, fn → Zax, gref → Zbl, ptr → Zaf, rptr → Zag
open _root_.Array renaming getElem?_eq_getElem → Zgo
open AskT renaming sl → Zcr
open BIf renaming f → Zda, of → Zba, t → Zaz
open Bool renaming and_eq_true → Zai, and_false → Zcs, false_eq_true → Zee, not_eq_false' → Zej, not_eq_true' → Zcb, or_eq_false_iff → Zeo, true_and → Zey
open AAc9 renaming cons → Zaj, nil → Zak
open Go.Code renaming loop → Zat
open Dv renaming fn → Zcq, pt → Zdr, s → Zdy, sl → Zan
open Go.Exit renaming exit → Zbj, normal → Zet
open Int renaming toNat → Zam, toNat_natCast → Zcf
open Go.IntKind renaming i64 → Zbc, wrap → Zad
open LayT renaming da → Zcx
open LeH renaming refl → Zbp
open List renaming all → Zbk, any → Zcv, append_assoc → Zbq, append_nil → Zdu, cons_append → Zgs, drop → Zca, getElem?_append_left → Zar, getElem?_append_right → Zas, getElem?_eq_getElem → Zbb, getElem?_eq_none → Zdi, getElem?_eq_some_iff → Zac, getElem?_map → Zbh, getElem?_zip_eq_some → Zbe, isEmpty → Zfw, length → Zaa, length_append → Zcm, length_filter_le → Zfz, length_nil → Zfg, length_take → Zcd, map_cons → Zdn, mem_append_right → Zdp, mem_cons → Zbw, mem_cons_of_mem → Zbx, mem_cons_self → Zbv, mem_map → Zbg, mem_of_getElem? → Zbn, pairwise_cons → Zds, replicate → Zap, take → Zbo, take_add_one → Zfm, take_length → Zdd
open Nat renaming le_refl → Zaw, lt_of_le_of_lt → Zdz, zero_le → Zge
open NearT renaming ak → Zer, fm → Zdm, gs → Zck, us → Zcp
open Option renaming map_some → Zea
open AAl9 renaming cons → Zbr, nil → Zah
open SideT renaming fr → Zgh, lay → Zcg, me → Zes, ns → Zau
open TabT renaming ak → Zdh, gs → Zdb, us → Zdl
open Go.Value renaming map → Zbm, slice → Zcw
open WR renaming ofMask → Zdj
variable {β:Type} (wl:WLT β) (y:ACw9 β) (b:β) (R:AV→β→Prop) (Kr:AV→List Blk→β→Prop) (K:Exit→List AV→List Blk→β→Prop) (Kh:Exit→List Blk→β→Prop) (Q:β→Prop)
open AV (bad)
set_option linter.unusedVariables false
set_option maxRecDepth 20000
set_option maxHeartbeats 1000000
theorem BCy9 (e:Int):LeV (AV.tup [Zaq [Zae (Zdy (Zcw none 0 0)),Zae (Zdy (Zcw none 0 0)),Zae (Zdy (Zcw none 0 0))],Zae (i64 e)]) (AV.tup [tabA ⟨[], [], []⟩,Zae (i64 e)]):=
 LeV.tups (.cons (LeV.aggs (by repeat' (first|exact .nil|refine .cons .rfl ?_|refine .cons (.nil rfl) ?_))) (.cons .rfl .nil))
def refEU (t:TabT) (ly:LayT) (u:UseT):Int:=refS t ly u.sl (useOk u ly)
def addSU (t:TabT) (ly:LayT) (u:UseT):TabT:=if refEU t ly u=0 then ⟨insSU u t.us,t.gs,AJu9 t u.sl⟩ else ⟨[], [], []⟩
theorem CHk9 (t:TabT) (ly:LayT) (u:UseT) (ht:TabOk t):PCall prog 56 [tabA t,layA ly,useA u] (.tup [tabA (addSU t ly u), .d (i64 (refEU t ly u))]):=by
 refine PCall.ofFnV (n:=100) (u:=false) (fun _=>fun _ _ _ _ _=>False) mixed CJe9 Zah (fun Ev _ _ _ _ _ h=>h.elim) func56 (by rfl) (by rfl) fun Ev bb=> ?_;rw [CFc9];refine ⟨t,ly,u,_,rfl,⟨ht,rfl⟩,Zba (fun h1=> ?_) fun h1=>⟨t.us,_,u,rfl,⟨by have:=ht.1;omega,rfl⟩,t.gs,rfl,by have:=ht.2.1;omega,t,_,u.sl,rfl,⟨⟨by have:=ht.1;omega,by have:=ht.2.1;omega,by have:=ht.2.2;omega⟩,rfl⟩, ?_⟩⟩
 ·have h2:¬refEU t ly u=0:=by rw [refEU];simpa using h1
  rw [addSU,if_neg h2];exact BCy9 _
 ·have h2:refEU t ly u=0:=by rw [refEU];simpa using h1
  rw [addSU,if_pos h2,h2];exact .rfl
def cAddU (args:List AV) (K:AV→Prop):Prop:=∃(t z:TabT) (ly:LayT) (u:UseT) (e:Int),args= [tabA t,layA ly,useA u]∧(TabOk t∧z=addSU t ly u∧e=refEU t ly u)∧K (.tup [tabA z, .d (i64 e)])
theorem BXw9:∀args K,cAddU args K→∃x,PCall prog 56 args x∧K x:=by
 rintro _ K ⟨t,_,ly,u,_,rfl,⟨h,rfl,rfl⟩,hk⟩;exact ⟨_,CHk9 t ly u h,hk⟩
def refEG (t:TabT) (ly:LayT) (u:GraT):Int:=refS t ly u.sl (graOk u ly)
def addSG (t:TabT) (ly:LayT) (u:GraT):TabT:=if refEG t ly u=0 then ⟨t.us,insSG u t.gs,AJu9 t u.sl⟩ else ⟨[], [], []⟩
theorem CHl9 (t:TabT) (ly:LayT) (u:GraT) (ht:TabOk t):PCall prog 52 [tabA t,layA ly,graA u] (.tup [tabA (addSG t ly u), .d (i64 (refEG t ly u))]):=by
 refine PCall.ofFnV (n:=100) (u:=false) (fun _=>fun _ _ _ _ _=>False) mixed CJf9 Zah (fun Ev _ _ _ _ _ h=>h.elim) func52 (by rfl) (by rfl) fun Ev bb=> ?_;rw [CFd9];refine ⟨t,ly,u,_,rfl,⟨ht,rfl⟩,Zba (fun h1=> ?_) fun h1=>⟨t.us,rfl,by have:=ht.1;omega,t.gs,_,u,rfl,⟨by have:=ht.2.1;omega,rfl⟩,t,_,u.sl,rfl,⟨⟨by have:=ht.1;omega,by have:=ht.2.1;omega,by have:=ht.2.2;omega⟩,rfl⟩, ?_⟩⟩
 ·have h2:¬refEG t ly u=0:=by rw [refEG];simpa using h1
  rw [addSG,if_neg h2];exact BCy9 _
 ·have h2:refEG t ly u=0:=by rw [refEG];simpa using h1
  rw [addSG,if_pos h2,h2];exact .rfl
def cAddG (args:List AV) (K:AV→Prop):Prop:=∃(t z:TabT) (ly:LayT) (u:GraT) (e:Int),args= [tabA t,layA ly,graA u]∧(TabOk t∧z=addSG t ly u∧e=refEG t ly u)∧K (.tup [tabA z, .d (i64 e)])
theorem BXx9:∀args K,cAddG args K→∃x,PCall prog 52 args x∧K x:=by
 rintro _ K ⟨t,_,ly,u,_,rfl,⟨h,rfl,rfl⟩,hk⟩;exact ⟨_,CHl9 t ly u h,hk⟩
noncomputable def lpG1:Code:=sub [1,8,1,1,1,1,0,1,2,3] (code f13)
def tmG1 (s:SideT) (me fr:Int) (x:AV) (n i:Int):List AV:= [.bad, .bad, .d (i64 me), .bad, .d (i64 fr), .ptr 0 0, .ptr 1 0, .bad, .bad, .bad, .ptr 2 0, .rptr (sideD s)]++Zap 31 .bad++ [x, .d (i64 n), .d (i64 i)]++Zap 90 .bad
def grtB (us:List UseT) (x:AV) (ak:List AskT):Blk:=⟨[.d (.sl 4 (rowsU us)),x, .d (.sl 3 (rowsA ak))],false,false,0⟩
def resB:Blk:=⟨[.d (.s (.slice none 0 0)), .d (.s (.slice none 0 0)), .d (.s (.slice none 0 0))],false,false,0⟩
def TG1:List (Nat×(List AV→(AV→Prop)→Prop)):= [(37,cFind),(49,APs9),(50,CEl9)]
theorem CFu9:AAc9 prog TG1:=Zaj AVd9 (Zaj AMm9 (Zaj BNs9 Zak))
theorem rG1 (s:SideT) (ly:LayT) (us:List UseT) (ak:List AskT) (me fr:Int) (n:Nat) (i:Int) (cs:List AV):wpc prog ⟨TG1,GCG,wl,y,false⟩ 100 lpG1 (tmG1 s me fr (.gref 3 0 n 5) n i) [layB ly,grtB us (.gref 3 0 n 5) ak,resB,growB 0 cs] b (maskK 4 [2,4,5,6,10,11,43,44,45] K)=(BIf (decide (i<(n:Int))) (0=0∧BIf (decide (0≤i)&&decide (i<(n:Int))) (0=0∧∃(x0:Int) (x1:Int) (x2:Int) (x3:Int) (x4:Int),Zbo 5 (Zca (Zam i*5) cs)=(Qz22 x0 x1 x2 x3 x4)∧∃(s5:SideT) (pe6:Int) (q7:NearT) (e8:Bool), [Zag (Qz2 s),Zae (i64 x2)]= [Zag (Qz2 s5),Zae (i64 pe6)]∧(Zaa (Zau s5)≤9223372036854775807∧q7=nearO (sFind s5 pe6)∧e8=Option.isSome (sFind s5 pe6))∧BIf e8 (∃(s9:SideT) (n10:NearT) (q11:Bool), [Zag (Qz2 s),nearA q7]= [Zag (Qz2 s9),nearA n10]∧q11=ANa9 s9 n10∧BIf q11 (∃(s12:SideT) (n13:NearT) (sl14:Int) (of15:Int) (q16:Bool), [Zag (Qz2 s),nearA q7,Zaq [Zae (i64 x0),Zae (i64 x1)]]= [Zag (Qz2 s12),nearA n13,Zaq [Zae (i64 sl14),Zae (i64 of15)]]∧((Zaa (Zcp n13)≤9223372036854775807∧Zaa (Zer n13)≤9223372036854775807)∧q16=AQl9 s12 n13 sl14 of15)∧BIf q16 (0=0∧BIf (decide (0≤i)&&decide (i<(n:Int))) (0=0∧0=0∧BIf (decide (Zam i*5+4+1≤Zaa cs)) (BIf (Zbk [Blk.mk (Qz3 ly) false false 0,Blk.mk [Zae (Zan 4 (rowsU us)),Zbl 3 0 n 5,Zae (Zan 3 (rowsA ak))] false false 0,Blk.mk Qz4 false false 0,Blk.mk (Zbo (Zam i*5+4) cs++ [Zae (i64 (if Zad .i64 (fr+8)>x4 then Zad .i64 (fr+8) else x4))]++Zca (Zam i*5+4+1) cs) false true 0] fun (blk17:Blk)=>lows 4 blk17.1) (K .normal (Zab::Zab::Zae (i64 me)::Zab::Zae (i64 fr)::Zaf 0 0::Zaf 1 0::bds 3 (Zaf 2 0::Zag (Qz2 s)::bds 31 (Zbl 3 0 n 5::Zae (i64 (n:Int))::Zae (i64 (Zad .i64 (i+1)))::bds 90 []))) [Blk.mk (Qz3 ly) false false 0,Blk.mk [Zae (Zan 4 (rowsU us)),Zbl 3 0 n 5,Zae (Zan 3 (rowsA ak))] false false 0,Blk.mk Qz4 false false 0,Blk.mk (Zbo (Zam i*5+4) cs++ [Zae (i64 (if Zad .i64 (fr+8)>x4 then Zad .i64 (fr+8) else x4))]++Zca (Zam i*5+4+1) cs) false true 0] b) False) False) False) (BIf (Zbk [Blk.mk (Qz3 ly) false false 0,Blk.mk [Zae (Zan 4 (rowsU us)),Zbl 3 0 n 5,Zae (Zan 3 (rowsA ak))] false false 0,Blk.mk Qz4 false false 0,Blk.mk cs false true 0] fun (blk18:Blk)=>lows 4 blk18.1) (K .normal (Zab::Zab::Zae (i64 me)::Zab::Zae (i64 fr)::Zaf 0 0::Zaf 1 0::bds 3 (Zaf 2 0::Zag (Qz2 s)::bds 31 (Zbl 3 0 n 5::Zae (i64 (n:Int))::Zae (i64 (Zad .i64 (i+1)))::bds 90 []))) [Blk.mk (Qz3 ly) false false 0,Blk.mk [Zae (Zan 4 (rowsU us)),Zbl 3 0 n 5,Zae (Zan 3 (rowsA ak))] false false 0,Blk.mk Qz4 false false 0,Blk.mk cs false true 0] b) False)) (BIf (Zbk [Blk.mk (Qz3 ly) false false 0,Blk.mk [Zae (Zan 4 (rowsU us)),Zbl 3 0 n 5,Zae (Zan 3 (rowsA ak))] false false 0,Blk.mk Qz4 false false 0,Blk.mk cs false true 0] fun (blk19:Blk)=>lows 4 blk19.1) (K .normal (Zab::Zab::Zae (i64 me)::Zab::Zae (i64 fr)::Zaf 0 0::Zaf 1 0::bds 3 (Zaf 2 0::Zag (Qz2 s)::bds 31 (Zbl 3 0 n 5::Zae (i64 (n:Int))::Zae (i64 (Zad .i64 (i+1)))::bds 90 []))) [Blk.mk (Qz3 ly) false false 0,Blk.mk [Zae (Zan 4 (rowsU us)),Zbl 3 0 n 5,Zae (Zan 3 (rowsA ak))] false false 0,Blk.mk Qz4 false false 0,Blk.mk cs false true 0] b) False)) (BIf (Zbk [Blk.mk (Qz3 ly) false false 0,Blk.mk [Zae (Zan 4 (rowsU us)),Zbl 3 0 n 5,Zae (Zan 3 (rowsA ak))] false false 0,Blk.mk Qz4 false false 0,Blk.mk cs false true 0] fun (blk20:Blk)=>lows 4 blk20.1) (K .normal (Zab::Zab::Zae (i64 me)::Zab::Zae (i64 fr)::Zaf 0 0::Zaf 1 0::bds 3 (Zaf 2 0::Zag (Qz2 s)::bds 31 (Zbl 3 0 n 5::Zae (i64 (n:Int))::Zae (i64 (Zad .i64 (i+1)))::bds 90 []))) [Blk.mk (Qz3 ly) false false 0,Blk.mk [Zae (Zan 4 (rowsU us)),Zbl 3 0 n 5,Zae (Zan 3 (rowsA ak))] false false 0,Blk.mk Qz4 false false 0,Blk.mk cs false true 0] b) False)) False) (BIf (Zbk [Blk.mk (Qz3 ly) false false 0,Blk.mk [Zae (Zan 4 (rowsU us)),Zbl 3 0 n 5,Zae (Zan 3 (rowsA ak))] false false 0,Blk.mk Qz4 false false 0,Blk.mk cs false true 0] fun (blk21:Blk)=>lows 4 blk21.1) (K (Zbj 0) (Zab::Zab::Zae (i64 me)::Zab::Zae (i64 fr)::Zaf 0 0::Zaf 1 0::bds 3 (Zaf 2 0::Zag (Qz2 s)::bds 31 (Zbl 3 0 n 5::Zae (i64 (n:Int))::Zae (i64 i)::bds 90 []))) [Blk.mk (Qz3 ly) false false 0,Blk.mk [Zae (Zan 4 (rowsU us)),Zbl 3 0 n 5,Zae (Zan 3 (rowsA ak))] false false 0,Blk.mk Qz4 false false 0,Blk.mk cs false true 0] b) False)):=by kernel_rfl
def AGx9 (s:SideT) (g:GraT):Bool:=(sFind s g.pe).isSome&&(ANa9 s (nearO (sFind s g.pe))&&AQl9 s (nearO (sFind s g.pe)) g.sl g.of)
def BEt9 (fr:Int) (g:GraT):GraT:=⟨g.sl,g.of,g.pe,g.st,if Zad Zbc (fr+8)>g.un then Zad Zbc (fr+8) else g.un⟩
def AEm9 (s:SideT) (fr:Int) (g:GraT):GraT:=if AGx9 s g=true then BEt9 fr g else g
def curG (s:SideT) (fr:Int) (gs:List GraT) (i:Nat):List GraT:=(gs.take i).map (AEm9 s fr)++gs.drop i
theorem BWs9 (s:SideT) (fr:Int) (gs:List GraT) (i:Nat):(curG s fr gs i).length=gs.length:=by simp [curG];omega
theorem BPz9 {s:SideT} {fr:Int} {gs:List GraT} {i:Nat} {g:GraT} (h:gs[i]? =some g):(curG s fr gs i)[i]? =some g:=by
 have hi:=(Zac.1 h).1;rw [curG,Zas (by simp;omega)];simp only [List.length_map,Zcd,Nat.min_eq_left (Nat.le_of_lt hi),Nat.sub_self];rw [List.getElem?_drop];simpa using h
theorem AWx9 {s:SideT} {fr:Int} {gs:List GraT} {i:Nat} {g:GraT} (h:gs[i]? =some g):curG s fr gs (i+1)=(curG s fr gs i).set i (AEm9 s fr g):=by
 have hi:=(Zac.1 h).1;rw [curG,curG,Zfm,h,List.set_append_right _ _ (by simp;omega)];simp only [List.length_map,Zcd,Nat.min_eq_left (Nat.le_of_lt hi),Nat.sub_self,Option.toList_some,List.map_append,Zdn,List.map_nil,Zbq,Zgs,List.nil_append];congr 1;rw [List.drop_eq_getElem_cons hi,List.set_cons_zero]
theorem APp9 {s:SideT} {fr:Int} {gs:List GraT} {i:Nat} {g:GraT} (h:gs[i]? =some g) (hr:AGx9 s g=false):curG s fr gs (i+1)=curG s fr gs i:=by
 rw [AWx9 h,AEm9,hr,if_neg (by decide)];exact ABp9 (BPz9 h)
theorem CDq9 {cur:List GraT} {i:Nat} {g:GraT} (h:cur[i]? =some g) (z:Int):(flatA (rowsG cur)).take (i*5+4)++ [Zae (i64 z)]++(flatA (rowsG cur)).drop (i*5+4+1)=flatA (rowsG (cur.set i ⟨g.sl,g.of,g.pe,g.st,z⟩)):=by
 have hi:=(Zac.1 h).1;have e:=BWc9 AFo9 (hs:=cur) (i:=i) hi ⟨g.sl,g.of,g.pe,g.st,z⟩;have ea:=fl_at AFo9 h;have f:∀l:List GraT,flatA (rowsG l)=flatA (l.map graR):=fun _=>rfl;rw [f,f,←e,List.take_add];have e4:((flatA (cur.map graR)).drop (i*5)).take 4=((graR g).map Zae).take 4:=by rw [←ea,List.take_take];rfl
 rw [e4];simp only [graR,Zdn,List.map_nil,List.take_succ_cons,List.take_zero,Zbq,Zgs,List.nil_append]
def g1B (ly:LayT) (us:List UseT) (ak:List AskT) (n:Nat) (gs:List GraT):List Blk:= [layB ly,grtB us (.gref 3 0 n 5) ak,resB,growB 0 (flatA (rowsG gs))]
theorem CHp9 (ly:LayT) (us:List UseT) (ak:List AskT) (n:Nat) (gs:List GraT):Zbk (g1B ly us ak n gs) (fun blk=>lows 4 blk.1)=true:=by
 simp only [g1B,List.all_cons,List.all_nil,Bool.and_true,Zai];exact ⟨rfl,rfl,rfl,ACu9 4 _⟩
def AGm9 (s:SideT):Prop:=s.ns.length≤9223372036854775807∧∀x∈s.ns,ACf9 x
theorem BEp9 {s:SideT} (hs:AGm9 s) (pe:Int):ACf9 (nearO (sFind s pe)):=by
 cases h:sFind s pe with
 |none=>exact ⟨by decide,by decide,by decide⟩
 |some n=>exact hs.2 n (List.mem_of_find?_eq_some h)
theorem wrG1 {Ev:Env prog} {b:Ev.β} {Q:Exit→St Ev.β→Prop} (s:SideT) (ly:LayT) (us:List UseT) (ak:List AskT) (me fr:Int) (gs:List GraT) (hs:AGm9 s) (hl:gs.length<1000000)
 (hQ:Q (.exit 0) ⟨tmG1 s me fr (.gref 3 0 gs.length 5) gs.length gs.length,g1B ly us ak gs.length (curG s fr gs gs.length),b⟩):WR Ev lpG1 (gs.length+1) ⟨tmG1 s me fr (.gref 3 0 gs.length 5) gs.length (0:Nat),g1B ly us ak gs.length (curG s fr gs 0),b⟩ Q:=by
 have low:=CHp9 ly us ak gs.length;refine WR.scanG (X:=⟨TG1,GCG,wlW Ev,Ev.Y,false⟩) (k:=100) (L:=4) [2,4,5,6,10,11,43,44,45] mixed (CX.Ok.of CFu9 BBe9) gs (fun _=>false) (fun i=>tmG1 s me fr (.gref 3 0 gs.length 5) gs.length (i:Nat)) (fun i=>g1B ly us ak gs.length (curG s fr gs i)) (fun _=>rfl) 0 0 (fun i g _ hi hg K _ k2=> ?_) (fun K k1=> ?_) (fun _=>hQ) (fun h=>by simp at h) gs.length 0 (by simp) (Zaw _) rfl
 ·refine Eq.mpr (rG1 _ _ _ K s ly us ak me fr gs.length i _) ?_;have hk:=k2 rfl;have hc:=BPz9 (s:=s) (fr:=fr) hg;have hn:=BEp9 hs g.pe;refine Zaz (by simp;omega) ⟨rfl,Zaz (by simp;omega) ⟨rfl,_,_,_,_,_,by rw [Zcf];exact fl_at AFo9 hc,s,g.pe,_,_,rfl,⟨hs.1,rfl,rfl⟩,Zba (fun h1=>⟨s,nearO (sFind s g.pe),_,rfl,rfl,Zba (fun h2=>⟨s,nearO (sFind s g.pe),g.sl,g.of,_,rfl,⟨⟨by have:=hn.1;omega,by have:=hn.2.2;omega⟩,rfl⟩,Zba (fun h3=> ?_) fun h3=> ?_⟩) fun h2=> ?_⟩) fun h1=> ?_⟩⟩
  ·have hr:AGx9 s g=true:=by rw [AGx9,h1,h2,h3];rfl
   have e4:=CDq9 hc (BEt9 fr g).un;have es:curG s fr gs (i+1)=(curG s fr gs i).set i ⟨g.sl,g.of,g.pe,g.st,(BEt9 fr g).un⟩:=by rw [AWx9 hg,AEm9,if_pos hr];rfl
   have hl2:=low (curG s fr gs (i+1));simp only [g1B,es,←e4] at hk hl2;refine ⟨rfl,Zaz (by simp;omega) ⟨rfl,rfl,Zaz ?_ ?_⟩⟩
   ·have:=AZv9 AFo9 (curG s fr gs i);rw [Zcf,show flatA (rowsG (curG s fr gs i))=flatA ((curG s fr gs i).map graR) from rfl,this,BWs9];simp;omega
   ·rw [Zcf,wrapN (by omega)];exact Zaz hl2 hk
  ·have hr:AGx9 s g=false:=by rw [AGx9,h1,h2,h3];rfl
   rw [APp9 hg hr] at hk;rw [wrapN (by omega)];exact Zaz (low _) hk
  ·have hr:AGx9 s g=false:=by rw [AGx9,h1,h2];rfl
   rw [APp9 hg hr] at hk;rw [wrapN (by omega)];exact Zaz (low _) hk
  ·have hr:AGx9 s g=false:=by rw [AGx9,h1];rfl
   rw [APp9 hg hr] at hk;rw [wrapN (by omega)];exact Zaz (low _) hk
 ·refine Eq.mpr (rG1 _ _ _ K s ly us ak me fr gs.length gs.length _) ?_;exact Zda (by simp) (Zaz (low _) k1)
theorem BFi9 {tm:List AV} {hp:List Blk} {c off:Nat} {blk:Blk} {x y:AV} {gs:List Nat} (hc:hp[c]? =some blk) (hx:blk.cells[off]? =some x) (hs:SealR hp x y) (hg:∀g∈occ x,g∈gs) (ho:y.isOwn=false) (hcg:(frz hp gs)[c]? =some blk):
 FrzOk ⟨tm,hp, []⟩ ⟨tm,(frz hp gs).set c {blk with cells:=blk.cells.set off y}, []⟩:=by
 intro S X yv w m B hv a hr;obtain ⟨hl,hr,hpv⟩:=hr;obtain ⟨S',h1,h2,h3,h4⟩:=Rel.frzAll gs hr;refine ⟨S',⟨Agree.refl _ _ _,h1,h2,MStep.refl m⟩,hl, ?_,hpv⟩;have hr':Rel S X yv w m ((tm.zip a.tmps.toList++B)++AAa9 hp hv) hp hv:=by simpa using hr
 have hvl:c<hv.length:=by rw [hr'.hl];exact (Zac.1 hc).1
 have hcv:hv[c]? =some hv[c]:=Zbb hvl;obtain ⟨pre,post,e1,e2⟩:=ABt9 hcg hcv;have e3:=e2 {blk with cells:=blk.cells.set off y} hv[c];have hvs:hv.set c hv[c]=hv:=ABp9 hcv;rw [hvs] at e3;have hcp:AAa9 (frz hp gs) hv=AAa9 hp hv:=AEp9 hv (APi9 gs hp);have h3':Rel S' X yv w m ((blk.cells.zip hv[c])++((tm.zip a.tmps.toList++B)++(pre++post))) (frz hp gs) hv:=by
  refine Rel.perm (A:=(tm.zip a.tmps.toList++B)++AAa9 hp hv) (by simpa using h3) ?_;rw [←hcp,e1];have:((tm.zip a.tmps.toList++B)++(pre++blk.cells.zip hv[c]++post)).Perm ((blk.cells.zip hv[c])++((tm.zip a.tmps.toList++B)++(pre++post))):=by
   have p1:(pre++blk.cells.zip hv[c]++post).Perm (blk.cells.zip hv[c]++(pre++post)):=by
    rw [←Zbq];exact List.Perm.append_right _ List.perm_append_comm
   refine (List.Perm.append_left _ p1).trans ?_;rw [←Zbq,←Zbq (blk.cells.zip hv[c])];exact List.Perm.append_right _ List.perm_append_comm
  exact this
 have key:∀(l:List AV) (vs:List Value) (o:Nat),l[o]? =some x→(∀p∈l.zip vs,RV S w m yv p.1 p.2)→RP S' w m yv (l.zip vs) ((l.set o y).zip vs):=by
  intro l;induction l with
  |nil=>intro vs o h;simp at h
  | cons z l ih=>
   intro vs o h hrv;cases vs with
   |nil=>rw [List.zip_nil_right,List.zip_nil_right];exact .nil
   | cons v vs=>
    cases o with
    | zero=>
     simp at h;subst h;refine .turn ?_ (ALq9 ho) ?_
     ·exact (AJa9 hr' h1 hs (fun g hgg p hp i hi=>h4 g (hg g hgg) p hp i hi) (hrv (z,v) (by simp))).opened
     ·have:∀q:List (AV×Value),RP S' w m yv q q:=fun q=>by
       induction q with
       |nil=>exact .nil
       |cons p q ih=>exact .keep ih
      exact this _
    | succ o=>
     simp only [List.set_cons_succ,List.zip_cons_cons];exact .keep (ih vs o (by simpa using h) fun p hp=>hrv p (Zbx _ hp))
 have h5:=Rel.rp (key blk.cells hv[c] off hx fun p hp=>hr'.rv p (Zdp _ (by rw [←hcp,e1];exact List.mem_append_left _ (Zdp _ hp)))) h3';have h6:Rel S' X yv w m ((tm.zip a.tmps.toList++B)++AAa9 ((frz hp gs).set c {blk with cells:=blk.cells.set off y}) hv) (frz hp gs) hv:=by
  refine h5.perm ?_;rw [e3];have p1:(pre++(blk.cells.set off y).zip hv[c]++post).Perm ((blk.cells.set off y).zip hv[c]++(pre++post)):=by
   rw [←Zbq];exact List.Perm.append_right _ List.perm_append_comm
  refine List.Perm.symm ((List.Perm.append_left _ p1).trans ?_);rw [←Zbq,←Zbq ((blk.cells.set off y).zip hv[c])];exact List.Perm.append_right _ List.perm_append_comm
 have h7:Rel S' X yv w m ((tm.zip a.tmps.toList++B)++AAa9 ((frz hp gs).set c {blk with cells:=blk.cells.set off y}) hv) ((frz hp gs).set c {blk with cells:=blk.cells.set off y}) hv:=by
  refine ⟨h6.lt,h6.rv,h6.pw,h6.nm,h6.sp,h6.mnd,by rw [List.length_set];exact h6.ml,by rw [List.length_set];exact h6.hl,fun g b' p vs g1 g2 g3=> ?_,h6.gl⟩;by_cases hgc:c=g
  ·subst hgc;rw [List.getElem?_set_self (Zac.1 hcg).1] at g1;cases g1;have:=h6.bl c blk p vs hcg g2 g3;simpa using this
  ·rw [List.getElem?_set_ne hgc] at g1;exact h6.bl g b' p vs g1 g2 g3
 simpa using h7
def frozB (cs:List AV):Blk:=⟨cs,true,true,0⟩
noncomputable def lpG2:Code:=sub [1,8,1,1,1,1,1,1,0,1,2,3] (code f13)
noncomputable def lpG3:Code:=sub [1,8,1,1,1,1,1,1,0,1,2,3,1,1,0,2,1,1,1,2,3] (code f13)
def tmG2 (s:SideT) (me fr:Int) (i:Int):List AV:= [.bad, .bad, .d (i64 me), .bad, .d (i64 fr), .ptr 0 0, .ptr 1 0, .bad, .bad, .bad, .ptr 2 0, .rptr (sideD s)]++Zap 72 .bad++ [.d (.sl 31 (rowsN s.ns)), .d (i64 s.ns.length), .d (i64 i)]++Zap 49 .bad
def tmG3 (L:Nat) (s:SideT) (me fr:Int) (i:Int) (ak:List AskT) (j:Int):List AV:= [.bad, .bad, .d (i64 me), .bad, .d (i64 fr), .ptr 0 0, .ptr 1 0, .bad, .bad, .bad, .ptr 2 0, .rptr (sideD s)]++Zap 6 .bad++ [.ptr L 0]++Zap 65 .bad++ [.d (.sl 31 (rowsN s.ns)), .d (i64 s.ns.length), .d (i64 i)]++Zap 9 .bad++ [.d (.sl 3 (rowsA ak)), .d (i64 ak.length), .d (i64 j)]++Zap 37 .bad
def TG3:List (Nat×(List AV→(AV→Prop)→Prop)):= [(49,APs9),(51,BQk9),(52,cAddG)]
theorem BOx9:AAc9 prog TG3:=Zaj AMm9 (Zaj BHa9 (Zaj BXx9 Zak))
abbrev Qz24 (v0:LayT) (v1:TabT) (v2:NearT):= [Blk.mk (Qz3 v0) false false 0,Blk.mk (Qz1 v1) false false 0,Blk.mk Qz4 false false 0,nearB v2]
theorem rG3_3 (s:SideT) (ly:LayT) (t:TabT) (n:NearT) (me fr i:Int) (ak:List AskT) (j:Int):wpc prog ⟨TG3, [],wl,y,false⟩ 100 lpG3 (tmG3 3 s me fr i ak j) [layB ly,tabB t,resB,nearB n] b (maskK 4 [2,4,5,6,10,11,18,84,85,86,96,97,98] K)=(BIf (decide (j<((Zaa ak:Nat):Int))) (BIf (true&&decide (0≤j)) (∃(x0:Int) (x1:Int) (x2:Int),(rowsA ak)[Zam j]? =some [i64 x0,i64 x1,i64 x2]∧BIf (x2 !=me) (K .normal (Zab::Zab::Zae (i64 me)::Zab::Zae (i64 fr)::Zaf 0 0::Zaf 1 0::bds 3 (Zaf 2 0::Zag (Qz2 s)::bds 6 (Zaf 3 0::bds 65 (Zae (Zan 31 (rowsN (Zau s)))::Zae (i64 ((Zaa (Zau s):Nat):Int))::Zae (i64 i)::bds 9 (Zae (Zan 3 (rowsA ak))::Zae (i64 ((Zaa ak:Nat):Int))::Zae (i64 (Zad .i64 (j+1)))::bds 37 []))))) (Qz24 ly t n) b) (∃(s5:SideT) (sl6:Int) (of7:Int) (but8:Int) (q9:Bool), [Zag (Qz2 s),Zaq [Zae (i64 x0),Zae (i64 x1)],Zae (i64 (Zdm n))]= [Zag (Qz2 s5),Zaq [Zae (i64 sl6),Zae (i64 of7)],Zae (i64 but8)]∧((Zaa (Zau s5)≤9223372036854775807∧(∀(x:NearT),x∈Zau s5→AAy9 x)∧layOk (Zcg s5)=true)∧q9=usedS (Zau s5) sl6 of7 but8)∧BIf q9 (K .normal (Zab::Zab::Zae (i64 me)::Zab::Zae (i64 fr)::Zaf 0 0::Zaf 1 0::bds 3 (Zaf 2 0::Zag (Qz2 s)::bds 6 (Zaf 3 0::bds 65 (Zae (Zan 31 (rowsN (Zau s)))::Zae (i64 ((Zaa (Zau s):Nat):Int))::Zae (i64 i)::bds 9 (Zae (Zan 3 (rowsA ak))::Zae (i64 ((Zaa ak:Nat):Int))::Zae (i64 (Zad .i64 (j+1)))::bds 37 []))))) (Qz24 ly t n) b) (∃(t10:TabT) (z11:TabT) (ly12:LayT) (u13:GraT) (e14:Int), [Zaq (Qz1 t),Zaq (Qz3 ly),Zaq [Zae (i64 x0),Zae (i64 x1),Zae (i64 (Zdm n)),Zae (i64 fr),Zae (i64 (Zad .i64 (fr+8)))]]= [Zaq (Qz1 t10),Zaq (Qz3 ly12),Zaq (Qz5 u13)]∧(TabOk t10∧z11=addSG t10 ly12 u13∧e14=refEG t10 ly12 u13)∧BIf (e14==(0:Int)) (K .normal (Zab::Zab::Zae (i64 me)::Zab::Zae (i64 fr)::Zaf 0 0::Zaf 1 0::bds 3 (Zaf 2 0::Zag (Qz2 s)::bds 6 (Zaf 3 0::bds 65 (Zae (Zan 31 (rowsN (Zau s)))::Zae (i64 ((Zaa (Zau s):Nat):Int))::Zae (i64 i)::bds 9 (Zae (Zan 3 (rowsA ak))::Zae (i64 ((Zaa ak:Nat):Int))::Zae (i64 (Zad .i64 (j+1)))::bds 37 []))))) (Qz24 ly z11 n) b) (K .normal (Zab::Zab::Zae (i64 me)::Zab::Zae (i64 fr)::Zaf 0 0::Zaf 1 0::bds 3 (Zaf 2 0::Zag (Qz2 s)::bds 6 (Zaf 3 0::bds 65 (Zae (Zan 31 (rowsN (Zau s)))::Zae (i64 ((Zaa (Zau s):Nat):Int))::Zae (i64 i)::bds 9 (Zae (Zan 3 (rowsA ak))::Zae (i64 ((Zaa ak:Nat):Int))::Zae (i64 (Zad .i64 (j+1)))::bds 37 []))))) (Qz24 ly t n) b)))) False) (K (Zbj 4) (Zab::Zab::Zae (i64 me)::Zab::Zae (i64 fr)::Zaf 0 0::Zaf 1 0::bds 3 (Zaf 2 0::Zag (Qz2 s)::bds 6 (Zaf 3 0::bds 65 (Zae (Zan 31 (rowsN (Zau s)))::Zae (i64 ((Zaa (Zau s):Nat):Int))::Zae (i64 i)::bds 9 (Zae (Zan 3 (rowsA ak))::Zae (i64 ((Zaa ak:Nat):Int))::Zae (i64 j)::bds 37 []))))) (Qz24 ly t n) b)):=by kernel_rfl
abbrev Qz18 (v0:LayT) (v1:TabT) (v2:List AV) (v3:NearT):= [Blk.mk (Qz3 v0) false false 0,Blk.mk (Qz1 v1) false false 0,Blk.mk Qz4 false false 0,Blk.mk v2 true true 0,nearB v3]
theorem rG3_4 (s:SideT) (ly:LayT) (t:TabT) (n:NearT) (me fr i:Int) (ak:List AskT) (j:Int) (cs:List AV):wpc prog ⟨TG3, [],wl,y,false⟩ 100 lpG3 (tmG3 4 s me fr i ak j) [layB ly,tabB t,resB,frozB cs,nearB n] b (maskK 5 [2,4,5,6,10,11,18,84,85,86,96,97,98] K)=(BIf (decide (j<((Zaa ak:Nat):Int))) (BIf (true&&decide (0≤j)) (∃(x0:Int) (x1:Int) (x2:Int),(rowsA ak)[Zam j]? =some [i64 x0,i64 x1,i64 x2]∧BIf (x2 !=me) (BIf (Zbk (Qz18 ly t cs n) fun (blk5:Blk)=>lows 5 blk5.1) (K .normal (Zab::Zab::Zae (i64 me)::Zab::Zae (i64 fr)::Zaf 0 0::Zaf 1 0::bds 3 (Zaf 2 0::Zag (Qz2 s)::bds 6 (Zaf 4 0::bds 65 (Zae (Zan 31 (rowsN (Zau s)))::Zae (i64 ((Zaa (Zau s):Nat):Int))::Zae (i64 i)::bds 9 (Zae (Zan 3 (rowsA ak))::Zae (i64 ((Zaa ak:Nat):Int))::Zae (i64 (Zad .i64 (j+1)))::bds 37 []))))) (Qz18 ly t cs n) b) False) (∃(s6:SideT) (sl7:Int) (of8:Int) (but9:Int) (q10:Bool), [Zag (Qz2 s),Zaq [Zae (i64 x0),Zae (i64 x1)],Zae (i64 (Zdm n))]= [Zag (Qz2 s6),Zaq [Zae (i64 sl7),Zae (i64 of8)],Zae (i64 but9)]∧((Zaa (Zau s6)≤9223372036854775807∧(∀(x:NearT),x∈Zau s6→AAy9 x)∧layOk (Zcg s6)=true)∧q10=usedS (Zau s6) sl7 of8 but9)∧BIf q10 (BIf (Zbk (Qz18 ly t cs n) fun (blk11:Blk)=>lows 5 blk11.1) (K .normal (Zab::Zab::Zae (i64 me)::Zab::Zae (i64 fr)::Zaf 0 0::Zaf 1 0::bds 3 (Zaf 2 0::Zag (Qz2 s)::bds 6 (Zaf 4 0::bds 65 (Zae (Zan 31 (rowsN (Zau s)))::Zae (i64 ((Zaa (Zau s):Nat):Int))::Zae (i64 i)::bds 9 (Zae (Zan 3 (rowsA ak))::Zae (i64 ((Zaa ak:Nat):Int))::Zae (i64 (Zad .i64 (j+1)))::bds 37 []))))) (Qz18 ly t cs n) b) False) (∃(t12:TabT) (z13:TabT) (ly14:LayT) (u15:GraT) (e16:Int), [Zaq (Qz1 t),Zaq (Qz3 ly),Zaq [Zae (i64 x0),Zae (i64 x1),Zae (i64 (Zdm n)),Zae (i64 fr),Zae (i64 (Zad .i64 (fr+8)))]]= [Zaq (Qz1 t12),Zaq (Qz3 ly14),Zaq (Qz5 u15)]∧(TabOk t12∧z13=addSG t12 ly14 u15∧e16=refEG t12 ly14 u15)∧BIf (e16==(0:Int)) (BIf (Zbk (Qz18 ly z13 cs n) fun (blk17:Blk)=>lows 5 blk17.1) (K .normal (Zab::Zab::Zae (i64 me)::Zab::Zae (i64 fr)::Zaf 0 0::Zaf 1 0::bds 3 (Zaf 2 0::Zag (Qz2 s)::bds 6 (Zaf 4 0::bds 65 (Zae (Zan 31 (rowsN (Zau s)))::Zae (i64 ((Zaa (Zau s):Nat):Int))::Zae (i64 i)::bds 9 (Zae (Zan 3 (rowsA ak))::Zae (i64 ((Zaa ak:Nat):Int))::Zae (i64 (Zad .i64 (j+1)))::bds 37 []))))) (Qz18 ly z13 cs n) b) False) (BIf (Zbk (Qz18 ly t cs n) fun (blk18:Blk)=>lows 5 blk18.1) (K .normal (Zab::Zab::Zae (i64 me)::Zab::Zae (i64 fr)::Zaf 0 0::Zaf 1 0::bds 3 (Zaf 2 0::Zag (Qz2 s)::bds 6 (Zaf 4 0::bds 65 (Zae (Zan 31 (rowsN (Zau s)))::Zae (i64 ((Zaa (Zau s):Nat):Int))::Zae (i64 i)::bds 9 (Zae (Zan 3 (rowsA ak))::Zae (i64 ((Zaa ak:Nat):Int))::Zae (i64 (Zad .i64 (j+1)))::bds 37 []))))) (Qz18 ly t cs n) b) False)))) False) (BIf (Zbk (Qz18 ly t cs n) fun (blk19:Blk)=>lows 5 blk19.1) (K (Zbj 4) (Zab::Zab::Zae (i64 me)::Zab::Zae (i64 fr)::Zaf 0 0::Zaf 1 0::bds 3 (Zaf 2 0::Zag (Qz2 s)::bds 6 (Zaf 4 0::bds 65 (Zae (Zan 31 (rowsN (Zau s)))::Zae (i64 ((Zaa (Zau s):Nat):Int))::Zae (i64 i)::bds 9 (Zae (Zan 3 (rowsA ak))::Zae (i64 ((Zaa ak:Nat):Int))::Zae (i64 j)::bds 37 []))))) (Qz18 ly t cs n) b) False)):=by kernel_rfl
def newG (fr:Int) (n:NearT) (a:AskT):GraT:=⟨a.sl,a.of,n.fm,fr,Zad Zbc (fr+8)⟩
def AAr9 (s:SideT) (ly:LayT) (me fr:Int) (n:NearT) (t:TabT) (a:AskT):TabT:=
 if (a.pe !=me||usedS s.ns a.sl a.of n.fm)=true then t else if refEG t ly (newG fr n a)=0 then addSG t ly (newG fr n a) else t
theorem AKr9 {t:TabT} {l:LayT} (h:ACq9 t l=true):t.us.length+t.gs.length≤24∧t.ak.length≤24:=by
 unfold ACq9 at h;split at h<;>try (cases h;done)
 split at h<;>try (cases h;done)
 split at h<;>try (cases h;done)
 split at h<;>try (cases h;done)
 split at h<;>try (cases h;done)
 split at h<;>try (cases h;done)
 omega
theorem AUf9 {α:Type} (p:α→Bool) (g:α):∀l:List α,(insP p g l).length=l.length+1
 | []=>rfl
 | x::r=>by
  rw [insP];split
  ·rfl
  ·rw [List.length_cons,AUf9 p g r,List.length_cons]
theorem AKd9 {t:TabT} {ly:LayT} {sl:Int} {ok:Bool} (h:refS t ly sl ok=0):ACq9 t ly=true∧ok=true∧busyT t sl=false∧t.us.length+t.gs.length<24:=by
 unfold refS at h;split at h
 ·rename_i h1;rw [Zai] at h1;split at h
  ·cases h
  ·rename_i h2;split at h
   ·cases h
   ·rename_i h3;exact ⟨h1.1,h1.2,by simpa using h2,by omega⟩
 ·cases h
theorem BYb9 {t:TabT} {ly:LayT} {u:GraT} (h:refEG t ly u=0):TabOk (addSG t ly u):=by
 obtain ⟨h1,_,_,h4⟩:=AKd9 h;have h5:=AKr9 h1;rw [addSG,if_pos h];refine ⟨by simp only;omega, ?_, ?_⟩
 ·simp only [insSG,AUf9];omega
 ·have:=Zfz (fun x:AskT=> !(x.sl==u.sl)) t.ak;simp only [AJu9];omega
theorem BYa9 {t:TabT} {ly:LayT} {u:UseT} (h:refEU t ly u=0):TabOk (addSU t ly u):=by
 obtain ⟨h1,_,_,h4⟩:=AKd9 h;have h5:=AKr9 h1;rw [addSU,if_pos h];refine ⟨?_,by simp only;omega, ?_⟩
 ·simp only [insSU,AUf9];omega
 ·have:=Zfz (fun x:AskT=> !(x.sl==u.sl)) t.ak;simp only [AJu9];omega
theorem AZu9 {s:SideT} {ly:LayT} {me fr:Int} {n:NearT} {t:TabT} {a:AskT} (h:TabOk t):TabOk (AAr9 s ly me fr n t a):=by
 unfold AAr9;split
 ·exact h
 ·split
  ·rename_i h1;exact BYb9 h1
  ·exact h
theorem AWs9 {s:SideT} {ly:LayT} {me fr:Int} {n:NearT}:∀(l:List AskT) {t:TabT},TabOk t→TabOk (l.foldl (AAr9 s ly me fr n) t)
 | [],t,h=>h
 |a::l,t,h=>AWs9 l (AZu9 h)
theorem AFp9 {α β:Type} (f:β→α→β) (t:β) {l:List α} {i:Nat} {a:α} (h:l[i]? =some a):(l.take (i+1)).foldl f t=f ((l.take i).foldl f t) a:=by
 rw [Zfm,h,List.foldl_append];rfl
def g3B_3 (ly:LayT) (n:NearT) (t:TabT):List Blk:= [layB ly,tabB t,resB,nearB n]
theorem BWb9 (ly:LayT) (n:NearT) (t:TabT):Zbk (g3B_3 ly n t) (fun blk=>lows 4 blk.1)=true:=by
 simp only [g3B_3,List.all_cons,List.all_nil,Bool.and_true,Zai];exact ⟨rfl,rfl,rfl,rfl⟩
theorem CGf9 {Ev:Env prog} {b:Ev.β} {Q:Exit→St Ev.β→Prop} (s:SideT) (ly:LayT) (t:TabT) (n:NearT) (me fr i:Int) (ak:List AskT) (hs:AJh9 s) (ht:TabOk t) (hl:ak.length<1000000)
 (hQ:Q (.exit 4) ⟨tmG3 3 s me fr i ak ak.length,g3B_3 ly n (ak.foldl (AAr9 s ly me fr n) t),b⟩):WR Ev lpG3 (ak.length+1) ⟨tmG3 3 s me fr i ak (0:Nat),g3B_3 ly n t,b⟩ Q:=by
 have low:=BWb9 ly n;refine WR.scanG (X:=⟨TG3, [],wlW Ev,Ev.Y,false⟩) (k:=100) (L:=4) [2,4,5,6,10,11,18,84,85,86,96,97,98] mixed (CX.Ok.of BOx9 Zah) ak (fun _=>false) (fun j=>tmG3 3 s me fr i ak (j:Nat)) (fun j=>g3B_3 ly n ((ak.take j).foldl (AAr9 s ly me fr n) t)) (fun _=>rfl) 4 0 (fun j a _ hj ha K _ k2=> ?_) (fun K k1=> ?_) (fun _=>by rw [Zdd];exact hQ) (fun h=>by simp at h) ak.length 0 (by simp) (Zaw _) rfl
 ·have hk:=k2 rfl;have htj:TabOk ((ak.take j).foldl (AAr9 s ly me fr n) t):=AWs9 _ ht;rw [AFp9 _ _ ha] at hk;generalize (ak.take j).foldl (AAr9 s ly me fr n) t=tj at hk htj ⊢;refine Eq.mpr (rG3_3 _ _ _ K s ly tj n me fr i ak j) ?_;refine Zaz (by simp;omega) (Zaz (natI j) ⟨_,_,_,ABk9 ha,Zba (fun h1=> ?_) fun h1=>⟨s,a.sl,a.of,n.fm,_,rfl,⟨hs,rfl⟩,Zba (fun h2=> ?_) fun h2=>⟨tj,_,ly,newG fr n a,_,rfl,⟨htj,rfl,rfl⟩,Zba (fun h3=> ?_) fun h3=> ?_⟩⟩⟩)
  ·rw [wrapN (by omega)];have e:AAr9 s ly me fr n tj a=tj:=by rw [AAr9,show (a.pe !=me)=true from h1];rfl
   rw [e] at hk;exact hk
  ·rw [wrapN (by omega)];have e:AAr9 s ly me fr n tj a=tj:=by rw [AAr9,h2,Bool.or_true];rfl
   rw [e] at hk;exact hk
  ·rw [wrapN (by omega)];have h3':refEG tj ly (newG fr n a)=0:=by simpa using h3
   have e:AAr9 s ly me fr n tj a=addSG tj ly (newG fr n a):=by rw [AAr9,show (a.pe !=me)=false from h1,h2,if_pos h3'];rfl
   rw [e] at hk;exact hk
  ·rw [wrapN (by omega)];have h3':¬refEG tj ly (newG fr n a)=0:=by simpa using h3
   have e:AAr9 s ly me fr n tj a=tj:=by rw [AAr9,show (a.pe !=me)=false from h1,h2,if_neg h3'];rfl
   rw [e] at hk;exact hk
 ·refine Eq.mpr (rG3_3 _ _ _ K s ly _ n me fr i ak ak.length) ?_;exact Zda (by simp) k1
def BSt9 {β:Type}:WLT β:=fun cd tm hp b K=>∃(s:SideT) (ly:LayT) (t:TabT) (n:NearT) (me fr i:Int) (ak:List AskT) (q:TabT),cd= .loop lpG3∧AAv9 [2,4,5,6,10,11,18,84,85,86,96,97,98] 0 tm=tmG3 3 s me fr i ak 0∧hp=g3B_3 ly n t∧(AJh9 s∧TabOk t∧ak.length<1000000∧q=ak.foldl (AAr9 s ly me fr n) t)∧K (.exit 4) (tmG3 3 s me fr i ak ak.length) (g3B_3 ly n q) b
theorem BKa9 {Ev:Env prog} (c:Code) (tm:List AV) (hp:List Blk) (b:Ev.β) (K:Exit→List AV→List Blk→Ev.β→Prop) (h:BSt9 c tm hp b K):W Ev c ⟨tm,hp,b⟩ (fun e s=>K e s.tm s.hp s.b):=by
 obtain ⟨s,ly,t,n,me,fr,i,ak,_,rfl,htm,rfl,⟨hs,ht,hl,rfl⟩,hK⟩:=h;refine W.cast (htm▸AAb9 _ tm 0) (Zbp _) ?_;exact W.rounds (CGf9 (Q:=fun e s=>K e s.tm s.hp s.b) s ly t n me fr i ak hs ht hl hK)
def g3B_4 (cs:List AV) (ly:LayT) (n:NearT) (t:TabT):List Blk:= [layB ly,tabB t,resB,frozB cs,nearB n]
theorem BWa9 (cs:List AV) (hcs:lows 5 cs=true) (ly:LayT) (n:NearT) (t:TabT):Zbk (g3B_4 cs ly n t) (fun blk=>lows 5 blk.1)=true:=by
 simp only [g3B_4,List.all_cons,List.all_nil,Bool.and_true,Zai];exact ⟨rfl,rfl,rfl,hcs,rfl⟩
theorem CGe9 {Ev:Env prog} {b:Ev.β} {Q:Exit→St Ev.β→Prop} (cs:List AV) (hcs:lows 5 cs=true) (s:SideT) (ly:LayT) (t:TabT) (n:NearT) (me fr i:Int) (ak:List AskT) (hs:AJh9 s) (ht:TabOk t) (hl:ak.length<1000000)
 (hQ:Q (.exit 4) ⟨tmG3 4 s me fr i ak ak.length,g3B_4 cs ly n (ak.foldl (AAr9 s ly me fr n) t),b⟩):WR Ev lpG3 (ak.length+1) ⟨tmG3 4 s me fr i ak (0:Nat),g3B_4 cs ly n t,b⟩ Q:=by
 have low:=BWa9 cs hcs ly n;refine WR.scanG (X:=⟨TG3, [],wlW Ev,Ev.Y,false⟩) (k:=100) (L:=5) [2,4,5,6,10,11,18,84,85,86,96,97,98] mixed (CX.Ok.of BOx9 Zah) ak (fun _=>false) (fun j=>tmG3 4 s me fr i ak (j:Nat)) (fun j=>g3B_4 cs ly n ((ak.take j).foldl (AAr9 s ly me fr n) t)) (fun _=>rfl) 4 0 (fun j a _ hj ha K _ k2=> ?_) (fun K k1=> ?_) (fun _=>by rw [Zdd];exact hQ) (fun h=>by simp at h) ak.length 0 (by simp) (Zaw _) rfl
 ·have hk:=k2 rfl;have htj:TabOk ((ak.take j).foldl (AAr9 s ly me fr n) t):=AWs9 _ ht;rw [AFp9 _ _ ha] at hk;generalize (ak.take j).foldl (AAr9 s ly me fr n) t=tj at hk htj ⊢;refine Eq.mpr (rG3_4 _ _ _ K s ly tj n me fr i ak j cs) ?_;refine Zaz (by simp;omega) (Zaz (natI j) ⟨_,_,_,ABk9 ha,Zba (fun h1=> ?_) fun h1=>⟨s,a.sl,a.of,n.fm,_,rfl,⟨hs,rfl⟩,Zba (fun h2=> ?_) fun h2=>⟨tj,_,ly,newG fr n a,_,rfl,⟨htj,rfl,rfl⟩,Zba (fun h3=> ?_) fun h3=> ?_⟩⟩⟩)
  ·rw [wrapN (by omega)];have e:AAr9 s ly me fr n tj a=tj:=by rw [AAr9,show (a.pe !=me)=true from h1];rfl
   rw [e] at hk;exact Zaz (low tj) hk
  ·rw [wrapN (by omega)];have e:AAr9 s ly me fr n tj a=tj:=by rw [AAr9,h2,Bool.or_true];rfl
   rw [e] at hk;exact Zaz (low tj) hk
  ·rw [wrapN (by omega)];have h3':refEG tj ly (newG fr n a)=0:=by simpa using h3
   have e:AAr9 s ly me fr n tj a=addSG tj ly (newG fr n a):=by rw [AAr9,show (a.pe !=me)=false from h1,h2,if_pos h3'];rfl
   rw [e] at hk;exact Zaz (low _) hk
  ·rw [wrapN (by omega)];have h3':¬refEG tj ly (newG fr n a)=0:=by simpa using h3
   have e:AAr9 s ly me fr n tj a=tj:=by rw [AAr9,show (a.pe !=me)=false from h1,h2,if_neg h3'];rfl
   rw [e] at hk;exact Zaz (low _) hk
 ·refine Eq.mpr (rG3_4 _ _ _ K s ly _ n me fr i ak ak.length cs) ?_;exact Zda (by simp) (Zaz (low _) k1)
def BSs9 {β:Type}:WLT β:=fun cd tm hp b K=>∃(cs:List AV) (s:SideT) (ly:LayT) (t:TabT) (n:NearT) (me fr i:Int) (ak:List AskT) (q:TabT),cd= .loop lpG3∧AAv9 [2,4,5,6,10,11,18,84,85,86,96,97,98] 0 tm=tmG3 4 s me fr i ak 0∧hp=g3B_4 cs ly n t∧(lows 5 cs=true∧AJh9 s∧TabOk t∧ak.length<1000000∧q=ak.foldl (AAr9 s ly me fr n) t)∧K (.exit 4) (tmG3 4 s me fr i ak ak.length) (g3B_4 cs ly n q) b
theorem BJz9 {Ev:Env prog} (c:Code) (tm:List AV) (hp:List Blk) (b:Ev.β) (K:Exit→List AV→List Blk→Ev.β→Prop) (h:BSs9 c tm hp b K):W Ev c ⟨tm,hp,b⟩ (fun e s=>K e s.tm s.hp s.b):=by
 obtain ⟨cs,s,ly,t,n,me,fr,i,ak,_,rfl,htm,rfl,⟨hcs,hs,ht,hl,rfl⟩,hK⟩:=h;refine W.cast (htm▸AAb9 _ tm 0) (Zbp _) ?_;exact W.rounds (CGe9 (Q:=fun e s=>K e s.tm s.hp s.b) cs hcs s ly t n me fr i ak hs ht hl hK)
abbrev Qz19 (v0:LayT) (v1:TabT):= [Blk.mk (Qz3 v0) false false 0,Blk.mk (Qz1 v1) false false 0,Blk.mk Qz4 false false 0]
theorem rG2_3 (s:SideT) (ly:LayT) (t:TabT) (me fr i:Int):wpc prog ⟨TG3, [],BSt9,y,false⟩ 100 lpG2 (tmG2 s me fr i) [layB ly,tabB t,resB] b (maskK 3 [2,4,5,6,10,11,84,85,86] K)=(BIf (decide (i<((Zaa (Zau s):Nat):Int))) (BIf (true&&decide (0≤i)) (∃(n0:NearT),(rowsN (Zau s))[Zam i]? =some (nearR n0)∧∃(s3:SideT) (n4:NearT) (q5:Bool), [Zag (Qz2 s),nearA n0]= [Zag (Qz2 s3),nearA n4]∧q5=ANa9 s3 n4∧BIf (!q5) (K .normal (Zab::Zab::Zae (i64 me)::Zab::Zae (i64 fr)::Zaf 0 0::Zaf 1 0::bds 3 (Zaf 2 0::Zag (Qz2 s)::bds 72 (Zae (Zan 31 (rowsN (Zau s)))::Zae (i64 ((Zaa (Zau s):Nat):Int))::Zae (i64 (Zad .i64 (i+1)))::bds 49 []))) (Qz19 ly t) b) (∃(s6:SideT) (ly7:LayT) (t8:TabT) (n9:NearT) (me10:Int) (fr11:Int) (i12:Int) (ak13:List AskT) (q14:TabT),Zat lpG3=Zat lpG3∧(Zab::Zab::Zae (i64 me)::Zab::Zae (i64 fr)::Zaf 0 0::Zaf 1 0::bds 3 (Zaf 2 0::Zag (Qz2 s)::bds 6 (Zaf 3 0::bds 65 (Zae (Zan 31 (rowsN (Zau s)))::Zae (i64 ((Zaa (Zau s):Nat):Int))::Zae (i64 i)::bds 9 (Zae (Zan 3 (rowsA (Zer n0)))::Zae (i64 ((Zaa (rowsA (Zer n0)):Nat):Int))::Zae (i64 0)::bds 37 [])))))=(Zab::Zab::Zae (i64 me10)::Zab::Zae (i64 fr11)::Zaf 0 0::Zaf 1 0::bds 3 (Zaf 2 0::Zag (Qz2 s6)::bds 6 (Zaf 3 0::bds 65 (Zae (Zan 31 (rowsN (Zau s6)))::Zae (i64 ((Zaa (Zau s6):Nat):Int))::Zae (i64 i12)::bds 9 (Zae (Zan 3 (rowsA ak13))::Zae (i64 ((Zaa ak13:Nat):Int))::Zae (i64 0)::bds 37 [])))))∧(Qz24 ly t n0)=(Qz24 ly7 t8 n9)∧((Zaa (Zau s6)≤9223372036854775807∧(∀(x:NearT),x∈Zau s6→AAy9 x)∧layOk (Zcg s6)=true)∧TabOk t8∧Zaa ak13<1000000∧q14=List.foldl (AAr9 s6 ly7 me10 fr11 n9) t8 ak13)∧K .normal (Zab::Zab::Zae (i64 me10)::Zab::Zae (i64 fr11)::Zaf 0 0::Zaf 1 0::bds 3 (Zaf 2 0::Zag (Qz2 s6)::bds 72 (Zae (Zan 31 (rowsN (Zau s6)))::Zae (i64 ((Zaa (Zau s6):Nat):Int))::Zae (i64 (Zad .i64 (i12+1)))::bds 49 []))) (Qz19 ly7 q14) b)) False) (K (Zbj 2) (Zab::Zab::Zae (i64 me)::Zab::Zae (i64 fr)::Zaf 0 0::Zaf 1 0::bds 3 (Zaf 2 0::Zag (Qz2 s)::bds 72 (Zae (Zan 31 (rowsN (Zau s)))::Zae (i64 ((Zaa (Zau s):Nat):Int))::Zae (i64 i)::bds 49 []))) (Qz19 ly t) b)):=by kernel_rfl
abbrev Qz35 (v0:LayT) (v1:TabT) (v2:List AV):= [Blk.mk (Qz3 v0) false false 0,Blk.mk (Qz1 v1) false false 0,Blk.mk Qz4 false false 0,Blk.mk v2 true true 0]
theorem rG2_4 (s:SideT) (ly:LayT) (t:TabT) (me fr i:Int) (cs:List AV):wpc prog ⟨TG3, [],BSs9,y,false⟩ 100 lpG2 (tmG2 s me fr i) [layB ly,tabB t,resB,frozB cs] b (maskK 4 [2,4,5,6,10,11,84,85,86] K)=(BIf (decide (i<((Zaa (Zau s):Nat):Int))) (BIf (true&&decide (0≤i)) (∃(n0:NearT),(rowsN (Zau s))[Zam i]? =some (nearR n0)∧∃(s3:SideT) (n4:NearT) (q5:Bool), [Zag (Qz2 s),nearA n0]= [Zag (Qz2 s3),nearA n4]∧q5=ANa9 s3 n4∧BIf (!q5) (BIf (Zbk (Qz35 ly t cs) fun (blk6:Blk)=>lows 4 blk6.1) (K .normal (Zab::Zab::Zae (i64 me)::Zab::Zae (i64 fr)::Zaf 0 0::Zaf 1 0::bds 3 (Zaf 2 0::Zag (Qz2 s)::bds 72 (Zae (Zan 31 (rowsN (Zau s)))::Zae (i64 ((Zaa (Zau s):Nat):Int))::Zae (i64 (Zad .i64 (i+1)))::bds 49 []))) (Qz35 ly t cs) b) False) (∃(cs7:List AV) (s8:SideT) (ly9:LayT) (t10:TabT) (n11:NearT) (me12:Int) (fr13:Int) (i14:Int) (ak15:List AskT) (q16:TabT),Zat lpG3=Zat lpG3∧(Zab::Zab::Zae (i64 me)::Zab::Zae (i64 fr)::Zaf 0 0::Zaf 1 0::bds 3 (Zaf 2 0::Zag (Qz2 s)::bds 6 (Zaf 4 0::bds 65 (Zae (Zan 31 (rowsN (Zau s)))::Zae (i64 ((Zaa (Zau s):Nat):Int))::Zae (i64 i)::bds 9 (Zae (Zan 3 (rowsA (Zer n0)))::Zae (i64 ((Zaa (rowsA (Zer n0)):Nat):Int))::Zae (i64 0)::bds 37 [])))))=(Zab::Zab::Zae (i64 me12)::Zab::Zae (i64 fr13)::Zaf 0 0::Zaf 1 0::bds 3 (Zaf 2 0::Zag (Qz2 s8)::bds 6 (Zaf 4 0::bds 65 (Zae (Zan 31 (rowsN (Zau s8)))::Zae (i64 ((Zaa (Zau s8):Nat):Int))::Zae (i64 i14)::bds 9 (Zae (Zan 3 (rowsA ak15))::Zae (i64 ((Zaa ak15:Nat):Int))::Zae (i64 0)::bds 37 [])))))∧(Qz18 ly t cs n0)=(Qz18 ly9 t10 cs7 n11)∧(lows 5 cs7=true∧(Zaa (Zau s8)≤9223372036854775807∧(∀(x:NearT),x∈Zau s8→AAy9 x)∧layOk (Zcg s8)=true)∧TabOk t10∧Zaa ak15<1000000∧q16=List.foldl (AAr9 s8 ly9 me12 fr13 n11) t10 ak15)∧BIf (Zbk (Qz35 ly9 q16 cs7) fun (blk17:Blk)=>lows 4 blk17.1) (K .normal (Zab::Zab::Zae (i64 me12)::Zab::Zae (i64 fr13)::Zaf 0 0::Zaf 1 0::bds 3 (Zaf 2 0::Zag (Qz2 s8)::bds 72 (Zae (Zan 31 (rowsN (Zau s8)))::Zae (i64 ((Zaa (Zau s8):Nat):Int))::Zae (i64 (Zad .i64 (i14+1)))::bds 49 []))) (Qz35 ly9 q16 cs7) b) False)) False) (BIf (Zbk (Qz35 ly t cs) fun (blk18:Blk)=>lows 4 blk18.1) (K (Zbj 2) (Zab::Zab::Zae (i64 me)::Zab::Zae (i64 fr)::Zaf 0 0::Zaf 1 0::bds 3 (Zaf 2 0::Zag (Qz2 s)::bds 72 (Zae (Zan 31 (rowsN (Zau s)))::Zae (i64 ((Zaa (Zau s):Nat):Int))::Zae (i64 i)::bds 49 []))) (Qz35 ly t cs) b) False)):=by kernel_rfl
def AFw9 (s:SideT) (ly:LayT) (me fr:Int) (t:TabT) (n:NearT):TabT:=if ANa9 s n=true then n.ak.foldl (AAr9 s ly me fr n) t else t
theorem BMm9 {s:SideT} {ly:LayT} {me fr:Int} {t:TabT} {n:NearT} (h:TabOk t):TabOk (AFw9 s ly me fr t n):=by
 unfold AFw9;split
 ·exact AWs9 _ h
 ·exact h
theorem AUl9 {s:SideT} {ly:LayT} {me fr:Int}:∀(l:List NearT) {t:TabT},TabOk t→TabOk (l.foldl (AFw9 s ly me fr) t)
 | [],t,h=>h
 |a::l,t,h=>AUl9 l (BMm9 h)
def g2B_3 (ly:LayT) (t:TabT):List Blk:= [layB ly,tabB t,resB]
theorem CGh9 {Ev:Env prog} {b:Ev.β} {Q:Exit→St Ev.β→Prop} (s:SideT) (ly:LayT) (t:TabT) (me fr:Int) (hs:AJh9 s) (hs2:AGm9 s) (ht:TabOk t) (hl:s.ns.length<1000000)
 (hQ:Q (.exit 2) ⟨tmG2 s me fr s.ns.length,g2B_3 ly (s.ns.foldl (AFw9 s ly me fr) t),b⟩):WR Ev lpG2 (s.ns.length+1) ⟨tmG2 s me fr (0:Nat),g2B_3 ly t,b⟩ Q:=by
 refine WR.scanG (X:=⟨TG3, [],BSt9,Ev.Y,false⟩) (k:=100) (L:=3) [2,4,5,6,10,11,84,85,86] mixed (CX.Ok.ofWl BOx9 Zah BKa9) s.ns (fun _=>false) (fun i=>tmG2 s me fr (i:Nat)) (fun i=>g2B_3 ly ((s.ns.take i).foldl (AFw9 s ly me fr) t)) (fun _=>rfl) 2 0 (fun i n _ hi hn K _ k2=> ?_) (fun K k1=> ?_) (fun _=>by rw [Zdd];exact hQ) (fun h=>by simp at h) s.ns.length 0 (by simp) (Zaw _) rfl
 ·have hk:=k2 rfl;have hti:TabOk ((s.ns.take i).foldl (AFw9 s ly me fr) t):=AUl9 _ ht;rw [AFp9 _ _ hn] at hk;generalize (s.ns.take i).foldl (AFw9 s ly me fr) t=ti at hk hti ⊢;have hnl:=hs2.2 n (Zbn hn);refine Eq.mpr (rG2_3 _ _ K s ly ti me fr i) ?_;refine Zaz (by simp;omega) (Zaz (natI i) ⟨_,ABc9 hn,s,n,_,rfl,rfl,Zba (fun h1=> ?_) fun h1=> ?_⟩)
  ·rw [wrapN (by omega)];rw [Zcb] at h1;rw [AFw9,h1,if_neg (by decide)] at hk;exact hk
  ·rw [Zej] at h1;rw [AFw9,h1,if_pos rfl] at hk;refine ⟨s,ly,ti,n,me,fr,i,n.ak,_,rfl, ?_,rfl,⟨hs,hti,hnl.2.2,rfl⟩, ?_⟩
   ·first|rfl|rw [AAn9]
   ·rw [wrapN (by omega)];exact hk
 ·refine Eq.mpr (rG2_3 _ _ K s ly _ me fr s.ns.length) ?_;exact Zda (by simp) k1
def g2B_4 (cs:List AV) (ly:LayT) (t:TabT):List Blk:= [layB ly,tabB t,resB,frozB cs]
theorem CGg9 {Ev:Env prog} {b:Ev.β} {Q:Exit→St Ev.β→Prop} (cs:List AV) (hc4:lows 4 cs=true) (hcs:lows 5 cs=true) (s:SideT) (ly:LayT) (t:TabT) (me fr:Int) (hs:AJh9 s) (hs2:AGm9 s) (ht:TabOk t) (hl:s.ns.length<1000000)
 (hQ:Q (.exit 2) ⟨tmG2 s me fr s.ns.length,g2B_4 cs ly (s.ns.foldl (AFw9 s ly me fr) t),b⟩):WR Ev lpG2 (s.ns.length+1) ⟨tmG2 s me fr (0:Nat),g2B_4 cs ly t,b⟩ Q:=by
 have low:∀t:TabT,Zbk (g2B_4 cs ly t) (fun blk=>lows 4 blk.1)=true:=fun t=>by
  simp only [g2B_4,List.all_cons,List.all_nil,Bool.and_true,Zai];exact ⟨rfl,rfl,rfl,hc4⟩
 refine WR.scanG (X:=⟨TG3, [],BSs9,Ev.Y,false⟩) (k:=100) (L:=4) [2,4,5,6,10,11,84,85,86] mixed (CX.Ok.ofWl BOx9 Zah BJz9) s.ns (fun _=>false) (fun i=>tmG2 s me fr (i:Nat)) (fun i=>g2B_4 cs ly ((s.ns.take i).foldl (AFw9 s ly me fr) t)) (fun _=>rfl) 2 0 (fun i n _ hi hn K _ k2=> ?_) (fun K k1=> ?_) (fun _=>by rw [Zdd];exact hQ) (fun h=>by simp at h) s.ns.length 0 (by simp) (Zaw _) rfl
 ·have hk:=k2 rfl;have hti:TabOk ((s.ns.take i).foldl (AFw9 s ly me fr) t):=AUl9 _ ht;rw [AFp9 _ _ hn] at hk;generalize (s.ns.take i).foldl (AFw9 s ly me fr) t=ti at hk hti ⊢;have hnl:=hs2.2 n (Zbn hn);refine Eq.mpr (rG2_4 _ _ K s ly ti me fr i cs) ?_;refine Zaz (by simp;omega) (Zaz (natI i) ⟨_,ABc9 hn,s,n,_,rfl,rfl,Zba (fun h1=> ?_) fun h1=> ?_⟩)
  ·rw [wrapN (by omega)];rw [Zcb] at h1;rw [AFw9,h1,if_neg (by decide)] at hk;exact Zaz (low _) hk
  ·rw [Zej] at h1;rw [AFw9,h1,if_pos rfl] at hk;refine ⟨cs,s,ly,ti,n,me,fr,i,n.ak,_,rfl, ?_,rfl,⟨hcs,hs,hti,hnl.2.2,rfl⟩, ?_⟩
   ·first|rfl|rw [AAn9]
   ·rw [wrapN (by omega)];exact Zaz (low _) hk
 ·refine Eq.mpr (rG2_4 _ _ K s ly _ me fr s.ns.length cs) ?_;exact Zda (by simp) (Zaz (low _) k1)
def AJe9 (s:SideT) (ly:LayT) (me fr:Int) (t:TabT):TabT:=s.ns.foldl (AFw9 s ly me fr) t
def wlG2 {β:Type}:WLT β:=fun cd tm hp b K=>∃(s:SideT) (ly:LayT) (us:List UseT) (gs:List GraT) (ak:List AskT) (me fr:Int) (q:TabT),cd= .loop lpG2∧AAv9 [2,4,5,6,10,11,84,85,86] 0 tm=tmG2 s me fr 0∧
 (AJh9 s∧AGm9 s∧TabOk ⟨us,gs,ak⟩∧s.ns.length<1000000∧q=AJe9 s ly me fr ⟨us,gs,ak⟩)∧
 match hp with
 | [b0,b1,b2]=>gs= []∧b0=layB ly∧b1=grtB us (.d (.sl 5 [])) ak∧b2=resB∧K (.exit 2) (tmG2 s me fr s.ns.length) [layB ly,tabB q,resB] b
 | [b0,b1,b2,b3]=>b0=layB ly∧b1=grtB us (.gref 3 0 gs.length 5) ak∧b2=resB∧b3=growB 0 (flatA (rowsG gs))∧K (.exit 2) (tmG2 s me fr s.ns.length) [layB ly,tabB q,resB,frozB (flatA (rowsG gs))] b
 |_=>False
theorem CAd9 {Ev:Env prog} (c:Code) (tm:List AV) (hp:List Blk) (b:Ev.β) (K:Exit→List AV→List Blk→Ev.β→Prop) (h:wlG2 c tm hp b K):W Ev c ⟨tm,hp,b⟩ (fun e s=>K e s.tm s.hp s.b):=by
 obtain ⟨s,ly,us,gs,ak,me,fr,q,rfl,htm,⟨hs,hs2,ht,hl,rfl⟩,h⟩:=h;refine W.cast (htm▸AAb9 _ tm 0) (Zbp _) ?_;split at h
 ·obtain ⟨rfl,rfl,rfl,rfl,hK⟩:=h;exact W.rounds (CGh9 (Q:=fun e s=>K e s.tm s.hp s.b) s ly ⟨us, [],ak⟩ me fr hs hs2 ht hl hK)
 ·obtain ⟨rfl,rfl,rfl,rfl,hK⟩:=h;have hsr:SealR [layB ly,grtB us (.gref 3 0 gs.length 5) ak,resB,growB 0 (flatA (rowsG gs))] (.gref 3 0 gs.length 5) (.d (.sl 5 (rowsG gs))):=
   .gref rfl rfl rfl rfl (AAf9 gs) (AQz9 gs)
  refine W.ofFrz (BFi9 (c:=1) (off:=1) (gs:= [3]) rfl rfl hsr (by simp [occ]) rfl rfl) ?_;exact W.rounds (CGg9 (Q:=fun e s=>K e s.tm s.hp s.b) (flatA (rowsG gs)) (ACu9 4 _) (ACu9 5 _) s ly ⟨us,gs,ak⟩ me fr hs hs2 ht hl hK)
 ·exact h.elim
def wlG1 {β:Type}:WLT β:=fun cd tm hp b K=>∃(s:SideT) (ly:LayT) (us:List UseT) (gs q:List GraT) (ak:List AskT) (me fr:Int),cd= .loop lpG1∧
 (AGm9 s∧gs.length<1000000∧q=gs.map (AEm9 s fr))∧
 match hp with
 | [b0,b1,b2]=>gs= []∧AAv9 [2,4,5,6,10,11,43,44,45] 0 tm=tmG1 s me fr (.d (.sl 5 [])) 0 0∧b0=layB ly∧b1=grtB us (.d (.sl 5 [])) ak∧b2=resB∧K (.exit 0) (tmG1 s me fr (.d (.sl 5 [])) 0 0) [layB ly,grtB us (.d (.sl 5 [])) ak,resB] b
 | [b0,b1,b2,b3]=>AAv9 [2,4,5,6,10,11,43,44,45] 0 tm=tmG1 s me fr (.gref 3 0 gs.length 5) gs.length 0∧b0=layB ly∧b1=grtB us (.gref 3 0 gs.length 5) ak∧b2=resB∧b3=growB 0 (flatA (rowsG gs))∧
  K (.exit 0) (tmG1 s me fr (.gref 3 0 q.length 5) q.length q.length) [layB ly,grtB us (.gref 3 0 q.length 5) ak,resB,growB 0 (flatA (rowsG q))] b
 |_=>False
abbrev Qz40 (v0:Int) (v1:Int) (v2:SideT):=Zab::Zab::Zae (i64 v0)::Zab::Zae (i64 v1)::Zaf 0 0::Zaf 1 0::bds 3 (Zaf 2 0::Zag (Qz2 v2)::bds 31 (Zae (Zan 5 [])::Zae (i64 0)::Zae (i64 0)::bds 90 []))
abbrev Qz60 (v0:List UseT) (v1:List AskT):List AV:= [Zae (Zan 4 (rowsU v0)),Zae (Zan 5 []),Zae (Zan 3 (rowsA v1))]
theorem rG1e (s:SideT) (ly:LayT) (us:List UseT) (ak:List AskT) (me fr:Int):wpc prog ⟨TG1,GCG,wl,y,false⟩ 100 lpG1 (tmG1 s me fr (.d (.sl 5 [])) 0 0) [layB ly,grtB us (.d (.sl 5 [])) ak,resB] b (maskK 3 [2,4,5,6,10,11,43,44,45] K)=(K (Zbj 0) (Qz40 me fr s) [Blk.mk (Qz3 ly) false false 0,Blk.mk (Qz60 us ak) false false 0,Blk.mk Qz4 false false 0] b):=by kernel_rfl
theorem CAe9 {Ev:Env prog} (c:Code) (tm:List AV) (hp:List Blk) (b:Ev.β) (K:Exit→List AV→List Blk→Ev.β→Prop) (h:wlG1 c tm hp b K):W Ev c ⟨tm,hp,b⟩ (fun e s=>K e s.tm s.hp s.b):=by
 obtain ⟨s,ly,us,gs,_,ak,me,fr,rfl,⟨hs,hl,rfl⟩,h⟩:=h;split at h
 ·obtain ⟨rfl,htm,rfl,rfl,rfl,hK⟩:=h;refine W.cast (htm▸AAb9 _ tm 0) (Zbp _) ?_;refine W.rounds (m:=1) (Zdj (X:=⟨TG1,GCG,wlW Ev,Ev.Y,false⟩) (k:=100) [2,4,5,6,10,11,43,44,45] mixed (CX.Ok.of CFu9 BBe9) ?_);refine Eq.mpr (rG1e _ _ _ _ s ly us ak me fr) ?_;exact hK
 ·obtain ⟨htm,rfl,rfl,rfl,rfl,hK⟩:=h;refine W.cast (htm▸AAb9 _ tm 0) (Zbp _) ?_;have e0:curG s fr gs 0=gs:=by simp [curG]
  have e1:curG s fr gs gs.length=gs.map (AEm9 s fr):=by simp [curG]
  have:=wrG1 (Ev:=Ev) (b:=b) (Q:=fun e s=>K e s.tm s.hp s.b) s ly us ak me fr gs hs hl (by rw [e1];simpa [g1B] using hK);rw [e0] at this;exact W.rounds this
 ·exact h.elim
def wlGr2 {β:Type}:WLT β:=fun cd tm hp b K=>match cidO cd with
 |8=>wlG1 cd tm hp b K
 |15=>wlG2 cd tm hp b K
 |_=>False
theorem BSr9 {Ev:Env prog} (c:Code) (tm:List AV) (hp:List Blk) (b:Ev.β) (K:Exit→List AV→List Blk→Ev.β→Prop) (h:wlGr2 c tm hp b K):W Ev c ⟨tm,hp,b⟩ (fun e s=>K e s.tm s.hp s.b):=by
 unfold wlGr2 at h;split at h
 ·exact CAe9 c tm hp b K h
 ·exact CAd9 c tm hp b K h
 ·exact h.elim
def TGf:List (Nat×(List AV→(AV→Prop)→Prop)):= [(35,cNew),(47,BQp9)]
theorem CIx9:AAc9 prog TGf:=Zaj BGx9 (Zaj BHr9 Zak)
def UGf:List (Nat×(List AV→List Blk→(AV→List Blk→Prop)→Prop)):= [(48,BDh9),(1000059,fun _ _ _=>False)]
theorem CIc9:AAl9 prog UGf:=Zbr AQx9 BBe9
abbrev Qz16 (v0:LayT) (v1:TabT) (v2:Int) (v3:List NearT) (v4:Int):List AV:= [Zaq (Qz3 v0),Zaq (Qz1 v1),Zae (i64 v2),Zae (Zan 31 (rowsN v3)),Zae (i64 v4)]
abbrev Qz54 (v0:Int) (v1:Int) (v2:SideT) (v3:List GraT):=Zab::Zab::Zae (i64 v0)::Zab::Zae (i64 v1)::Zaf 0 0::Zaf 1 0::bds 3 (Zaf 2 0::Zag (Qz2 v2)::bds 31 (Zbl 3 0 (Zaa v3) 5::Zae (i64 ((Zaa v3:Nat):Int))::Zae (i64 0)::bds 90 []))
abbrev Qz81 (v0:List UseT) (v1:List GraT) (v2:List AskT):List AV:= [Zae (Zan 4 (rowsU v0)),Zbl 3 0 (Zaa v1) 5,Zae (Zan 3 (rowsA v2))]
theorem BVx9 (ly:LayT) (t:TabT) (me:Int) (l:List NearT) (fr:Int):wpFn prog ⟨TGf,UGf,wlGr2,y,false⟩ 100 f13 [layA ly,tabA t, .d (i64 me), .d (.sl 31 (rowsN l)), .d (i64 fr)] b R=(∃(ly0:LayT) (t1:TabT) (me2:Int) (l3:List NearT) (fr4:Int) (s5:SideT) (q6:Bool),(Qz16 ly t me l fr)=(Qz16 ly0 t1 me2 l3 fr4)∧(TabOk t1∧Zaa l3<1000000∧(∀(x:NearT),x∈l3→ACf9 x)∧q6=newS ly0 t1 me2 l3 fr4∧s5=sideS ly0 me2 l3 fr4)∧BIf q6 (∃(t7:TabT) (z8:TabT) (fr9:Int), [Zaq (Qz1 t),Zae (i64 fr)]= [Zaq (Qz1 t7),Zae (i64 fr9)]∧(TabLt t7∧z8=AEc9 t7 fr9)∧∃(hs10:List GraT), [Zae (Zan 5 (rowsG (Zdb z8)))]= [Zae (Zan 5 (rowsG hs10))]∧Zaa hs10≤1000000∧BIf (Zfw hs10) (∃(s11:SideT) (ly12:LayT) (us13:List UseT) (gs14:List GraT) (q15:List GraT) (ak16:List AskT) (me17:Int) (fr18:Int),Zat lpG1=Zat lpG1∧((Zaa (Zau s11)≤9223372036854775807∧∀(x:NearT),x∈Zau s11→Zaa (Zcp x)<1000000∧Zaa (Zck x)<1000000∧Zaa (Zer x)<1000000)∧Zaa gs14<1000000∧q15=List.map (AEm9 s11 fr18) gs14)∧gs14= []∧(Qz40 me fr s5)=(Qz40 me17 fr18 s11)∧Blk.mk (Qz3 ly) false false 0=Blk.mk (Qz3 ly12) false false 0∧Blk.mk [Zae (Zan 4 (rowsU (Zdl z8))),Zae (Zan 5 []),Zae (Zan 3 (rowsA (Zdh z8)))] false false 0=Blk.mk (Qz60 us13 ak16) false false 0∧Blk.mk Qz4 false false 0=Blk.mk Qz4 false false 0∧∃(s19:SideT) (ly20:LayT) (us21:List UseT) (gs22:List GraT) (ak23:List AskT) (me24:Int) (fr25:Int) (q26:TabT),Zat lpG2=Zat lpG2∧(Zab::Zab::Zae (i64 me17)::Zab::Zae (i64 fr18)::Zaf 0 0::Zaf 1 0::bds 3 (Zaf 2 0::Zag (Qz2 s11)::bds 72 (Zae (Zan 31 (rowsN (Zau s11)))::Zae (i64 ((Zaa (rowsN (Zau s11)):Nat):Int))::Zae (i64 0)::bds 49 [])))=(Zab::Zab::Zae (i64 me24)::Zab::Zae (i64 fr25)::Zaf 0 0::Zaf 1 0::bds 3 (Zaf 2 0::Zag (Qz2 s19)::bds 72 (Zae (Zan 31 (rowsN (Zau s19)))::Zae (i64 ((Zaa (Zau s19):Nat):Int))::Zae (i64 0)::bds 49 [])))∧((Zaa (Zau s19)≤9223372036854775807∧(∀(x:NearT),x∈Zau s19→AAy9 x)∧layOk (Zcg s19)=true)∧(Zaa (Zau s19)≤9223372036854775807∧∀(x:NearT),x∈Zau s19→Zaa (Zcp x)<1000000∧Zaa (Zck x)<1000000∧Zaa (Zer x)<1000000)∧TabOk (TabT.mk us21 gs22 ak23)∧Zaa (Zau s19)<1000000∧q26=AJe9 s19 ly20 me24 fr25 (TabT.mk us21 gs22 ak23))∧gs22= []∧Blk.mk (Qz3 ly12) false false 0=Blk.mk (Qz3 ly20) false false 0∧Blk.mk (Qz60 us13 ak16) false false 0=Blk.mk (Qz60 us21 ak23) false false 0∧Blk.mk Qz4 false false 0=Blk.mk Qz4 false false 0∧R (.agg (Qz1 q26)) b) (0=0∧∃(s27:SideT) (ly28:LayT) (us29:List UseT) (gs30:List GraT) (q31:List GraT) (ak32:List AskT) (me33:Int) (fr34:Int),Zat lpG1=Zat lpG1∧((Zaa (Zau s27)≤9223372036854775807∧∀(x:NearT),x∈Zau s27→Zaa (Zcp x)<1000000∧Zaa (Zck x)<1000000∧Zaa (Zer x)<1000000)∧Zaa gs30<1000000∧q31=List.map (AEm9 s27 fr34) gs30)∧(Qz54 me fr s5 hs10)=(Qz54 me33 fr34 s27 gs30)∧Blk.mk (Qz3 ly) false false 0=Blk.mk (Qz3 ly28) false false 0∧Blk.mk [Zae (Zan 4 (rowsU (Zdl z8))),Zbl 3 0 (Zaa hs10) 5,Zae (Zan 3 (rowsA (Zdh z8)))] false false 0=Blk.mk (Qz81 us29 gs30 ak32) false false 0∧Blk.mk Qz4 false false 0=Blk.mk Qz4 false false 0∧Blk.mk (flatA (rowsG hs10)) false true 0=Blk.mk (flatA (rowsG gs30)) false true 0∧∃(s35:SideT) (ly36:LayT) (us37:List UseT) (gs38:List GraT) (ak39:List AskT) (me40:Int) (fr41:Int) (q42:TabT),Zat lpG2=Zat lpG2∧(Zab::Zab::Zae (i64 me33)::Zab::Zae (i64 fr34)::Zaf 0 0::Zaf 1 0::bds 3 (Zaf 2 0::Zag (Qz2 s27)::bds 72 (Zae (Zan 31 (rowsN (Zau s27)))::Zae (i64 ((Zaa (rowsN (Zau s27)):Nat):Int))::Zae (i64 0)::bds 49 [])))=(Zab::Zab::Zae (i64 me40)::Zab::Zae (i64 fr41)::Zaf 0 0::Zaf 1 0::bds 3 (Zaf 2 0::Zag (Qz2 s35)::bds 72 (Zae (Zan 31 (rowsN (Zau s35)))::Zae (i64 ((Zaa (Zau s35):Nat):Int))::Zae (i64 0)::bds 49 [])))∧((Zaa (Zau s35)≤9223372036854775807∧(∀(x:NearT),x∈Zau s35→AAy9 x)∧layOk (Zcg s35)=true)∧(Zaa (Zau s35)≤9223372036854775807∧∀(x:NearT),x∈Zau s35→Zaa (Zcp x)<1000000∧Zaa (Zck x)<1000000∧Zaa (Zer x)<1000000)∧TabOk (TabT.mk us37 gs38 ak39)∧Zaa (Zau s35)<1000000∧q42=AJe9 s35 ly36 me40 fr41 (TabT.mk us37 gs38 ak39))∧Blk.mk (Qz3 ly28) false false 0=Blk.mk (Qz3 ly36) false false 0∧Blk.mk (Qz81 us29 q31 ak32) false false 0=Blk.mk (Qz81 us37 gs38 ak39) false false 0∧Blk.mk Qz4 false false 0=Blk.mk Qz4 false false 0∧Blk.mk (flatA (rowsG q31)) false true 0=Blk.mk (flatA (rowsG gs38)) false true 0∧R (.agg (Qz1 q42)) b)) (R (.agg (Qz1 t)) b)):=by kernel_rfl
theorem AOm9 {ly:LayT} {me:Int} {l:List NearT} {fr:Int} (hl:l.length<1000000) (hx:∀x∈l,ACf9 x):AGm9 (sideS ly me l fr):=by
 refine ⟨by simp [sideS];omega,fun x h=> ?_⟩;simp only [sideS,Zbg] at h;obtain ⟨n,hn,rfl⟩:=h;obtain ⟨h1,h2,h3⟩:=hx n hn;refine ⟨Zdz (Zfz _ _) h1,Zdz (Zfz _ _) h2,Zdz (Zfz _ _) h3⟩
theorem BDc9 {ly:LayT} {me:Int} {l:List NearT} {fr:Int} (hl:l.length<1000000) (hx:∀x∈l,ACf9 x) (hv:(1≤ly.no∧ly.no≤60)∧(1≤ly.da∧ly.da≤60)):AJh9 (sideS ly me l fr):=by
 obtain ⟨h1,h2⟩:=AOm9 (ly:=ly) (me:=me) (fr:=fr) hl hx;refine ⟨h1,fun x h=> ?_, ?_⟩
 ·obtain ⟨g1,g2,g3⟩:=h2 x h;exact ⟨by omega,by omega,by omega⟩
 ·obtain ⟨⟨g1,g2⟩,g3,g4⟩:=hv;simp only [layOk,sideS,Zai];exact ⟨decide_eq_true g1,decide_eq_true g2,decide_eq_true g3,decide_eq_true g4⟩
def AGf9 (ly:LayT) (t:TabT) (me:Int) (l:List NearT) (fr:Int):TabT:=
 if newS ly t me l fr=true then AJe9 (sideS ly me l fr) ly me fr ⟨t.us,(AEc9 t fr).gs.map (AEm9 (sideS ly me l fr) fr),t.ak⟩ else t
theorem AEa9 {ly:LayT} {t:TabT} {me:Int} {l:List NearT} {fr:Int} (h:newS ly t me l fr=true):ACq9 t ly=true:=by
 rw [newS,Zai] at h;exact h.1
theorem CCn9 (ly:LayT) (t:TabT) (me:Int) (l:List NearT) (fr:Int) (ht:TabOk t) (hl:l.length<1000000) (hx:∀x∈l,ACf9 x):
 PCall prog 13 [layA ly,tabA t, .d (i64 me), .d (.sl 31 (rowsN l)), .d (i64 fr)] (tabA (AGf9 ly t me l fr)):=by
 refine PCall.ofFnW (n:=100) (u:=false) (fun _=>wlGr2) mixed CIx9 CIc9 (fun Ev=>BSr9) func13 (by rfl) (by rfl) fun Ev bb=> ?_;rw [BVx9];have ht':TabLt t:=⟨by have:=ht.1;omega,by have:=ht.2.1;omega,by have:=ht.2.2;omega⟩;refine ⟨ly,t,me,l,fr,_,_,rfl,⟨ht,hl,hx,rfl,rfl⟩,Zba (fun h1=> ?_) fun h1=> ?_⟩
 ·have hv:=ACa9 (AEa9 h1);have s1:=BDc9 (me:=me) (fr:=fr) hl hx hv;have s2:=AOm9 (ly:=ly) (me:=me) (fr:=fr) hl hx;have hgl:(AEc9 t fr).gs.length<10000:=Zdz (Zfz _ _) ht.2.1;have hnl:(sideS ly me l fr).ns.length<1000000:=by simpa [sideS] using hl
  rw [AGf9,if_pos h1];refine ⟨t,_,fr,rfl,⟨ht',rfl⟩,(AEc9 t fr).gs,rfl,by omega,Zba (fun h2=> ?_) fun h2=> ?_⟩
  ·have h3:(AEc9 t fr).gs= []:=List.isEmpty_iff.1 h2;refine ⟨sideS ly me l fr,ly,t.us, [],_,t.ak,me,fr,rfl,⟨s2,by decide,rfl⟩,rfl, ?_,rfl,rfl,rfl,sideS ly me l fr,ly,t.us, [],t.ak,me,fr,_,rfl, ?_,⟨s1,s2,⟨ht.1,by simp,ht.2.2⟩,hnl,rfl⟩,rfl,rfl,rfl,rfl, ?_⟩
   ·rfl
   ·rw [ABm9]
   ·rw [h3];rfl
  ·refine ⟨rfl,sideS ly me l fr,ly,t.us,(AEc9 t fr).gs,_,t.ak,me,fr,rfl,⟨s2,by omega,rfl⟩,rfl,rfl,rfl,rfl,rfl,sideS ly me l fr,ly,t.us,(AEc9 t fr).gs.map (AEm9 (sideS ly me l fr) fr),t.ak,me,fr,_,rfl, ?_,⟨s1,s2,⟨ht.1, ?_,ht.2.2⟩,hnl,rfl⟩,rfl,rfl,rfl,rfl, ?_⟩
   ·rw [ABm9]
   ·rw [List.length_map];exact hgl
   ·rfl
 ·have h1':¬newS ly t me l fr=true:=by rw [h1];decide
  rw [AGf9,if_neg h1'];rfl
def CEt9 (args:List AV) (K:AV→Prop):Prop:=∃(ly:LayT) (t q:TabT) (me:Int) (l:List NearT) (fr:Int),args= [layA ly,tabA t, .d (i64 me), .d (.sl 31 (rowsN l)), .d (i64 fr)]∧(TabOk t∧l.length<1000000∧(∀x∈l,ACf9 x)∧q=AGf9 ly t me l fr)∧K (tabA q)
theorem AXn9:∀args K,CEt9 args K→∃x,PCall prog 13 args x∧K x:=by
 rintro _ K ⟨ly,t,_,me,l,fr,rfl,⟨ht,hl,hx,rfl⟩,hk⟩;exact ⟨_,CCn9 ly t me l fr ht hl hx,hk⟩
open Go.Maps (Keyed)
variable {β:Type} (wl:WLT β) (y:ACw9 β) (b:β) (R:AV→β→Prop) (Kr:AV→List Blk→β→Prop) (K:Exit→List AV→List Blk→β→Prop) (Kh:Exit→List Blk→β→Prop) (Q:β→Prop)
abbrev Prs:=List Int
def hasP (k:Int) (ts:Prs):Bool:=ts.any fun p=>p==k
def insQ (h:Int):Prs→Prs
 | []=> [h]
 |x::r=>if h<x then h::x::r else x::insQ h r
def putP (h:Int) (ts:Prs):Prs:=insQ h (ts.filter fun x=> !(x==h))
def entP (ts:Prs):MC:=ts.map fun h=>(Lit.int .i64 h,Zae (bo true))
abbrev PrsG:=Option (Nat×Prs)
def prF:PrsG→List MapC
 |none=> []
 |some (d,ts)=> [⟨d,3,entP ts⟩]
structure NoP (g:PrsG):Prop where
 e:g=none
theorem CDy9 (k:Int) (ts:Prs):atK (Lit.int .i64 k) (.d (bo false)) (entP ts)= .d (bo (hasP k ts)):=by
 induction ts with
 |nil=>rfl
 | cons h t ih=>
  simp only [atK,entP,hasP,Zdn,List.find?_cons,List.any_cons,ADt9] at ih ⊢;cases h==k
  ·exact ih
  ·rfl
theorem BWl9 (k:Int) (ts:Prs):delK (Lit.int .i64 k) (entP ts)=entP (ts.filter fun x=> !(x==k)):=by
 simp only [delK,entP,List.filter_map];congr 1;apply List.filter_congr;intro x _;simp only [Function.comp,ADt9]
theorem BWk9 (h:Int) (ts:Prs):insK (Lit.int .i64 h, .d (bo true)) (entP ts)=entP (insQ h ts):=by
 induction ts with
 |nil=>rfl
 | cons x t ih=>
  simp only [entP,Zdn,insK,insQ,Lit.before] at ih ⊢;by_cases hx:h<x
  ·simp [hx]
  ·simp [hx,ih]
theorem BWj9 (h:Int) (ts:Prs):putK (Lit.int .i64 h) (.d (bo true)) (entP ts)=entP (putP h ts):=by
 rw [putK,BWl9,BWk9];rfl
theorem BVp9 (h:Int) (l:Prs):(insQ h l).length=l.length+1:=by
 induction l with
 |nil=>rfl
 |cons x r ih=>simp only [insQ];split<;>simp [ih]
theorem BTs9 (h:Int) (ts:Prs):(putP h ts).length≤ts.length+1:=by
 rw [putP,BVp9];exact Nat.succ_le_succ (Zfz _ _)
theorem BCs9:Tryz.prog.underlying 108=some (.map 3 4):=by kernel_rfl
theorem zero4 (w:World):(zeroValue 4).run prog w= .ok (.bool false) w:=by rfl
theorem BRv9 (S:Pr) (w:World):RV S w [] none (.d (bo false)) (.bool false):= .d (.s _)
noncomputable def prM:MHook PrsG:=fun o s g K=>match o.op with
 | .makeMap t none=>some (NoP g∧t=108∧∀d,K {tm:=putA s.tm o.dst (mapA d),hp:=s.hp,pv:=pvPut s.pv o.dst} (some (d, [])))
 | .lookup t m x false=>some (t=108∧∃(d:Nat) (ts:Prs) (k:Int) (v:Bool),g=some (d,ts)∧evalA s.tm m=mapA d∧evalA s.tm x= .d (i64 k)∧InI k∧v=hasP k ts∧
  K {tm:=putA s.tm o.dst (.d (bo v)),hp:=s.hp,pv:=pvPut s.pv o.dst} g)
 | .mapUpdate t m x v=>some (t=108∧∃(d:Nat) (ts ts':Prs) (k:Int),g=some (d,ts)∧evalA s.tm m=mapA d∧evalA s.tm x= .d (i64 k)∧evalA s.tm v= .d (bo true)∧InI k∧ts.length<1000000∧ts'=putP k ts∧
  K {tm:=putA s.tm o.dst (.d (.s undef)),hp:=s.hp,pv:=pvPut s.pv o.dst} (some (d,ts')))
 |_=>none
theorem CBy9 {d:Nat} {ts:Prs}:(⟨d,3,entP ts⟩:MapC)∈prF (some (d,ts)):=by simp [prF]
abbrev EvP (N:Nat) (w0:World) (lent:List Nat):Env prog:=Env.mapped prog none N w0 lent prF
theorem CGr9 (N:Nat) (w0:World) (lent:List Nat):MOk (EvP N w0 lent) prM:=by
 intro o s g K p hp h;unfold prM at hp;split at hp
 ·rename_i t ho;cases hp;obtain ⟨⟨rfl⟩,rfl,hk⟩:=h;refine ⟨_,ANq9 (g:=none) (mk:=fun d=>some (d, [])) (k:=3) ho (fun d=>rfl), ?_⟩;rintro s' b' ⟨d,rfl,rfl⟩;exact hk d
 ·rename_i t m x ho;cases hp;obtain ⟨rfl,d,ts,k,_,rfl,hm,hx,hi,rfl,hk⟩:=h;refine ⟨_,ASc9 (g:=some (d,ts)) (c:=⟨d,3,entP ts⟩) (z:= .d (bo false)) ho CBy9 hm (key:= .int .i64 k) (by rw [hx];rfl) AUe9 BCs9 (key3 hi) zero4 BRv9 (by rfl), ?_⟩;rintro s' b' ⟨rfl,rfl⟩;simp only [Zee,if_false,CDy9] at hk ⊢;exact hk
 ·rename_i t m x v ho;cases hp;obtain ⟨rfl,d,ts,_,k,rfl,hm,hx,hv,hi,hl,rfl,hk⟩:=h;refine ⟨_,AJo9 (g:=some (d,ts)) (g':=some (d,putP k ts)) (l1:= []) (l2:= []) (c:=⟨d,3,entP ts⟩) ho rfl hm (key:= .int .i64 k) (by rw [hx];rfl) AUe9 BCs9 (key3 hi) (by simp [entP,maxLen];omega) (by rw [hv];rfl) ?_, ?_⟩
  ·rw [hv];simp only [prF,List.nil_append];rw [show (Zae (bo true)).view=Zae (bo true) from rfl,BWj9]
  ·rintro s' b' ⟨rfl,rfl⟩;exact hk
 ·cases hp
def TTm:List (Nat×(List AV→(AV→Prop)→Prop)):= [(4000004,cNone),(4000008,cNone),(4000014,cNone),(4000026,cNone),(35,cNew),(37,cFind),(53,BHo9),(56,cAddU)]
theorem BYe9:AAc9 prog TTm:=Zaj (ABy9 _) (Zaj (ABy9 _) (Zaj (ABy9 _) (Zaj (ABy9 _) (Zaj BGx9 (Zaj AVd9 (Zaj BAo9 (Zaj BXw9 Zak)))))))
def UTm:List (Nat×(List AV→List Blk→(AV→List Blk→Prop)→Prop)):= [(54,lendC AXi9)]
theorem CFh9:AAl9 prog UTm:=Zbr (AFk9 AUz9) Zah
noncomputable def wlTm (wl:WLT PrsG):WLT PrsG:=wlM prog ⟨TTm, [],fun _ _ _ _ _=>False,fun _ _ _=>False,false⟩ prM wl
theorem BPb9 {N:Nat} {w0:World} {lent:List Nat} {wl:WLT PrsG} (hwl:∀c tm hp b K,wl c tm hp b K→W (EvP N w0 lent) c ⟨tm,hp,b⟩ (fun e s=>K e s.tm s.hp s.b)):∀c tm hp b K,wlTm wl c tm hp b K→W (EvP N w0 lent) c ⟨tm,hp,b⟩ (fun e s=>K e s.tm s.hp s.b):=
 BSo9 (Ev:=EvP N w0 lent) mixed (CX.Ok.ofWl (Ev:=EvP N w0 lent) BYe9 Zah fun _ _ _ _ _ h=>h.elim) (CGr9 N w0 lent) hwl
theorem AOg9 {N:Nat} {w0:World} {lent:List Nat} {wl:WLT PrsG} (hwl:∀c tm hp b K,wl c tm hp b K→W (EvP N w0 lent) c ⟨tm,hp,b⟩ (fun e s=>K e s.tm s.hp s.b)):CX.Ok (EvP N w0 lent) ⟨TTm,UTm,wlTm wl,fun _ _ _=>False,false⟩:=
 CX.Ok.ofWl (Ev:=EvP N w0 lent) BYe9 CFh9 (BPb9 hwl)
def wlNil:WLT PrsG:=fun _ _ _ _ _=>False
noncomputable def lpT1:Code:=sub [1,1,1,1,0,1,2,3] (code f14)
noncomputable def lpT2:Code:=sub [1,1,1,1,1,1,0,1,2,3] (code f14)
noncomputable def lpT4:Code:=sub [1,1,1,1,1,1,1,1,0,1,2,3,1,1,0,2,1,1,1,2,3] (code f14)
noncomputable def lpT3:Code:=sub [1,1,1,1,1,1,1,1,0,1,2,3] (code f14)
def tmT (s:SideT) (d:Nat) (x:AV):List AV:= [.bad, .bad, .bad, .bad, .bad, .ptr 0 0, .ptr 1 0, .bad, .bad, .bad, .ptr 2 0, .rptr (sideD s), .bad,mapA d, .bad, .bad,x]
def tmT1 (s:SideT) (d:Nat) (l:List AskT) (i:Int):List AV:=tmT s d .bad++Zap 26 .bad++ [.d (.sl 3 (rowsA l)), .d (i64 l.length), .d (i64 i)]++Zap 88 .bad
def tmT2 (s:SideT) (d:Nat) (xs:List (List Dv)) (l:List UseT) (i:Int):List AV:=tmT s d (.own 61 4 xs)++Zap 37 .bad++ [.d (.sl 4 (rowsU l)), .d (i64 l.length), .d (i64 i)]++Zap 77 .bad
def tmT3 (s:SideT) (d:Nat) (i:Int):List AV:=tmT s d .bad++Zap 77 .bad++ [.d (.sl 31 (rowsN s.ns)), .d (i64 s.ns.length), .d (i64 i)]++Zap 37 .bad
def tmT4 (s:SideT) (d:Nat) (i:Int) (l:List GraT) (j:Int):List AV:=tmT s d .bad++Zap 7 .bad++ [.ptr 3 0]++Zap 69 .bad++ [.d (.sl 31 (rowsN s.ns)), .d (i64 s.ns.length), .d (i64 i)]++Zap 11 .bad++ [.d (.sl 5 (rowsG l)), .d (i64 l.length), .d (i64 j)]++Zap 23 .bad
section
variable (K:Exit→List AV→List Blk→PrsG→Prop)
theorem rT1 (s:SideT) (ly:LayT) (t:TabT) (d:Nat) (ts:Prs) (l:List AskT) (i:Int):wpc prog ⟨TTm,UTm,wlTm wlNil,fun _ _ _=>False,false⟩ 100 lpT1 (tmT1 s d l i) [layB ly,tabB t,resB] (some (d,ts)) (maskK 3 [5,6,10,11,13,43,44,45] K)=(BIf (decide (i<((Zaa l:Nat):Int))) (BIf (true&&decide (0≤i)) (∃(x0:Int) (x1:Int) (x2:Int),(rowsA l)[Zam i]? =some [i64 x0,i64 x1,i64 x2]∧108=108∧∃(d5:Nat) (ts6:Prs) (ts7:Prs) (k8:Int),some (d,ts)=some (d5,ts6)∧Zae (Zdy (Zbm (some d)))=Zae (Zdy (Zbm (some d5)))∧Zae (i64 x2)=Zae (i64 k8)∧Zae (bo true)=Zae (bo true)∧InI k8∧Zaa ts6<1000000∧ts7=putP k8 ts6∧K .normal (bds 5 (Zaf 0 0::Zaf 1 0::bds 3 (Zaf 2 0::Zag (Qz2 s)::Zab::Zae (Zdy (Zbm (some d)))::bds 29 (Zae (Zan 3 (rowsA l))::Zae (i64 ((Zaa l:Nat):Int))::Zae (i64 (Zad .i64 (i+1)))::bds 88 [])))) (Qz19 ly t) (some (d5,ts7))) False) (K (Zbj 0) (bds 5 (Zaf 0 0::Zaf 1 0::bds 3 (Zaf 2 0::Zag (Qz2 s)::Zab::Zae (Zdy (Zbm (some d)))::bds 29 (Zae (Zan 3 (rowsA l))::Zae (i64 ((Zaa l:Nat):Int))::Zae (i64 i)::bds 88 [])))) (Qz19 ly t) (some (d,ts)))):=by kernel_rfl
theorem rT2 (s:SideT) (ly:LayT) (t:TabT) (d:Nat) (ts:Prs) (xs:List (List Dv)) (l:List UseT) (i:Int):wpc prog ⟨TTm,UTm,wlTm wlNil,fun _ _ _=>False,false⟩ 100 lpT2 (tmT2 s d xs l i) [layB ly,tabB t,resB] (some (d,ts)) (maskK 3 [5,6,10,11,13,16,54,55,56] K)=(BIf (decide (i<((Zaa l:Nat):Int))) (BIf (true&&decide (0≤i)) (∃(x0:Int) (x1:Int) (x2:Int) (x3:Int),(rowsU l)[Zam i]? =some [i64 x0,i64 x1,i64 x2,i64 x3]∧108=108∧∃(d6:Nat) (ts7:Prs) (ts8:Prs) (k9:Int),some (d,ts)=some (d6,ts7)∧Zae (Zdy (Zbm (some d)))=Zae (Zdy (Zbm (some d6)))∧Zae (i64 x2)=Zae (i64 k9)∧Zae (bo true)=Zae (bo true)∧InI k9∧Zaa ts7<1000000∧ts8=putP k9 ts7∧∃(s10:SideT) (pe11:Int) (q12:NearT) (e13:Bool), [Zag (Qz2 s),Zae (i64 x2)]= [Zag (Qz2 s10),Zae (i64 pe11)]∧(Zaa (Zau s10)≤9223372036854775807∧q12=nearO (sFind s10 pe11)∧e13=Option.isSome (sFind s10 pe11))∧∃(s14:SideT) (n15:NearT) (q16:List GraT), [Zag (Qz2 s),nearA q12]= [Zag (Qz2 s14),nearA n15]∧(Zaa (Zck n15)<1000000∧q16=AEb9 s14 n15)∧∃(l17:List GraT) (u18:UseT) (q19:Int), [Zae (Zan 5 (rowsG q16)),Zax (Fn.func 55) [] [Zag [i64 x0,i64 x1,i64 x2,i64 x3]]]= [Zae (Zan 5 (rowsG l17)),Zax (Fn.func 55) [] [Zag (Qz14 u18)]]∧(Zaa l17≤9223372036854775807∧q19=idxS (fun (x20:GraT)=>GraT.sl x20==UseT.sl u18&&GraT.of x20==UseT.of u18) l17)∧BIf (decide (q19≥(0:Int))) (BIf (true&&decide (0≤q19)) (∃(x21:Int) (x22:Int) (x23:Int) (x24:Int) (x25:Int),(rowsG q16)[Zam q19]? =some (Qz41 x21 x22 x23 x24 x25)∧BIf (true&&decide ((Zaa xs+1)*32≤140737488355328)) (K .normal (bds 5 (Zaf 0 0::Zaf 1 0::bds 3 (Zaf 2 0::Zag (Qz2 s)::Zab::Zae (Zdy (Zbm (some d)))::Zab::Zab::AV.own 61 4 (xs++ [[i64 x0,i64 x1,i64 x2,i64 x24]])::bds 37 (Zae (Zan 4 (rowsU l))::Zae (i64 ((Zaa l:Nat):Int))::Zae (i64 (Zad .i64 (i+1)))::bds 77 [])))) (Qz19 ly t) (some (d6,ts8))) False) False) (K .normal (bds 5 (Zaf 0 0::Zaf 1 0::bds 3 (Zaf 2 0::Zag (Qz2 s)::Zab::Zae (Zdy (Zbm (some d)))::Zab::Zab::AV.own 61 4 xs::bds 37 (Zae (Zan 4 (rowsU l))::Zae (i64 ((Zaa l:Nat):Int))::Zae (i64 (Zad .i64 (i+1)))::bds 77 [])))) (Qz19 ly t) (some (d6,ts8)))) False) (K (Zbj 2) (bds 5 (Zaf 0 0::Zaf 1 0::bds 3 (Zaf 2 0::Zag (Qz2 s)::Zab::Zae (Zdy (Zbm (some d)))::Zab::Zab::AV.own 61 4 xs::bds 37 (Zae (Zan 4 (rowsU l))::Zae (i64 ((Zaa l:Nat):Int))::Zae (i64 i)::bds 77 [])))) (Qz19 ly t) (some (d,ts)))):=by kernel_rfl
theorem rT4 (s:SideT) (ly:LayT) (t:TabT) (n:NearT) (d:Nat) (ts:Prs) (i:Int) (l:List GraT) (j:Int):wpc prog ⟨TTm,UTm,wlTm wlNil,fun _ _ _=>False,false⟩ 100 lpT4 (tmT4 s d i l j) [layB ly,tabB t,resB,nearB n] (some (d,ts)) (maskK 4 [5,6,10,11,13,24,94,95,96,108,109,110] K)=(BIf (decide (j<((Zaa l:Nat):Int))) (BIf (true&&decide (0≤j)) (∃(x0:Int) (x1:Int) (x2:Int) (x3:Int) (x4:Int),(rowsG l)[Zam j]? =some (Qz41 x0 x1 x2 x3 x4)∧∃(t7:TabT) (z8:TabT) (ly9:LayT) (u10:UseT) (e11:Int), [Zaq (Qz1 t),Zaq (Qz3 ly),Zaq [Zae (i64 x0),Zae (i64 x1),Zae (i64 (Zdm n)),Zae (i64 x3)]]= [Zaq (Qz1 t7),Zaq (Qz3 ly9),Zaq (Qz7 u10)]∧(TabOk t7∧z8=addSU t7 ly9 u10∧e11=refEU t7 ly9 u10)∧BIf (e11==(0:Int)) (K .normal (bds 5 (Zaf 0 0::Zaf 1 0::bds 3 (Zaf 2 0::Zag (Qz2 s)::Zab::Zae (Zdy (Zbm (some d)))::bds 10 (Zaf 3 0::bds 69 (Zae (Zan 31 (rowsN (Zau s)))::Zae (i64 ((Zaa (Zau s):Nat):Int))::Zae (i64 i)::bds 11 (Zae (Zan 5 (rowsG l))::Zae (i64 ((Zaa l:Nat):Int))::Zae (i64 (Zad .i64 (j+1)))::bds 23 [])))))) (Qz24 ly z8 n) (some (d,ts))) (K .normal (bds 5 (Zaf 0 0::Zaf 1 0::bds 3 (Zaf 2 0::Zag (Qz2 s)::Zab::Zae (Zdy (Zbm (some d)))::bds 10 (Zaf 3 0::bds 69 (Zae (Zan 31 (rowsN (Zau s)))::Zae (i64 ((Zaa (Zau s):Nat):Int))::Zae (i64 i)::bds 11 (Zae (Zan 5 (rowsG l))::Zae (i64 ((Zaa l:Nat):Int))::Zae (i64 (Zad .i64 (j+1)))::bds 23 [])))))) (Qz24 ly t n) (some (d,ts)))) False) (K (Zbj 6) (bds 5 (Zaf 0 0::Zaf 1 0::bds 3 (Zaf 2 0::Zag (Qz2 s)::Zab::Zae (Zdy (Zbm (some d)))::bds 10 (Zaf 3 0::bds 69 (Zae (Zan 31 (rowsN (Zau s)))::Zae (i64 ((Zaa (Zau s):Nat):Int))::Zae (i64 i)::bds 11 (Zae (Zan 5 (rowsG l))::Zae (i64 ((Zaa l:Nat):Int))::Zae (i64 j)::bds 23 [])))))) (Qz24 ly t n) (some (d,ts)))):=by kernel_rfl
end
theorem WR.scanB {α:Type} {P:Program} {Ev:Env P} {X:CX Ev.β} {lp:Code} {Q:Exit→St Ev.β→Prop} {k L:Nat} (keep:List Nat) (hm:P.follows .mixedOrders=true) (hX:X.Ok) (xs:List α) (tmOf:Nat→List AV) (hpOf:Nat→List Blk) (bOf:Nat→Ev.β) (hL:∀i,(hpOf i).length=L) (id:Nat)
 (hr:∀(i:Nat) (x:α),i<xs.length→xs[i]? =some x→∀K:Exit→List AV→List Blk→Ev.β→Prop,K .normal (tmOf (i+1)) (hpOf (i+1)) (bOf (i+1))→wpc P X k lp (tmOf i) (hpOf i) (bOf i) (maskK L keep K))
 (he:∀K:Exit→List AV→List Blk→Ev.β→Prop,K (.exit id) (tmOf xs.length) (hpOf xs.length) (bOf xs.length)→wpc P X k lp (tmOf xs.length) (hpOf xs.length) (bOf xs.length) (maskK L keep K))
 (h1:Q (.exit id) ⟨tmOf xs.length,hpOf xs.length,bOf xs.length⟩):
 ∀(m i:Nat),i+m=xs.length→WR Ev lp (m+1) ⟨tmOf i,hpOf i,bOf i⟩ Q
 | 0,i,hi=>by
  have e:i=xs.length:=by omega
  subst e;exact Zdj keep hm hX (k:=k) (by rw [hL];exact he _ h1)
 | m+1,i,hi=>by
  have hlt:i<xs.length:=by omega
  refine Zdj keep hm hX (k:=k) (by
   rw [hL];refine hr i xs[i] hlt (Zbb hlt) _ ?_;exact WR.scanB keep hm hX xs tmOf hpOf bOf hL id hr he h1 m (i+1) (by omega))
def AIg9 {α:Type} (f:α→Int) (l:List α) (ts:Prs):Prs:=l.foldl (fun ts a=>putP (f a) ts) ts
theorem AIf9 {α:Type} (f:α→Int):∀(l:List α) (ts:Prs),(AIg9 f l ts).length≤ts.length+l.length
 | [],ts=>Zaw _
 | a::l,ts=>by
  have:=AIf9 f l (putP (f a) ts);have h2:=BTs9 (f a) ts;simp only [AIg9,List.foldl_cons,List.length_cons] at this ⊢;omega
theorem ANl9 {α:Type} (f:α→Int) {l:List α} {i:Nat} {a:α} (ts:Prs) (h:l[i]? =some a):AIg9 f (l.take (i+1)) ts=putP (f a) (AIg9 f (l.take i) ts):=AFp9 _ _ h
theorem ATn9 {N:Nat} {w0:World} {lent:List Nat}:∀c tm hp b K,wlNil c tm hp b K→W (EvP N w0 lent) c ⟨tm,hp,b⟩ (fun e s=>K e s.tm s.hp s.b):=fun _ _ _ _ _ h=>h.elim
def tkB (ly:LayT) (t:TabT):List Blk:= [layB ly,tabB t,resB]
theorem wrT1 {N:Nat} {w0:World} {lent:List Nat} {Q:Exit→St PrsG→Prop} (s:SideT) (ly:LayT) (t:TabT) (d:Nat) (ts:Prs) (l:List AskT) (hl:ts.length+l.length<1000000) (hk:∀a∈l,InI a.pe)
 (hQ:Q (.exit 0) ⟨tmT1 s d l l.length,tkB ly t,some (d,AIg9 (fun a:AskT=>a.pe) l ts)⟩):WR (EvP N w0 lent) lpT1 (l.length+1) ⟨tmT1 s d l (0:Nat),tkB ly t,some (d,ts)⟩ Q:=by
 refine WR.scanB (Ev:=EvP N w0 lent) (X:=⟨TTm,UTm,wlTm wlNil,fun _ _ _=>False,false⟩) (k:=100) (L:=3) [5,6,10,11,13,43,44,45] mixed (AOg9 ATn9) l (fun i=>tmT1 s d l (i:Nat)) (fun _=>tkB ly t) (fun i=>(some (d,AIg9 (fun a:AskT=>a.pe) (l.take i) ts):PrsG)) (fun _=>rfl) 0 (fun i a hi ha K k1=> ?_) (fun K k1=> ?_) (by rw [Zdd];exact hQ) l.length 0 (by omega)
 ·simp only [ANl9 (fun a:AskT=>a.pe) ts ha] at k1;have hlen:=AIf9 (fun a:AskT=>a.pe) (l.take i) ts;rw [Zcd] at hlen;refine Eq.mpr (rT1 K s ly t d _ l i) ?_;refine Zaz (by simp;omega) (Zaz (natI i) ⟨_,_,_,ABk9 ha,rfl,d,_,_,a.pe,rfl,rfl,rfl,rfl,hk a (Zbn ha),by omega,rfl, ?_⟩);rw [wrapN (by omega)];exact k1
 ·refine Eq.mpr (rT1 K s ly t d _ l l.length) ?_;exact Zda (by simp) k1
def AEs9 (s:SideT) (u:UseT):List UseT:=match (AEb9 s (nearO (sFind s u.pe))).find? (fun x=>x.sl==u.sl&&x.of==u.of) with
 |some g=> [⟨u.sl,u.of,u.pe,g.st⟩]
 |none=> []
theorem ANg9 (s:SideT) (u:UseT):(AEs9 s u).length≤1:=by
 unfold AEs9;split
 ·exact Zaw _
 ·exact Zge _
theorem AUm9 {α γ:Type} {f:α→List γ} (hf:∀x,(f x).length≤1):∀l:List α,(l.flatMap f).length≤l.length
 | []=>Zaw _
 |x::r=>by have:=hf x;have:=AUm9 hf r;simp only [List.flatMap_cons,Zcm,List.length_cons];omega
theorem BMp9 {α γ:Type} (f:α→List γ) {l:List α} {i:Nat} {a:α} (h:l[i]? =some a):(l.take (i+1)).flatMap f=(l.take i).flatMap f++f a:=by
 rw [Zfm,h,List.flatMap_append];simp
theorem wrT2 {N:Nat} {w0:World} {lent:List Nat} {Q:Exit→St PrsG→Prop} (s:SideT) (ly:LayT) (t:TabT) (d:Nat) (ts:Prs) (l:List UseT) (hs:AGm9 s) (hl:ts.length+l.length<1000000) (hk:∀a∈l,InI a.pe)
 (hQ:Q (.exit 2) ⟨tmT2 s d (rowsU (l.flatMap (AEs9 s))) l l.length,tkB ly t,some (d,AIg9 (fun a:UseT=>a.pe) l ts)⟩):WR (EvP N w0 lent) lpT2 (l.length+1) ⟨tmT2 s d (rowsU []) l (0:Nat),tkB ly t,some (d,ts)⟩ Q:=by
 refine WR.scanB (Ev:=EvP N w0 lent) (X:=⟨TTm,UTm,wlTm wlNil,fun _ _ _=>False,false⟩) (k:=100) (L:=3) [5,6,10,11,13,16,54,55,56] mixed (AOg9 ATn9) l (fun i=>tmT2 s d (rowsU ((l.take i).flatMap (AEs9 s))) l (i:Nat)) (fun _=>tkB ly t) (fun i=>(some (d,AIg9 (fun a:UseT=>a.pe) (l.take i) ts):PrsG)) (fun _=>rfl) 2 (fun i u hi hu K k1=> ?_) (fun K k1=> ?_) (by rw [Zdd];exact hQ) l.length 0 (by omega)
 ·simp only [ANl9 (fun a:UseT=>a.pe) ts hu,BMp9 (AEs9 s) hu] at k1;have hlen:=AIf9 (fun a:UseT=>a.pe) (l.take i) ts;have hfl:=AUm9 (ANg9 s) (l.take i);rw [Zcd] at hlen hfl;have hn:=BEp9 hs u.pe;refine Eq.mpr (rT2 K s ly t d _ _ l i) ?_;have hgl:(AEb9 s (nearO (sFind s u.pe))).length<1000000:=Zdz (Zfz _ _) hn.2.1;refine Zaz (by simp;omega) (Zaz (natI i) ⟨_,_,_,_,ACb9 hu,rfl,d,_,_,u.pe,rfl,rfl,rfl,rfl,hk u (Zbn hu),by omega,rfl,s,u.pe,_,_,rfl,⟨hs.1,rfl,rfl⟩,s,nearO (sFind s u.pe),_,rfl,⟨hn.2.1,rfl⟩,AEb9 s (nearO (sFind s u.pe)),u,_,rfl,⟨by omega,rfl⟩, ?_⟩);rw [wrapN (by omega)];rcases AMf9 (fun x:GraT=>x.sl==u.sl&&x.of==u.of) (AEb9 s (nearO (sFind s u.pe))) with ⟨h1,h2⟩|⟨j,x,h1,h2,h3,_⟩
  ·rw [ABb9 h1];refine Zda (by decide) ?_;rw [AEs9,h2,Zdu] at k1;exact k1
  ·rw [AAj9 h1];rw [AEs9,h3] at k1;refine Zaz (by simp) (Zaz (natI j) ⟨_,_,_,_,_,ABj9 h2,Zaz (by rw [AAh9,Zey];exact decide_eq_true (by omega)) ?_⟩);have e:rowsU ((l.take i).flatMap (AEs9 s)++ [⟨u.sl,u.of,u.pe,x.st⟩])=rowsU ((l.take i).flatMap (AEs9 s))++ [[i64 u.sl,i64 u.of,i64 u.pe,i64 x.st]]:=by simp [rowsU,useR]
   rw [e] at k1;exact k1
 ·refine Eq.mpr (rT2 K s ly t d _ _ l l.length) ?_;exact Zda (by simp) k1
def AFt9 (ly:LayT) (n:NearT) (t:TabT) (g:GraT):TabT:=if refEU t ly ⟨g.sl,g.of,n.fm,g.st⟩=0 then addSU t ly ⟨g.sl,g.of,n.fm,g.st⟩ else t
theorem BCx9 {ly:LayT} {n:NearT} {t:TabT} {g:GraT} (h:TabOk t):TabOk (AFt9 ly n t g):=by
 unfold AFt9;split
 ·rename_i h1;exact BYa9 h1
 ·exact h
theorem ATw9 {ly:LayT} {n:NearT}:∀(l:List GraT) {t:TabT},TabOk t→TabOk (l.foldl (AFt9 ly n) t)
 | [],t,h=>h
 |a::l,t,h=>ATw9 l (BCx9 h)
theorem wrT4 {N:Nat} {w0:World} {lent:List Nat} {Q:Exit→St PrsG→Prop} (s:SideT) (ly:LayT) (t:TabT) (n:NearT) (d:Nat) (ts:Prs) (i:Int) (l:List GraT) (ht:TabOk t) (hl:l.length<1000000)
 (hQ:Q (.exit 6) ⟨tmT4 s d i l l.length,tkB ly (l.foldl (AFt9 ly n) t)++ [nearB n],some (d,ts)⟩):WR (EvP N w0 lent) lpT4 (l.length+1) ⟨tmT4 s d i l (0:Nat),tkB ly t++ [nearB n],some (d,ts)⟩ Q:=by
 refine WR.scanB (Ev:=EvP N w0 lent) (X:=⟨TTm,UTm,wlTm wlNil,fun _ _ _=>False,false⟩) (k:=100) (L:=4) [5,6,10,11,13,24,94,95,96,108,109,110] mixed (AOg9 ATn9) l (fun j=>tmT4 s d i l (j:Nat)) (fun j=>tkB ly ((l.take j).foldl (AFt9 ly n) t)++ [nearB n]) (fun i=>(some (d,ts):PrsG)) (fun _=>rfl) 6 (fun j g hj hg K k1=> ?_) (fun K k1=> ?_) (by rw [Zdd];exact hQ) l.length 0 (by omega)
 ·have htj:TabOk ((l.take j).foldl (AFt9 ly n) t):=ATw9 _ ht;rw [AFp9 _ _ hg] at k1;generalize (l.take j).foldl (AFt9 ly n) t=tj at k1 htj ⊢;refine Eq.mpr (rT4 K s ly tj n d ts i l j) ?_;refine Zaz (by simp;omega) (Zaz (natI j) ⟨_,_,_,_,_,ABj9 hg,tj,_,ly,⟨g.sl,g.of,n.fm,g.st⟩,_,rfl,⟨htj,rfl,rfl⟩,Zba (fun h3=> ?_) fun h3=> ?_⟩)
  ·rw [wrapN (by omega)];have h3':refEU tj ly ⟨g.sl,g.of,n.fm,g.st⟩=0:=by simpa using h3
   rw [AFt9,if_pos h3'] at k1;exact k1
  ·rw [wrapN (by omega)];have h3':¬refEU tj ly ⟨g.sl,g.of,n.fm,g.st⟩=0:=by simpa using h3
   rw [AFt9,if_neg h3'] at k1;exact k1
 ·refine Eq.mpr (rT4 K s ly _ n d ts i l l.length) ?_;exact Zda (by simp) k1
def wlT4:WLT PrsG:=fun cd tm hp b K=>∃(s:SideT) (ly:LayT) (t q:TabT) (n:NearT) (d:Nat) (ts:Prs) (i:Int) (l:List GraT),cd= .loop lpT4∧AAv9 [5,6,10,11,13,24,94,95,96,108,109,110] 0 tm=tmT4 s d i l 0∧hp=tkB ly t++ [nearB n]∧b=some (d,ts)∧(TabOk t∧l.length<1000000∧q=l.foldl (AFt9 ly n) t)∧K (.exit 6) (tmT4 s d i l l.length) (tkB ly q++ [nearB n]) b
theorem BZs9 {N:Nat} {w0:World} {lent:List Nat} (c:Code) (tm:List AV) (hp:List Blk) (b:PrsG) (K:Exit→List AV→List Blk→PrsG→Prop) (h:wlT4 c tm hp b K):W (EvP N w0 lent) c ⟨tm,hp,b⟩ (fun e s=>K e s.tm s.hp s.b):=by
 obtain ⟨s,ly,t,_,n,d,ts,i,l,rfl,htm,rfl,rfl,⟨ht,hl,rfl⟩,hK⟩:=h;refine W.cast (htm▸AAb9 _ tm 0) (Zbp _) ?_;exact W.rounds (wrT4 (Q:=fun e s=>K e s.tm s.hp s.b) s ly t n d ts i l ht hl hK)
section
variable (K:Exit→List AV→List Blk→PrsG→Prop)
theorem rT3 (s:SideT) (ly:LayT) (t:TabT) (d:Nat) (ts:Prs) (i:Int):wpc prog ⟨TTm,UTm,wlTm wlT4,fun _ _ _=>False,false⟩ 100 lpT3 (tmT3 s d i) [layB ly,tabB t,resB] (some (d,ts)) (maskK 3 [5,6,10,11,13,94,95,96] K)=(BIf (decide (i<((Zaa (Zau s):Nat):Int))) (BIf (true&&decide (0≤i)) (∃(n0:NearT),(rowsN (Zau s))[Zam i]? =some (nearR n0)∧108=108∧∃(d3:Nat) (ts4:Prs) (k5:Int) (v6:Bool),some (d,ts)=some (d3,ts4)∧Zae (Zdy (Zbm (some d)))=Zae (Zdy (Zbm (some d3)))∧Zae (i64 (Zdm n0))=Zae (i64 k5)∧InI k5∧v6=hasP k5 ts4∧BIf (!v6) (K .normal (bds 5 (Zaf 0 0::Zaf 1 0::bds 3 (Zaf 2 0::Zag (Qz2 s)::Zab::Zae (Zdy (Zbm (some d)))::bds 80 (Zae (Zan 31 (rowsN (Zau s)))::Zae (i64 ((Zaa (Zau s):Nat):Int))::Zae (i64 (Zad .i64 (i+1)))::bds 37 [])))) (Qz19 ly t) (some (d,ts))) (∃(s7:SideT) (n8:NearT) (q9:List GraT), [Zag (Qz2 s),nearA n0]= [Zag (Qz2 s7),nearA n8]∧(Zaa (Zck n8)<1000000∧q9=AEb9 s7 n8)∧∃(s10:SideT) (ly11:LayT) (t12:TabT) (q13:TabT) (n14:NearT) (d15:Nat) (ts16:Prs) (i17:Int) (l18:List GraT),Zat lpT4=Zat lpT4∧(bds 5 (Zaf 0 0::Zaf 1 0::bds 3 (Zaf 2 0::Zag (Qz2 s)::Zab::Zae (Zdy (Zbm (some d)))::bds 10 (Zaf 3 0::bds 69 (Zae (Zan 31 (rowsN (Zau s)))::Zae (i64 ((Zaa (Zau s):Nat):Int))::Zae (i64 i)::bds 11 (Zae (Zan 5 (rowsG q9))::Zae (i64 ((Zaa (rowsG q9):Nat):Int))::Zae (i64 0)::bds 23 []))))))=(bds 5 (Zaf 0 0::Zaf 1 0::bds 3 (Zaf 2 0::Zag (Qz2 s10)::Zab::Zae (Zdy (Zbm (some d15)))::bds 10 (Zaf 3 0::bds 69 (Zae (Zan 31 (rowsN (Zau s10)))::Zae (i64 ((Zaa (Zau s10):Nat):Int))::Zae (i64 i17)::bds 11 (Zae (Zan 5 (rowsG l18))::Zae (i64 ((Zaa l18:Nat):Int))::Zae (i64 0)::bds 23 []))))))∧(Qz24 ly t n0)=(Qz24 ly11 t12 n14)∧some (d,ts)=some (d15,ts16)∧(TabOk t12∧Zaa l18<1000000∧q13=List.foldl (AFt9 ly11 n14) t12 l18)∧K .normal (bds 5 (Zaf 0 0::Zaf 1 0::bds 3 (Zaf 2 0::Zag (Qz2 s10)::Zab::Zae (Zdy (Zbm (some d15)))::bds 80 (Zae (Zan 31 (rowsN (Zau s10)))::Zae (i64 ((Zaa (Zau s10):Nat):Int))::Zae (i64 (Zad .i64 (i17+1)))::bds 37 [])))) (Qz19 ly11 q13) (some (d,ts)))) False) (K (Zbj 4) (bds 5 (Zaf 0 0::Zaf 1 0::bds 3 (Zaf 2 0::Zag (Qz2 s)::Zab::Zae (Zdy (Zbm (some d)))::bds 80 (Zae (Zan 31 (rowsN (Zau s)))::Zae (i64 ((Zaa (Zau s):Nat):Int))::Zae (i64 i)::bds 37 [])))) (Qz19 ly t) (some (d,ts)))):=by kernel_rfl
end
def takeN (s:SideT) (ly:LayT) (ts:Prs) (t:TabT) (n:NearT):TabT:=if hasP n.fm ts=true then (AEb9 s n).foldl (AFt9 ly n) t else t
theorem BTf9 {s:SideT} {ly:LayT} {ts:Prs} {t:TabT} {n:NearT} (h:TabOk t):TabOk (takeN s ly ts t n):=by
 unfold takeN;split
 ·exact ATw9 _ h
 ·exact h
theorem AVv9 {s:SideT} {ly:LayT} {ts:Prs}:∀(l:List NearT) {t:TabT},TabOk t→TabOk (l.foldl (takeN s ly ts) t)
 | [],t,h=>h
 |a::l,t,h=>AVv9 l (BTf9 h)
theorem wrT3 {N:Nat} {w0:World} {lent:List Nat} {Q:Exit→St PrsG→Prop} (s:SideT) (ly:LayT) (t:TabT) (d:Nat) (ts:Prs) (hs:AGm9 s) (ht:TabOk t) (hl:s.ns.length<1000000) (hk:∀n∈s.ns,InI n.fm)
 (hQ:Q (.exit 4) ⟨tmT3 s d s.ns.length,tkB ly (s.ns.foldl (takeN s ly ts) t),some (d,ts)⟩):WR (EvP N w0 lent) lpT3 (s.ns.length+1) ⟨tmT3 s d (0:Nat),tkB ly t,some (d,ts)⟩ Q:=by
 refine WR.scanB (Ev:=EvP N w0 lent) (X:=⟨TTm,UTm,wlTm wlT4,fun _ _ _=>False,false⟩) (k:=100) (L:=3) [5,6,10,11,13,94,95,96] mixed (AOg9 BZs9) s.ns (fun i=>tmT3 s d (i:Nat)) (fun i=>tkB ly ((s.ns.take i).foldl (takeN s ly ts) t)) (fun i=>(some (d,ts):PrsG)) (fun _=>rfl) 4 (fun i n hi hn K k1=> ?_) (fun K k1=> ?_) (by rw [Zdd];exact hQ) s.ns.length 0 (by omega)
 ·have hti:TabOk ((s.ns.take i).foldl (takeN s ly ts) t):=AVv9 _ ht;rw [AFp9 _ _ hn] at k1;generalize (s.ns.take i).foldl (takeN s ly ts) t=ti at k1 hti ⊢;have hnl:=hs.2 n (Zbn hn);refine Eq.mpr (rT3 K s ly ti d ts i) ?_;refine Zaz (by simp;omega) (Zaz (natI i) ⟨_,ABc9 hn,rfl,d,ts,n.fm,_,rfl,rfl,rfl,hk n (Zbn hn),rfl,Zba (fun h1=> ?_) fun h1=> ?_⟩)
  ·rw [wrapN (by omega)];rw [Zcb] at h1;rw [takeN,h1,if_neg (by decide)] at k1;exact k1
  ·rw [Zej] at h1;rw [takeN,h1,if_pos rfl] at k1;have hgl:(AEb9 s n).length<1000000:=Zdz (Zfz _ _) hnl.2.1;refine ⟨s,n,_,rfl,⟨hnl.2.1,rfl⟩,s,ly,ti,_,n,d,ts,i,AEb9 s n,rfl, ?_,rfl,rfl,⟨hti,hgl,rfl⟩, ?_⟩
   ·rw [AAf9]
   ·rw [wrapN (by omega)];exact k1
 ·refine Eq.mpr (rT3 K s ly _ d ts s.ns.length) ?_;exact Zda (by simp) k1
def wlTk1:WLT PrsG:=fun cd tm hp b K=>∃(s:SideT) (ly:LayT) (t:TabT) (d:Nat) (ts q:Prs) (l:List AskT),cd= .loop lpT1∧AAv9 [5,6,10,11,13,43,44,45] 0 tm=tmT1 s d l 0∧hp=tkB ly t∧b=some (d,ts)∧(ts.length+l.length<1000000∧(∀a∈l,InI a.pe)∧q=AIg9 (fun a:AskT=>a.pe) l ts)∧K (.exit 0) (tmT1 s d l l.length) (tkB ly t) (some (d,q))
def tmT2n (s:SideT) (d:Nat) (l:List UseT) (i:Int):List AV:=tmT s d (.d (.s (.slice none 0 0)))++Zap 37 .bad++ [.d (.sl 4 (rowsU l)), .d (i64 l.length), .d (i64 i)]++Zap 77 .bad
def wlTk2:WLT PrsG:=fun cd tm hp b K=>∃(s:SideT) (ly:LayT) (t:TabT) (d:Nat) (ts q:Prs) (l z:List UseT),cd= .loop lpT2∧AAv9 [5,6,10,11,13,16,54,55,56] 0 tm=tmT2n s d l 0∧hp=tkB ly t∧b=some (d,ts)∧(AGm9 s∧ts.length+l.length<1000000∧(∀a∈l,InI a.pe)∧q=AIg9 (fun a:UseT=>a.pe) l ts∧z=l.flatMap (AEs9 s))∧K (.exit 2) (tmT2 s d (rowsU z) l l.length) (tkB ly t) (some (d,q))
def wlTk3:WLT PrsG:=fun cd tm hp b K=>∃(s:SideT) (ly:LayT) (us:List UseT) (gs:List GraT) (ak:List AskT) (q:TabT) (d:Nat) (ts:Prs),cd= .loop lpT3∧AAv9 [5,6,10,11,13,94,95,96] 0 tm=tmT3 s d 0∧hp=tkB ly ⟨us,gs,ak⟩∧b=some (d,ts)∧(AGm9 s∧TabOk ⟨us,gs,ak⟩∧s.ns.length<1000000∧(∀n∈s.ns,InI n.fm)∧q=s.ns.foldl (takeN s ly ts) ⟨us,gs,ak⟩)∧K (.exit 4) (tmT3 s d s.ns.length) (tkB ly q) (some (d,ts))
def wlTk:WLT PrsG:=fun cd tm hp b K=>match cidO cd with
 |7=>wlTk1 cd tm hp b K
 |13=>wlTk2 cd tm hp b K
 |25=>wlTk3 cd tm hp b K
 |_=>False
theorem BZr9 {N:Nat} {w0:World} {lent:List Nat} (c:Code) (tm:List AV) (hp:List Blk) (b:PrsG) (K:Exit→List AV→List Blk→PrsG→Prop) (h:wlTk c tm hp b K):W (EvP N w0 lent) c ⟨tm,hp,b⟩ (fun e s=>K e s.tm s.hp s.b):=by
 unfold wlTk at h;split at h
 ·obtain ⟨s,ly,t,d,ts,_,l,rfl,htm,rfl,rfl,⟨hl,hk,rfl⟩,hK⟩:=h;refine W.cast (htm▸AAb9 _ tm 0) (Zbp _) ?_;exact W.rounds (wrT1 (Q:=fun e s=>K e s.tm s.hp s.b) s ly t d ts l hl hk hK)
 ·obtain ⟨s,ly,t,d,ts,_,l,_,rfl,htm,rfl,rfl,⟨hs,hl,hk,rfl,rfl⟩,hK⟩:=h;refine W.cast (htm▸AAb9 _ tm 0) (Zbp _) ?_;refine W.cast (tm':=tmT2 s d (rowsU []) l 0) (LeL.at [_,_,_,_,_,_,_,_,_,_,_,_,_,_,_,_] _ (LeA.nilOwn rfl)) (Zbp _) ?_;exact W.rounds (wrT2 (Q:=fun e s=>K e s.tm s.hp s.b) s ly t d ts l hs hl hk hK)
 ·obtain ⟨s,ly,us,gs,ak,_,d,ts,rfl,htm,rfl,rfl,⟨hs,ht,hl,hk,rfl⟩,hK⟩:=h;refine W.cast (htm▸AAb9 _ tm 0) (Zbp _) ?_;exact W.rounds (wrT3 (Q:=fun e s=>K e s.tm s.hp s.b) s ly ⟨us,gs,ak⟩ d ts hs ht hl hk hK)
 ·exact h.elim
section
variable (y:ACw9 PrsG) (R:AV→PrsG→Prop)
theorem CAr9 (ly:LayT) (t:TabT) (me:Int) (l:List NearT) (fr:Int):wpFn prog ⟨TTm,UTm,wlTm wlTk,y,false⟩ 100 f14 [layA ly,tabA t, .d (i64 me), .d (.sl 31 (rowsN l)), .d (i64 fr)] none R=(∃(ly0:LayT) (t1:TabT) (me2:Int) (l3:List NearT) (fr4:Int) (s5:SideT) (q6:Bool),(Qz16 ly t me l fr)=(Qz16 ly0 t1 me2 l3 fr4)∧(TabOk t1∧Zaa l3<1000000∧(∀(x:NearT),x∈l3→ACf9 x)∧q6=newS ly0 t1 me2 l3 fr4∧s5=sideS ly0 me2 l3 fr4)∧BIf q6 (NoP none∧108=108∧∀(d:Nat),∃(s7:SideT) (ly8:LayT) (t9:TabT) (d10:Nat) (ts11:Prs) (q12:Prs) (l13:List AskT),Zat lpT1=Zat lpT1∧(bds 5 (Zaf 0 0::Zaf 1 0::bds 3 (Zaf 2 0::Zag (Qz2 s5)::Zab::Zae (Zdy (Zbm (some d)))::bds 29 (Zae (Zan 3 (rowsA (Zdh t)))::Zae (i64 ((Zaa (rowsA (Zdh t)):Nat):Int))::Zae (i64 0)::bds 88 []))))=(bds 5 (Zaf 0 0::Zaf 1 0::bds 3 (Zaf 2 0::Zag (Qz2 s7)::Zab::Zae (Zdy (Zbm (some d10)))::bds 29 (Zae (Zan 3 (rowsA l13))::Zae (i64 ((Zaa l13:Nat):Int))::Zae (i64 0)::bds 88 []))))∧(Qz19 ly t)=(Qz19 ly8 t9)∧some (d, [])=some (d10,ts11)∧(Zaa ts11+Zaa l13<1000000∧(∀(a:AskT),a∈l13→InI (AskT.pe a))∧q12=AIg9 (fun (a14:AskT)=>AskT.pe a14) l13 ts11)∧∃(s15:SideT) (ly16:LayT) (t17:TabT) (d18:Nat) (ts19:Prs) (q20:Prs) (l21:List UseT) (z22:List UseT),Zat lpT2=Zat lpT2∧(bds 5 (Zaf 0 0::Zaf 1 0::bds 3 (Zaf 2 0::Zag (Qz2 s7)::Zab::Zae (Zdy (Zbm (some d10)))::Zab::Zab::Zae (Zdy (.slice none 0 0))::bds 37 (Zae (Zan 4 (rowsU (Zdl t9)))::Zae (i64 ((Zaa (rowsU (Zdl t9)):Nat):Int))::Zae (i64 0)::bds 77 []))))=(bds 5 (Zaf 0 0::Zaf 1 0::bds 3 (Zaf 2 0::Zag (Qz2 s15)::Zab::Zae (Zdy (Zbm (some d18)))::Zab::Zab::Zae (Zdy (.slice none 0 0))::bds 37 (Zae (Zan 4 (rowsU l21))::Zae (i64 ((Zaa l21:Nat):Int))::Zae (i64 0)::bds 77 []))))∧(Qz19 ly8 t9)=(Qz19 ly16 t17)∧some (d10,q12)=some (d18,ts19)∧((Zaa (Zau s15)≤9223372036854775807∧∀(x:NearT),x∈Zau s15→Zaa (Zcp x)<1000000∧Zaa (Zck x)<1000000∧Zaa (Zer x)<1000000)∧Zaa ts19+Zaa l21<1000000∧(∀(a:UseT),a∈l21→InI (UseT.pe a))∧q20=AIg9 (fun (a23:UseT)=>UseT.pe a23) l21 ts19∧z22=List.flatMap (AEs9 s15) l21)∧∃(s24:SideT) (ly25:LayT) (us26:List UseT) (gs27:List GraT) (ak28:List AskT) (q29:TabT) (d30:Nat) (ts31:Prs),Zat lpT3=Zat lpT3∧(bds 5 (Zaf 0 0::Zaf 1 0::bds 3 (Zaf 2 0::Zag (Qz2 s15)::Zab::Zae (Zdy (Zbm (some d18)))::bds 80 (Zae (Zan 31 (rowsN (Zau s15)))::Zae (i64 ((Zaa (rowsN (Zau s15)):Nat):Int))::Zae (i64 0)::bds 37 []))))=(bds 5 (Zaf 0 0::Zaf 1 0::bds 3 (Zaf 2 0::Zag (Qz2 s24)::Zab::Zae (Zdy (Zbm (some d30)))::bds 80 (Zae (Zan 31 (rowsN (Zau s24)))::Zae (i64 ((Zaa (Zau s24):Nat):Int))::Zae (i64 0)::bds 37 []))))∧ [Blk.mk (Qz3 ly16) false false 0,Blk.mk [Zae (Zan 4 (rowsU z22)),Zae (Zan 5 (rowsG (Zdb t17))),Zae (Zan 3 (rowsA (Zdh t17)))] false false 0,Blk.mk Qz4 false false 0]= [Blk.mk (Qz3 ly25) false false 0,Blk.mk [Zae (Zan 4 (rowsU (Zdl (TabT.mk us26 gs27 ak28)))),Zae (Zan 5 (rowsG (Zdb (TabT.mk us26 gs27 ak28)))),Zae (Zan 3 (rowsA (Zdh (TabT.mk us26 gs27 ak28))))] false false 0,Blk.mk Qz4 false false 0]∧some (d18,q20)=some (d30,ts31)∧((Zaa (Zau s24)≤9223372036854775807∧∀(x:NearT),x∈Zau s24→Zaa (Zcp x)<1000000∧Zaa (Zck x)<1000000∧Zaa (Zer x)<1000000)∧TabOk (TabT.mk us26 gs27 ak28)∧Zaa (Zau s24)<1000000∧(∀(n:NearT),n∈Zau s24→InI (Zdm n))∧q29=List.foldl (takeN s24 ly25 ts31) (TabT.mk us26 gs27 ak28) (Zau s24))∧R (.agg (Qz1 q29)) (some (d30,ts31))) (R (.agg (Qz1 t)) none)):=by kernel_rfl
end
theorem AGa9 {α:Type} {ok:α→Bool} {sl:α→Int}:∀ {l:List α} {last:Int} {ts:Cnt},(ABf9 ok sl last l ts).1=true→(∀x∈l,ok x=true)∧(∀x∈l,last<sl x)∧l.Pairwise (fun a b=>sl a<sl b)
 | [],last,ts,h=>⟨by simp,by simp,List.Pairwise.nil⟩
 | x::r,last,ts,h=>by
  unfold ABf9 at h;split at h
  ·cases h
  ·rename_i h1;split at h
   ·cases h
   ·rename_i h2;obtain ⟨a1,a2,a3⟩:=AGa9 h;refine ⟨fun y hy=> ?_,fun y hy=> ?_,Zds.2 ⟨a2,a3⟩⟩
    ·rcases Zbw.1 hy with rfl|hy
     ·simpa using h1
     ·exact a1 y hy
    ·rcases Zbw.1 hy with rfl|hy
     ·omega
     ·have:=a2 y hy;omega
theorem AHp9 {t:TabT} {l:LayT} (h:ACq9 t l=true):((∀x∈t.us,useOk x l=true)∧t.us.Pairwise (fun a b=>a.sl<b.sl))∧((∀x∈t.gs,graOk x l=true)∧t.gs.Pairwise (fun a b=>a.sl<b.sl))∧((∀x∈t.ak,askOk x l=true)∧t.ak.Pairwise (fun a b=>a.sl<b.sl))∧
 okC (AEl9 l t.ak (ADa9 l t.gs (ACc9 l t.us []).2).2).2=true:=by
 unfold ACq9 at h;split at h<;>try (cases h;done)
 split at h<;>try (cases h;done)
 split at h<;>try (cases h;done)
 split at h<;>try (cases h;done)
 split at h<;>try (cases h;done)
 split at h<;>try (cases h;done)
 split at h<;>try (cases h;done)
 rename_i h1;split at h<;>try (cases h;done)
 rename_i h2;split at h<;>try (cases h;done)
 rename_i h3;simp only [Zcb,Bool.not_eq_false] at h1 h2 h3;have a1:=AGa9 (α:=UseT) (show (ABf9 _ _ _ _ _).1=true from h1);have a2:=AGa9 (α:=GraT) (show (ABf9 _ _ _ _ _).1=true from h2);have a3:=AGa9 (α:=AskT) (show (ABf9 _ _ _ _ _).1=true from h3);exact ⟨⟨a1.1,a1.2.2⟩,⟨a2.1,a2.2.2⟩,⟨a3.1,a3.2.2⟩,h⟩
theorem AWh9 {sl of pe:Int} {l:LayT} (h:ABe9 sl of pe l=true) (hn:l.no≤60):InI pe:=by
 simp only [ABe9,Zai,decide_eq_true_eq] at h;exact ⟨by omega,by omega⟩
theorem AWq9 {ly:LayT} {me fr:Int} (hn:ly.no≤60):∀ {l:List NearT} {o:Option NearT},(AAe9 o l).any (badN ly me fr)=false→∀n∈l,0≤n.fm∧n.fm<ly.no∧n.fm≠me∧0≤n.fr∧n.fr≤fr
 | [],o,h,n,hm=>by cases hm
 | x::r,o,h,n,hm=>by
  simp only [AAe9,List.any_cons,Zeo] at h;obtain ⟨h1,h2⟩:=h;rcases Zbw.1 hm with rfl|hm
  ·simp only [badN,Zeo,decide_eq_false_iff_not,beq_eq_false_iff_ne] at h1;omega
  ·exact AWq9 hn h2 n hm
def CGs9 (t:TabT):Prs:=AIg9 (fun a:UseT=>a.pe) t.us (AIg9 (fun a:AskT=>a.pe) t.ak [])
def takeS (ly:LayT) (t:TabT) (me:Int) (l:List NearT) (fr:Int):TabT:=
 if newS ly t me l fr=true then (sideS ly me l fr).ns.foldl (takeN (sideS ly me l fr) ly (CGs9 t)) ⟨t.us.flatMap (AEs9 (sideS ly me l fr)),t.gs,t.ak⟩ else t
theorem CGv9 (ly:LayT) (t:TabT) (me:Int) (l:List NearT) (fr:Int) (ht:TabOk t) (hl:l.length<1000000) (hx:∀x∈l,ACf9 x):
 PCall prog 14 [layA ly,tabA t, .d (i64 me), .d (.sl 31 (rowsN l)), .d (i64 fr)] (tabA (takeS ly t me l fr)):=by
 refine MCall.toP (f:=prF) (g:=none) rfl ?_;have key:MCall prog prF 14 [layA ly,tabA t, .d (i64 me), .d (.sl 31 (rowsN l)), .d (i64 fr)] none fun x _=>x=tabA (takeS ly t me l fr):=by
  refine MCall.ofFn (n:=100) (u:=false) (wlTm wlTk) mixed BYe9 CFh9 (fun N w0=>BPb9 BZr9) func14 (by rfl) (by rfl) ?_;rw [CAr9];refine ⟨ly,t,me,l,fr,_,_,rfl,⟨ht,hl,hx,rfl,rfl⟩,Zba (fun h1=> ?_) fun h1=> ?_⟩
  ·have hvt:=AEa9 h1;have hv:=ACa9 hvt;have hva:=AHp9 hvt;have s2:=AOm9 (ly:=ly) (me:=me) (fr:=fr) hl hx;have hnl:(sideS ly me l fr).ns.length<1000000:=by simpa [sideS] using hl
   have ha:∀a∈t.ak,InI a.pe:=fun a h=>AWh9 (show ABe9 a.sl a.of a.pe ly=true from hva.2.2.1.1 a h) hv.1.2;have hu:∀u∈t.us,InI u.pe:=fun u h=>AWh9 (by have:=hva.1.1 u h;simp only [useOk,Zai] at this;exact this.1) hv.1.2;have hbad:(AAe9 none l).any (badN ly me fr)=false:=by
    rw [newS,Zai,Zai,Zai,Zcb] at h1;exact h1.2.2.2
   have hn:∀n∈(sideS ly me l fr).ns,InI n.fm:=fun n h=>by
    simp only [sideS,Zbg] at h;obtain ⟨x,hx,rfl⟩:=h;have:=AWq9 hv.1.2 hbad x hx;exact ⟨by simp only [filN,toldN];omega,by simp only [filN,toldN];omega⟩
   have hfl:=AUm9 (ANg9 (sideS ly me l fr)) t.us;have hp1:=AIf9 (fun a:AskT=>a.pe) t.ak [];obtain ⟨t1,t2,t3⟩:=ht;rw [Zfg] at hp1;rw [takeS,if_pos h1];refine ⟨⟨rfl⟩,rfl,fun d=>⟨sideS ly me l fr,ly,t,d, [],_,t.ak,rfl, ?_,rfl,rfl,⟨by rw [Zfg];omega,ha,rfl⟩,sideS ly me l fr,ly,t,d,_,_,t.us,_,rfl, ?_,rfl,rfl,⟨s2,by omega,hu,rfl,rfl⟩,sideS ly me l fr,ly,t.us.flatMap (AEs9 (sideS ly me l fr)),t.gs,t.ak,_,d,_,rfl, ?_,rfl,rfl,⟨s2,⟨by simp only;omega,t2,t3⟩,hnl,hn,rfl⟩,rfl⟩⟩
   ·rw [AAn9]
   ·rw [AAh9]
   ·rw [ABm9]
  ·have h1':¬newS ly t me l fr=true:=by rw [h1];decide
   rw [takeS,if_neg h1'];rfl
 exact key
def cTake (args:List AV) (K:AV→Prop):Prop:=∃(ly:LayT) (t q:TabT) (me:Int) (l:List NearT) (fr:Int),args= [layA ly,tabA t, .d (i64 me), .d (.sl 31 (rowsN l)), .d (i64 fr)]∧(TabOk t∧l.length<1000000∧(∀x∈l,ACf9 x)∧q=takeS ly t me l fr)∧K (tabA q)
theorem BXh9:∀args K,cTake args K→∃x,PCall prog 14 args x∧K x:=by
 rintro _ K ⟨ly,t,_,me,l,fr,rfl,⟨ht,hl,hx,rfl⟩,hk⟩;exact ⟨_,CGv9 ly t me l fr ht hl hx,hk⟩
noncomputable def lpTr:Code:=sub [1,1,2,3] (code f89)
def tmTr (s:SideT) (n i:Int):List AV:= [.yl, .rptr [.pt (sideD s)], .bad, .d (i64 n)]++Zap 8 .bad++ [.d (i64 n), .d (i64 i)]++Zap 36 .bad
theorem BSy9 (s:SideT):wpFn prog ⟨[], [],wl,y,false⟩ 100 f42 [.rptr (sideD s)] b R=(R (Zax (Fn.func 89) [] [Zag [Zdr [i64 (LayT.no (Zcg s)),i64 (Zcx (Zcg s)),i64 (Zes s),Zan 31 (rowsN (Zau s)),i64 (Zgh s)]]]) b):=by kernel_rfl
theorem rTr (s:SideT) (n i:Int):wpc prog ⟨[], [],wl,y,false⟩ 100 lpTr (tmTr s n i) [] b (maskK 0 [0,1,3,12,13] K)=(BIf (decide (i<n)) (BIf (decide (n=(0:Int))||false) False (BIf (decide (Zcx (Zcg s)=(0:Int))||false) False (BIf (decide (Zcx (Zcg s)=(0:Int))||false) False (y b [Zaq [Zae (i64 (Int.tmod (Int.tmod (Zad .i64 (Zad .i64 (Zad .i64 ((17:Int)*Zes s)+Zad .i64 ((5:Int)*Zgh s))+i)) n) (Zcx (Zcg s)))),Zae (i64 (Zad .i64 (Int.tdiv (Int.tmod (Zad .i64 (Zad .i64 (Zad .i64 ((17:Int)*Zes s)+Zad .i64 ((5:Int)*Zgh s))+i)) n) (Zcx (Zcg s)))))]] fun (cont0:Bool) (b1:β)=>BIf (!cont0) (K .ret (AV.yl::Zag [Zdr (Qz2 s)]::Zab::Zae (i64 n)::bds 8 (Zae (i64 n)::Zae (i64 i)::bds 36 [])) [] b1) (K .normal (AV.yl::Zag [Zdr (Qz2 s)]::Zab::Zae (i64 n)::bds 8 (Zae (i64 n)::Zae (i64 (Zad .i64 (i+1)))::bds 36 [])) [] b1))))) (K (Zbj 0) (AV.yl::Zag [Zdr (Qz2 s)]::Zab::Zae (i64 n)::bds 8 (Zae (i64 n)::Zae (i64 i)::bds 36 [])) [] b)):=by kernel_rfl
theorem trH1 (s:SideT):wpc prog ⟨[], [],wl,y,false⟩ 100 (sub [0] (code f89)) (ACg9 f89 [.yl, .rptr [.pt (sideD s)]]) [] b K=(K .normal (AV.yl::Zag [Zdr (Qz2 s)]::Zab::Zae (i64 (Zad .i64 ((16:Int)*Zcx (Zcg s))))::Zab::Zab::Zae (Zdr (Qz2 s))::Zae (Zdr (Qz2 s))::Zag (Qz2 s)::Zag [i64 (Zcx (Zcg s)),i64 (Zes s),Zan 31 (rowsN (Zau s)),i64 (Zgh s)]::Zae (i64 (Zcx (Zcg s)))::Zae (i64 (Zad .i64 ((16:Int)*Zcx (Zcg s))))::bds 38 []) [] b):=by kernel_rfl
theorem trH2 (s:SideT) (n:Int):wpc prog ⟨[], [],wl,y,false⟩ 100 (sub [1,0] (code f89)) ([.yl, .rptr [.pt (sideD s)], .bad, .d (i64 n)]++Zap 46 .bad) [] b K=(K .normal (AV.yl::Zag [Zdr (Qz2 s)]::Zab::Zae (i64 n)::bds 8 (Zae (i64 n)::Zae (i64 0)::bds 36 [])) [] b):=by kernel_rfl
theorem BTa9:code f89= .seq (sub [0] (code f89)) (.seq (sub [1,0] (code f89)) (.block 0 (.loop lpTr))):=by kernel_rfl
def triC (s:SideT) (k:Int):Int:=Int.tmod (Zad Zbc (Zad Zbc (Zad Zbc (17*s.me)+Zad Zbc (5*s.fr))+k)) (Zad Zbc (16*s.lay.da))
def triSl (s:SideT) (k:Int):Int:=Int.tmod (triC s k) s.lay.da
def triOf (s:SideT) (k:Int):Int:=Zad Zbc (Int.tdiv (triC s k) s.lay.da)
def AQh9 (s:SideT) (k:Nat):List AV:= [cellA (triSl s (k:Int)) (triOf s (k:Int))]
theorem wrTr {Ev:Env prog} {b0:Ev.β→Prop} (s:SideT) (hd:1≤s.lay.da∧s.lay.da≤60):∀(m k:Nat) (b:Ev.β),((k+m:Nat):Int)=16*s.lay.da→YList Ev.Y ((List.range' k m).map (AQh9 s)) b b0→
 WR Ev lpTr (m+1) ⟨tmTr s (Zad Zbc (16*s.lay.da)) (k:Nat), [],b⟩ (fun e s=>(e= .exit 0∨e= .ret)∧b0 s.b)
 | 0,k,b,hk,hY=>by
  refine Zdj [0,1,3,12,13] mixed (CX.Ok.of (u:=false) Zak Zah) (k:=100) ?_;refine Eq.mpr (rTr _ _ _ _ s _ k) ?_;have e:Zad Zbc (16*s.lay.da)=16*s.lay.da:=AAx9 (by omega) (by omega);rw [e];exact Zda (by simp;omega) ⟨.inl rfl,hY⟩
 | m+1,k,b,hk,hY=>by
  refine Zdj [0,1,3,12,13] mixed (CX.Ok.of (u:=false) Zak Zah) (k:=100) ?_;refine Eq.mpr (rTr _ _ _ _ s _ k) ?_;have e:Zad Zbc (16*s.lay.da)=16*s.lay.da:=AAx9 (by omega) (by omega);simp only [List.range'_succ,Zdn,YList] at hY;refine Zaz (by rw [e];simp;omega) (Zda (by rw [e];simp;omega) (Zda (by simp;omega) (Zda (by simp;omega) ?_)));refine Ev.Ymono hY fun c b' h=> ?_;cases c with
  |false=>exact ⟨.inr rfl,h⟩
  | true=>
   show WR Ev lpTr _ _ _;have e2:Zad Zbc ((k:Int)+1)=((k+1:Nat):Int):=wrapN (by omega);rw [e2];exact wrTr s hd m (k+1) b' (by omega) h
theorem icTr (s:SideT) (hd:1≤s.lay.da∧s.lay.da≤60) (m:Nat) (hm:(m:Int)=16*s.lay.da):ICall prog 89 [.yl, .rptr [.pt (sideD s)]] (fun Y b Q=>YList Y ((List.range' 0 m).map (AQh9 s)) b Q):=by
 refine ICall.ofW (c:=code f89) func89 (by rfl) (by rfl) fun Ev b Q hQ=> ?_;rw [BTa9];have e:Zad Zbc (16*s.lay.da)=16*s.lay.da:=AAx9 (by omega) (by omega);have hX:CX.Ok Ev ⟨[], [],wlW Ev,Ev.Y,false⟩:=CX.Ok.of Zak Zah;refine W.seq (AAw9 (X:=⟨[], [],wlW Ev,Ev.Y,false⟩) mixed hX (n:=100) ((trH1 ..).symm▸ ?_) (fun e tm hp b h=>h));refine W.cast (AAb9 [0,1,3] _ 0) (Zbp _) ?_;refine W.seq (AAw9 (X:=⟨[], [],wlW Ev,Ev.Y,false⟩) mixed hX (n:=100) ((trH2 (wlW Ev) Ev.Y b _ s (Zad Zbc (16*s.lay.da))).symm▸ ?_) (fun e tm hp b h=>h));refine W.block (W.mono (W.rounds (wrTr (b0:=Q) s hd m 0 b (by omega) hQ)) fun e s h=> ?_);obtain ⟨rfl|rfl,h⟩:=h
 ·exact ⟨.inr rfl, [],rfl,h⟩
 ·exact ⟨.inl rfl, [],rfl,h⟩
theorem CCe9 (s:SideT):PCall prog 42 [.rptr (sideD s)] (.fn (.func 89) [] [.rptr [.pt (sideD s)]]):=by
 refine PCall.ofFn (n:=100) (u:=false) mixed Zak Zah func42 (by rfl) (by rfl) fun Ev bb=> ?_;rw [BSy9];rfl
def CEj9 (args:List AV) (K:AV→Prop):Prop:=∃(s:SideT),args= [.rptr (sideD s)]∧K (.fn (.func 89) [] [.rptr [.pt (sideD s)]])
theorem BNp9:∀args K,CEj9 args K→∃x,PCall prog 42 args x∧K x:=by
 rintro _ K ⟨s,rfl,h⟩;exact ⟨_,CCe9 s,h⟩
def tblN (us:List UseT) (gs:List GraT):List Dv:= [.sl 4 (rowsU us), .sl 5 (rowsG gs), .s (.slice none 0 0)]
def TP1:List (Nat×(List AV→(AV→Prop)→Prop)):= [(39,semC BQl9)]
theorem CIl9:AAc9 prog TP1:=Zaj (CAw9 BHb9) Zak
def posC (s:SideT) (us:List UseT) (gs:List GraT) (n:NearT):List Dv:= [.pt [.pt (sideD s)], .pt (tblN us gs), .pt (nearR n)]
abbrev Qz8 (v0:List UseT) (v1:List GraT):List AV:= [Zae (Zan 4 (rowsU v0)),Zae (Zan 5 (rowsG v1)),Zae (Zdy (.slice none 0 0))]
theorem CCa9 (s:SideT) (us:List UseT) (gs:List GraT) (n:NearT) (sl of:Int):wpFn prog ⟨TP1, [],wl,y,false⟩ 100 f38 [cellA sl of, .rptr [.pt (sideD s)], .rptr (tblN us gs), .rptr (nearR n)] b R=(∃(args0:List AV),SemVs [Zae (Zdr (Qz2 s)),Zaq (Qz8 us gs),nearA n,Zaq [Zae (i64 sl),Zae (i64 of)]] args0∧∃(s1:SideT) (t2:TabT) (n3:NearT) (sl4:Int) (of5:Int) (q6:Bool),args0= [Zag (Qz2 s1),Zaq (Qz1 t2),nearA n3,Zaq [Zae (i64 sl4),Zae (i64 of5)]]∧((Zaa (Zau s1)≤9223372036854775807∧(∀(x:NearT),x∈Zau s1→AAy9 x)∧layOk (Zcg s1)=true)∧TabOk t2∧(Zaa (Zcp n3)<10000∧Zaa (Zck n3)<10000)∧q6=possS s1 t2 n3 sl4 of5)∧R (.d (bo q6)) b):=by kernel_rfl
def AskOk (s:SideT) (us:List UseT) (gs:List GraT) (n:NearT):Prop:=AJh9 s∧(us.length<10000∧gs.length<10000)∧n.us.length<10000∧n.gs.length<10000
theorem CHa9 (s:SideT) (us:List UseT) (gs:List GraT) (n:NearT) (sl of:Int) (h:AskOk s us gs n):
 PCall prog 38 [cellA sl of, .rptr [.pt (sideD s)], .rptr (tblN us gs), .rptr (nearR n)] (.d (bo (possS s ⟨us,gs, []⟩ n sl of))):=by
 refine PCall.ofFn (n:=100) (u:=false) mixed CIl9 Zah func38 (by rfl) (by rfl) fun Ev bb=> ?_;rw [CCa9];obtain ⟨h1,h2,h3⟩:=h;have hle:LeV (Zaq [Zae (Zan 4 (rowsU us)),Zae (Zan 5 (rowsG gs)),Zae (Zdy (Zcw none 0 0))]) (tabA ⟨us,gs, []⟩):=
  LeV.aggs (.cons .rfl (.cons .rfl (.cons (.nil rfl) .nil)))
 have hpt:SemV (Zae (Zdr (sideD s))) (.rptr (sideD s)):=fun S w m yv v h=>RV.ofPt h;exact ⟨[.rptr (sideD s),tabA ⟨us,gs, []⟩,nearA n,cellA sl of], .cons hpt (.cons (SemV.ofLeV hle) (.cons SemV.rfl (.cons SemV.rfl .nil))),s,⟨us,gs, []⟩,n,sl,of,_,rfl,⟨h1,⟨h2.1,h2.2,by simp⟩,h3,rfl⟩,rfl⟩
def cPos1 (args:List AV) (K:AV→Prop):Prop:=∃(s:SideT) (us:List UseT) (gs:List GraT) (n:NearT) (sl of:Int) (q:Bool),args= [cellA sl of, .rptr [.pt (sideD s)], .rptr (tblN us gs), .rptr (nearR n)]∧(AskOk s us gs n∧q=possS s ⟨us,gs, []⟩ n sl of)∧K (.d (bo q))
theorem AUs9:∀args K,cPos1 args K→∃x,PCall prog 38 args x∧K x:=by
 rintro _ K ⟨s,us,gs,n,sl,of,_,rfl,⟨h,rfl⟩,hk⟩;exact ⟨_,CHa9 s us gs n sl of h,hk⟩
def TP2:List (Nat×(List AV→(AV→Prop)→Prop)):= [(38,cPos1)]
theorem CIk9:AAc9 prog TP2:=Zaj AUs9 Zak
abbrev Qz21 (v0:Int) (v1:Int) (v2:SideT) (v3:List UseT) (v4:List GraT) (v5:NearT):List AV:= [Zaq [Zae (i64 v0),Zae (i64 v1)],Zag [Zdr (Qz2 v2)],Zag [Zan 4 (rowsU v3),Zan 5 (rowsG v4),Zdy (.slice none 0 0)],Zag (nearR v5)]
theorem CBz9 (s:SideT) (us:List UseT) (gs:List GraT) (n:NearT) (x:AskT) (pe:Int):wpFn prog ⟨TP2, [],wl,y,false⟩ 100 f41 [askA x, .rptr [i64 pe], .rptr [.fn (.func 38) (posC s us gs n)]] b R=(BIf (AskT.pe x==pe) (∃(s0:SideT) (us1:List UseT) (gs2:List GraT) (n3:NearT) (sl4:Int) (of5:Int) (q6:Bool), [Zaq [Zae (i64 (Zcr x)),Zae (i64 (AskT.of x))],Zag [Zdr (Qz2 s)],Zag [Zan 4 (rowsU us),Zan 5 (rowsG gs),Zdy (.slice none 0 0)],Zag (nearR n)]=(Qz21 sl4 of5 s0 us1 gs2 n3)∧(((Zaa (Zau s0)≤9223372036854775807∧(∀(x:NearT),x∈Zau s0→AAy9 x)∧layOk (Zcg s0)=true)∧(Zaa us1<10000∧Zaa gs2<10000)∧Zaa (Zcp n3)<10000∧Zaa (Zck n3)<10000)∧q6=possS s0 (TabT.mk us1 gs2 []) n3 sl4 of5)∧R (.d (bo q6)) b) (R (.d (bo false)) b)):=by kernel_rfl
def keepA (s:SideT) (us:List UseT) (gs:List GraT) (n:NearT) (pe:Int) (x:AskT):Bool:=x.pe==pe&&possS s ⟨us,gs, []⟩ n x.sl x.of
theorem CGz9 (s:SideT) (us:List UseT) (gs:List GraT) (n:NearT) (x:AskT) (pe:Int) (h:AskOk s us gs n):
 PCall prog 41 [askA x, .rptr [i64 pe], .rptr [.fn (.func 38) (posC s us gs n)]] (.d (bo (keepA s us gs n pe x))):=by
 refine PCall.ofFn (n:=100) (u:=false) mixed CIk9 Zah func41 (by rfl) (by rfl) fun Ev bb=> ?_;rw [CBz9];refine Zba (fun h1=>⟨s,us,gs,n,x.sl,x.of,_,rfl,⟨h,rfl⟩, ?_⟩) fun h1=> ?_
 ·rw [keepA,show (x.pe==pe)=true from h1];rfl
 ·rw [keepA,show (x.pe==pe)=false from h1];rfl
def cPos2 (args:List AV) (K:AV→Prop):Prop:=∃(s:SideT) (us:List UseT) (gs:List GraT) (n:NearT) (x:AskT) (pe:Int) (q:Bool),args= [askA x, .rptr [i64 pe], .rptr [.fn (.func 38) (posC s us gs n)]]∧(AskOk s us gs n∧q=keepA s us gs n pe x)∧K (.d (bo q))
theorem BXl9:∀args K,cPos2 args K→∃x,PCall prog 41 args x∧K x:=by
 rintro _ K ⟨s,us,gs,n,x,pe,_,rfl,⟨h,rfl⟩,hk⟩;exact ⟨_,CGz9 s us gs n x pe h,hk⟩
noncomputable def lpOA:Code:=sub [1,1,0,1,2,3] (code f40)
def fnOA (s:SideT) (us:List UseT) (gs:List GraT) (n:NearT) (pe:Int):AV:= .fn (.func 41) [] [.rptr [i64 pe], .rptr [.fn (.func 38) (posC s us gs n)]]
def tmOA (f x:AV) (l:List AskT) (i:Int):List AV:= [.bad,f, .bad, .bad, .bad,x, .bad, .bad, .d (.sl 3 (rowsA l)), .d (i64 l.length), .d (i64 i)]++Zap 12 .bad
def TOA:List (Nat×(List AV→(AV→Prop)→Prop)):= [(41,cPos2)]
theorem BOp9:AAc9 prog TOA:=Zaj BXl9 Zak
abbrev Qz11 (v0:SideT) (v1:List UseT) (v2:List GraT) (v3:NearT):= [Zdr [Zdr (Qz2 v0)],Zdr [Zan 4 (rowsU v1),Zan 5 (rowsG v2),Zdy (.slice none 0 0)],Zdr (nearR v3)]
theorem rOA0 (s:SideT) (us:List UseT) (gs:List GraT) (n:NearT) (pe:Int) (l:List AskT) (i:Int):wpc prog ⟨TOA,GCA,wl,y,false⟩ 100 lpOA (tmOA (fnOA s us gs n pe) (.d (.s (.slice none 0 0))) l i) [] b (maskT [1,5,8,9,10] K)=(BIf (decide (i<((Zaa l:Nat):Int))) (BIf (true&&decide (0≤i)) (∃(x0:Int) (x1:Int) (x2:Int),(rowsA l)[Zam i]? =some [i64 x0,i64 x1,i64 x2]∧∃(s5:SideT) (us6:List UseT) (gs7:List GraT) (n8:NearT) (x9:AskT) (pe10:Int) (q11:Bool), [Zaq (Qz31 x0 x1 x2),Zag [i64 pe],Zag [Zcq (Fn.func 38) (Qz11 s us gs n)]]= [Zaq (Qz12 x9),Zag [i64 pe10],Zag [Zcq (Fn.func 38) (Qz11 s5 us6 gs7 n8)]]∧(((Zaa (Zau s5)≤9223372036854775807∧(∀(x:NearT),x∈Zau s5→AAy9 x)∧layOk (Zcg s5)=true)∧(Zaa us6<10000∧Zaa gs7<10000)∧Zaa (Zcp n8)<10000∧Zaa (Zck n8)<10000)∧q11=keepA s5 us6 gs7 n8 pe10 x9)∧BIf q11 (K .normal (Zab::Zax (Fn.func 41) [] [Zag [i64 pe],Zag [Zcq (Fn.func 38) (Qz11 s us gs n)]]::bds 3 (Zbl 1 0 1 3::Zab::Zab::Zae (Zan 3 (rowsA l))::Zae (i64 ((Zaa l:Nat):Int))::Zae (i64 (Zad .i64 (i+1)))::bds 12 [])) [Blk.mk (Qz31 x0 x1 x2) false false 0,Blk.mk (Qz31 x0 x1 x2) false true 0] b) (K .normal (Zab::Zax (Fn.func 41) [] [Zag [i64 pe],Zag [Zcq (Fn.func 38) (Qz11 s us gs n)]]::bds 3 (Zae (Zdy (.slice none 0 0))::Zab::Zab::Zae (Zan 3 (rowsA l))::Zae (i64 ((Zaa l:Nat):Int))::Zae (i64 (Zad .i64 (i+1)))::bds 12 [])) [Blk.mk (Qz31 x0 x1 x2) false false 0] b)) False) (K (Zbj 0) (Zab::Zax (Fn.func 41) [] [Zag [i64 pe],Zag [Zcq (Fn.func 38) (Qz11 s us gs n)]]::bds 3 (Zae (Zdy (.slice none 0 0))::Zab::Zab::Zae (Zan 3 (rowsA l))::Zae (i64 ((Zaa l:Nat):Int))::Zae (i64 i)::bds 12 [])) [] b)):=by kernel_rfl
theorem rOAn (s:SideT) (us:List UseT) (gs:List GraT) (n:NearT) (pe:Int) (l:List AskT) (i:Int):wpc prog ⟨TOA,GCA,wl,y,false⟩ 100 lpOA (tmOA (fnOA s us gs n pe) (.d (.s (.slice none 0 0))) l i) [] b (maskK 0 [1,5,8,9,10] K)=(BIf (decide (i<((Zaa l:Nat):Int))) (BIf (true&&decide (0≤i)) (∃(x0:Int) (x1:Int) (x2:Int),(rowsA l)[Zam i]? =some [i64 x0,i64 x1,i64 x2]∧∃(s5:SideT) (us6:List UseT) (gs7:List GraT) (n8:NearT) (x9:AskT) (pe10:Int) (q11:Bool), [Zaq (Qz31 x0 x1 x2),Zag [i64 pe],Zag [Zcq (Fn.func 38) (Qz11 s us gs n)]]= [Zaq (Qz12 x9),Zag [i64 pe10],Zag [Zcq (Fn.func 38) (Qz11 s5 us6 gs7 n8)]]∧(((Zaa (Zau s5)≤9223372036854775807∧(∀(x:NearT),x∈Zau s5→AAy9 x)∧layOk (Zcg s5)=true)∧(Zaa us6<10000∧Zaa gs7<10000)∧Zaa (Zcp n8)<10000∧Zaa (Zck n8)<10000)∧q11=keepA s5 us6 gs7 n8 pe10 x9)∧BIf q11 (K .normal (Zab::Zax (Fn.func 41) [] [Zag [i64 pe],Zag [Zcq (Fn.func 38) (Qz11 s us gs n)]]::bds 6 (Zae (Zan 3 (rowsA l))::Zae (i64 ((Zaa l:Nat):Int))::Zae (i64 (Zad .i64 (i+1)))::bds 12 [])) [] b) (K .normal (Zab::Zax (Fn.func 41) [] [Zag [i64 pe],Zag [Zcq (Fn.func 38) (Qz11 s us gs n)]]::bds 3 (Zae (Zdy (.slice none 0 0))::Zab::Zab::Zae (Zan 3 (rowsA l))::Zae (i64 ((Zaa l:Nat):Int))::Zae (i64 (Zad .i64 (i+1)))::bds 12 [])) [] b)) False) (K (Zbj 0) (Zab::Zax (Fn.func 41) [] [Zag [i64 pe],Zag [Zcq (Fn.func 38) (Qz11 s us gs n)]]::bds 3 (Zae (Zdy (.slice none 0 0))::Zab::Zab::Zae (Zan 3 (rowsA l))::Zae (i64 ((Zaa l:Nat):Int))::Zae (i64 i)::bds 12 [])) [] b)):=by kernel_rfl
theorem rOA1 (s:SideT) (us:List UseT) (gs:List GraT) (n:NearT) (pe:Int) (l:List AskT) (i:Int) (v m:Nat) (c0 cs:List AV):wpc prog ⟨TOA,GCA,wl,y,false⟩ 100 lpOA (tmOA (fnOA s us gs n pe) (.gref 1 v m 3) l i) [junkB c0,growB v cs] b (maskK 2 [1,5,8,9,10] K)=(BIf (decide (i<((Zaa l:Nat):Int))) (BIf (true&&decide (0≤i)) (∃(x0:Int) (x1:Int) (x2:Int),(rowsA l)[Zam i]? =some [i64 x0,i64 x1,i64 x2]∧∃(s5:SideT) (us6:List UseT) (gs7:List GraT) (n8:NearT) (x9:AskT) (pe10:Int) (q11:Bool), [Zaq (Qz31 x0 x1 x2),Zag [i64 pe],Zag [Zcq (Fn.func 38) (Qz11 s us gs n)]]= [Zaq (Qz12 x9),Zag [i64 pe10],Zag [Zcq (Fn.func 38) (Qz11 s5 us6 gs7 n8)]]∧(((Zaa (Zau s5)≤9223372036854775807∧(∀(x:NearT),x∈Zau s5→AAy9 x)∧layOk (Zcg s5)=true)∧(Zaa us6<10000∧Zaa gs7<10000)∧Zaa (Zcp n8)<10000∧Zaa (Zck n8)<10000)∧q11=keepA s5 us6 gs7 n8 pe10 x9)∧BIf q11 (v=v∧BIf (decide ((m+1)*24≤140737488355328)) (BIf (Zbk [Blk.mk c0 false false 0,Blk.mk (cs++(Qz31 x0 x1 x2)) false true (v+1)] fun (blk12:Blk)=>lows 2 blk12.1) (K .normal (Zab::Zax (Fn.func 41) [] [Zag [i64 pe],Zag [Zcq (Fn.func 38) (Qz11 s us gs n)]]::bds 3 (Zbl 1 (v+1) (m+1) 3::Zab::Zab::Zae (Zan 3 (rowsA l))::Zae (i64 ((Zaa l:Nat):Int))::Zae (i64 (Zad .i64 (i+1)))::bds 12 [])) [Blk.mk c0 false false 0,Blk.mk (cs++(Qz31 x0 x1 x2)) false true (v+1)] b) False) False) (BIf (Zbk [Blk.mk c0 false false 0,Blk.mk cs false true v] fun (blk13:Blk)=>lows 2 blk13.1) (K .normal (Zab::Zax (Fn.func 41) [] [Zag [i64 pe],Zag [Zcq (Fn.func 38) (Qz11 s us gs n)]]::bds 3 (Zbl 1 v m 3::Zab::Zab::Zae (Zan 3 (rowsA l))::Zae (i64 ((Zaa l:Nat):Int))::Zae (i64 (Zad .i64 (i+1)))::bds 12 [])) [Blk.mk c0 false false 0,Blk.mk cs false true v] b) False)) False) (BIf (Zbk [Blk.mk c0 false false 0,Blk.mk cs false true v] fun (blk14:Blk)=>lows 2 blk14.1) (K (Zbj 0) (Zab::Zax (Fn.func 41) [] [Zag [i64 pe],Zag [Zcq (Fn.func 38) (Qz11 s us gs n)]]::bds 3 (Zbl 1 v m 3::Zab::Zab::Zae (Zan 3 (rowsA l))::Zae (i64 ((Zaa l:Nat):Int))::Zae (i64 i)::bds 12 [])) [Blk.mk c0 false false 0,Blk.mk cs false true v] b) False)):=by kernel_rfl
def junk3:Blk:=⟨[.bad, .bad, .bad],false,false,0⟩
def oaA (q:List AskT):AV:=if q.isEmpty then .d (.s (.slice none 0 0)) else .gref 1 (q.length - 1) q.length 3
def oaB (q:List AskT):List Blk:=if q.isEmpty then [] else [junk3,growB (q.length - 1) (flatA (rowsA q))]
theorem APl9 {α:Type} (p:α→Bool) {l:List α} {i:Nat} {a:α} (h:l[i]? =some a):(l.take (i+1)).filter p=(l.take i).filter p++(if p a=true then [a] else []):=by
 rw [Zfm,h,List.filter_append];simp only [Option.toList_some,List.filter_cons,List.filter_nil]
theorem wrOA1 {Ev:Env prog} {b:Ev.β} {Q:Exit→St Ev.β→Prop} (s:SideT) (us:List UseT) (gs:List GraT) (n:NearT) (pe:Int) (l:List AskT) (h:AskOk s us gs n) (hl:l.length<1000000) (j0:Nat) (hj0:(l.take j0).filter (keepA s us gs n pe)≠ []) (hj:j0≤l.length)
 (hQ:Q (.exit 0) ⟨tmOA (fnOA s us gs n pe) (.gref 1 ((l.filter (keepA s us gs n pe)).length - 1) (l.filter (keepA s us gs n pe)).length 3) l l.length, [junk3,growB ((l.filter (keepA s us gs n pe)).length - 1) (flatA (rowsA (l.filter (keepA s us gs n pe))))],b⟩):
 WR Ev lpOA (l.length - j0+1) ⟨tmOA (fnOA s us gs n pe) (.gref 1 (((l.take j0).filter (keepA s us gs n pe)).length - 1) ((l.take j0).filter (keepA s us gs n pe)).length 3) l (j0:Nat), [junk3,growB (((l.take j0).filter (keepA s us gs n pe)).length - 1) (flatA (rowsA ((l.take j0).filter (keepA s us gs n pe))))],b⟩ Q:=by
 have low:∀(v:Nat) (z:List AskT),Zbk [junk3,growB v (flatA (rowsA z))] (fun blk=>lows 2 blk.1)=true:=fun v z=>by
  simp only [List.all_cons,List.all_nil,Bool.and_true,Zai];exact ⟨rfl,ACu9 2 _⟩
 have hne:∀j,j0≤j→0<((l.take j).filter (keepA s us gs n pe)).length:=fun j hj=>by
  have h1:(l.take j0).Sublist (l.take j):=by rw [←Nat.min_eq_left hj,←List.take_take];exact List.take_sublist _ _
  have h2:=(h1.filter (keepA s us gs n pe)).length_le;have h3:=List.length_pos_iff.2 hj0;omega
 refine WR.scanG (X:=⟨TOA,GCA,wlW Ev,Ev.Y,false⟩) (k:=100) (L:=2) [1,5,8,9,10] mixed (CX.Ok.of BOp9 AVn9) l (fun _=>false) (fun j=>tmOA (fnOA s us gs n pe) (.gref 1 (((l.take j).filter (keepA s us gs n pe)).length - 1) ((l.take j).filter (keepA s us gs n pe)).length 3) l (j:Nat)) (fun j=> [junk3,growB (((l.take j).filter (keepA s us gs n pe)).length - 1) (flatA (rowsA ((l.take j).filter (keepA s us gs n pe))))]) (fun _=>rfl) 0 j0 (fun j a hsj hjl ha K _ k2=> ?_) (fun K k1=> ?_) (fun _=>by rw [Zdd];exact hQ) (fun h=>by simp at h) (l.length - j0) j0 (by omega) (Zaw _) rfl
 ·have hk:=k2 rfl;have hpos:=hne j hsj;have hle:((l.take j).filter (keepA s us gs n pe)).length≤j:=Nat.le_trans (Zfz _ _) (List.length_take_le _ _);rw [APl9 _ ha] at hk;generalize (l.take j).filter (keepA s us gs n pe)=z at hk hpos hle ⊢;refine Eq.mpr (rOA1 _ _ _ K s us gs n pe l j (z.length - 1) z.length [.bad, .bad, .bad] _) ?_;refine Zaz (by simp;omega) (Zaz (natI j) ⟨_,_,_,ABk9 ha,s,us,gs,n,a,pe,_,rfl,⟨h,rfl⟩,Zba (fun h1=>⟨rfl,Zaz (by simp;omega) ?_⟩) fun h1=> ?_⟩)
  ·rw [if_pos h1] at hk;have e:flatA (rowsA (z++ [a]))=flatA (rowsA z)++ [Zae (i64 a.sl),Zae (i64 a.of),Zae (i64 a.pe)]:=by
    have f:∀l:List AskT,flatA (rowsA l)=flatA (l.map askR):=fun _=>rfl;rw [f,f,AUn9];rfl
   have el:(z++ [a]).length=z.length+1:=by simp
   have ev:z.length+1 - 1=z.length - 1+1:=by omega
   have hl2:=low (z.length - 1+1) (z++ [a]);rw [e] at hl2;rw [el,ev,e] at hk;rw [wrapN (by omega)];exact Zaz hl2 hk
  ·have h1':¬keepA s us gs n pe a=true:=by rw [h1];decide
   rw [if_neg h1',Zdu] at hk;rw [wrapN (by omega)];exact Zaz (low _ z) hk
 ·refine Eq.mpr (rOA1 _ _ _ K s us gs n pe l l.length _ _ [.bad, .bad, .bad] _) ?_;exact Zda (by simp) (Zaz (low _ _) k1)
theorem wrOA {Ev:Env prog} {b:Ev.β} {Q:Exit→St Ev.β→Prop} (s:SideT) (us:List UseT) (gs:List GraT) (n:NearT) (pe:Int) (l:List AskT) (h:AskOk s us gs n) (hl:l.length<1000000)
 (hQ:Q (.exit 0) ⟨tmOA (fnOA s us gs n pe) (oaA (l.filter (keepA s us gs n pe))) l l.length,oaB (l.filter (keepA s us gs n pe)),b⟩):
 ∀(m i:Nat),i+m=l.length→(l.take i).filter (keepA s us gs n pe)= []→WR Ev lpOA (m+1) ⟨tmOA (fnOA s us gs n pe) (.d (.s (.slice none 0 0))) l (i:Nat), [],b⟩ Q
 | 0,i,hi,hf=>by
  have e:i=l.length:=by omega
  subst e;rw [Zdd] at hf;rw [hf] at hQ;refine Zdj (X:=⟨TOA,GCA,wlW Ev,Ev.Y,false⟩) (k:=100) [1,5,8,9,10] mixed (CX.Ok.of BOp9 AVn9) ?_;refine Eq.mpr (rOAn _ _ _ _ s us gs n pe l l.length) ?_;exact Zda (by simp) hQ
 | m+1,i,hi,hf=>by
  have hil:i<l.length:=by omega
  have ha:l[i]? =some l[i]:=Zbb hil;cases hk:keepA s us gs n pe l[i] with
  | false=>
   refine Zdj (X:=⟨TOA,GCA,wlW Ev,Ev.Y,false⟩) (k:=100) [1,5,8,9,10] mixed (CX.Ok.of BOp9 AVn9) ?_;refine Eq.mpr (rOAn _ _ _ _ s us gs n pe l i) ?_;refine Zaz (by simp;omega) (Zaz (natI i) ⟨_,_,_,ABk9 ha,s,us,gs,n,l[i],pe,_,rfl,⟨h,rfl⟩,Zda hk ?_⟩);rw [wrapN (by omega)];exact wrOA s us gs n pe l h hl hQ m (i+1) (by omega) (by rw [APl9 _ ha,hf,hk];rfl)
  | true=>
   have hf1:(l.take (i+1)).filter (keepA s us gs n pe)= [l[i]]:=by rw [APl9 _ ha,hf,hk];rfl
   have hfl:l.filter (keepA s us gs n pe)≠ []:=fun e=>by
    have:l[i]∈l.filter (keepA s us gs n pe):=List.mem_filter.2 ⟨List.getElem_mem hil,hk⟩;rw [e] at this;cases this
   have h1:=wrOA1 (Q:=Q) (b:=b) s us gs n pe l h hl (i+1) (by rw [hf1];simp) (by omega) (by
    have e:(l.filter (keepA s us gs n pe)).isEmpty=false:=by simpa using hfl
    rw [oaA,oaB,e] at hQ;exact hQ)
   rw [hf1,show l.length - (i+1)=m by omega] at h1;refine WR.ofMaskT (X:=⟨TOA,GCA,wlW Ev,Ev.Y,false⟩) (k:=100) [1,5,8,9,10] mixed (CX.Ok.of BOp9 AVn9) ?_;refine Eq.mpr (rOA0 _ _ _ _ s us gs n pe l i) ?_;refine Zaz (by simp;omega) (Zaz (natI i) ⟨_,_,_,ABk9 ha,s,us,gs,n,l[i],pe,_,rfl,⟨h,rfl⟩,Zaz hk ?_⟩);rw [wrapN (by omega)];exact WR.cast (LeL.refl _) (LeH.at [] [_] (.cons .bad (.cons .bad (.cons .bad .nil)))) h1
def wlOA {β:Type}:WLT β:=fun cd tm hp b K=>∃(s:SideT) (us:List UseT) (gs:List GraT) (n:NearT) (pe:Int) (l q:List AskT),cd= .loop lpOA∧AAv9 [1,5,8,9,10] 0 tm=tmOA (fnOA s us gs n pe) (.d (.s (.slice none 0 0))) l 0∧hp= []∧(AskOk s us gs n∧l.length<1000000∧q=l.filter (keepA s us gs n pe))∧BIf q.isEmpty (K (.exit 0) (tmOA (fnOA s us gs n pe) (.d (.s (.slice none 0 0))) l l.length) [] b) (K (.exit 0) (tmOA (fnOA s us gs n pe) (.gref 1 (q.length - 1) q.length 3) l l.length) [junk3,growB (q.length - 1) (flatA (rowsA q))] b)
theorem BZx9 {Ev:Env prog} (c:Code) (tm:List AV) (hp:List Blk) (b:Ev.β) (K:Exit→List AV→List Blk→Ev.β→Prop) (h:wlOA c tm hp b K):W Ev c ⟨tm,hp,b⟩ (fun e s=>K e s.tm s.hp s.b):=by
 obtain ⟨s,us,gs,n,pe,l,q,rfl,htm,rfl,⟨h,hl,rfl⟩,hK⟩:=h;refine W.cast (htm▸AAb9 _ tm 0) (Zbp _) ?_;refine W.rounds (wrOA (Q:=fun e s=>K e s.tm s.hp s.b) s us gs n pe l h hl ?_ l.length 0 (by omega) rfl);rw [oaA,oaB];cases he:(l.filter (keepA s us gs n pe)).isEmpty with
 |true=>rw [he] at hK;exact hK
 |false=>rw [he] at hK;exact hK
theorem BVa9 (s:SideT) (us:List UseT) (gs:List GraT) (n:NearT) (pe:Int) (l:List AskT):wpFnS prog ⟨[], [],wlOA,y,false⟩ 100 f40 [.d (.sl 3 (rowsA l)),fnOA s us gs n pe] b Kr=(∃(s0:SideT) (us1:List UseT) (gs2:List GraT) (n3:NearT) (pe4:Int) (l5:List AskT) (q6:List AskT),Zat lpOA=Zat lpOA∧(Zab::Zax (Fn.func 41) [] [Zag [i64 pe],Zag [Zcq (Fn.func 38) (Qz11 s us gs n)]]::bds 3 (Zae (Zdy (.slice none 0 0))::Zab::Zab::Zae (Zan 3 (rowsA l))::Zae (i64 ((Zaa (rowsA l):Nat):Int))::Zae (i64 0)::bds 12 []))=(Zab::Zax (Fn.func 41) [] [Zag [i64 pe4],Zag [Zcq (Fn.func 38) (Qz11 s0 us1 gs2 n3)]]::bds 3 (Zae (Zdy (.slice none 0 0))::Zab::Zab::Zae (Zan 3 (rowsA l5))::Zae (i64 ((Zaa l5:Nat):Int))::Zae (i64 0)::bds 12 []))∧([]:List Blk)= []∧(((Zaa (Zau s0)≤9223372036854775807∧(∀(x:NearT),x∈Zau s0→AAy9 x)∧layOk (Zcg s0)=true)∧(Zaa us1<10000∧Zaa gs2<10000)∧Zaa (Zcp n3)<10000∧Zaa (Zck n3)<10000)∧Zaa l5<1000000∧q6=List.filter (keepA s0 us1 gs2 n3 pe4) l5)∧BIf (Zfw q6) (Kr (Zae (Zdy (.slice none 0 0))) [] b) (Kr (Zbl 1 (Zaa q6 - 1) (Zaa q6) 3) [Blk.mk [bad,bad,bad] false false 0,Blk.mk (flatA (rowsA q6)) false true (Zaa q6 - 1)] b)):=by kernel_rfl
def freeA:AV→Bool
 | .d (.s _)=>true
 | .gref .. =>true
 | .bad=>true
 |_=>false
theorem RV.free {S S':Pr} {w:World} {m:List MB} {yv:Option Nat} {x:AV} {v:Value} (hx:freeA x=true) (h:RV S w m yv x v):RV S' w m yv x v:=by
 cases h with
 | d h=>cases h with
  |s v=>exact .d (.s v)
  |sl=>cases hx
  |nil=>cases hx
  |pt=>cases hx
  |fn=>cases hx
 |gref h hv h1 hc=>exact .gref h hv h1 hc
 |bad=>exact .bad
 |_=>cases hx
theorem BLu9 {x:AV} {v:Value} (hx:freeA x=true):ownB (x,v)=none:=by
 cases x<;>first|rfl|cases hx
theorem FCall.lendS {P:Program} {f:Nat} {args args':List AV} {r:AV} {hp hp1:List Blk} (h:FCall P f args' r hp1) (hl':args.length=args'.length)
 (hs:∀(i:Nat) (c y:AV),args[i]? =some c→args'[i]? =some y→SealD hp c y) (hr:freeA r.view=true) (hc:∀blk∈hp1,blk.fro=false∧∀c∈blk.cells,freeA c=true):
 SCall P f args hp (shift hp.length r) (hp++AGb9 hp.length hp1):=by
 refine ⟨h.1,fun S X yv w m B hv vs hl hrel=> ?_⟩;have hr0:Rel S X yv w m (B++AAa9 hp hv) hp hv:=hrel.sub (List.sublist_append_right _ _);have hargs:∀(i:Nat) (x:AV) (v:Value),args'[i]? =some x→vs[i]? =some v→RV (AAz9 S m) w [] none x v:=by
  intro i x v h1 h2;have hi:i<args.length:=by rw [hl'];exact (Zac.1 h1).1
  have h3:args[i]? =some args[i]:=by simp [hi]
  have hm:(args[i],v)∈args.zip vs:=List.mem_iff_getElem?.2 ⟨i,by rw [Zbe];exact ⟨h3,h2⟩⟩;exact ADb9 (B:=B) hr0 (fun _ _ h=> .inl h) (hs i _ _ h3 h1) (fun g _ p hp i hi=> .inr ⟨g,p,hp,rfl,hi⟩) (hrel.rv _ (List.mem_append_left _ hm))
 have hlt:∀b i,AAz9 S m b i→b<w.heap.size:=by
  rintro b i (hb|⟨g,p,hg,rfl,hi⟩)
  ·exact hrel.lt b i (.inl hb)
  ·exact hrel.mLt p (Zbn hg)
 have hgl:Glob (AAz9 S m) w:=fun g j v hv=>by
  obtain ⟨h1,h2,h3⟩:=hrel.gl g j v hv;exact ⟨.inl h1,h2,h3⟩
 refine CallsIn.mono (h.2 (AAz9 S m) w vs (by rw [←hl',hl]) hargs hlt hgl) ?_;rintro e w' ⟨v,S0,m1,hv1,rfl,hb,h1,h2,h3,h4⟩;have hup:∀b i,S b i→(fun b i=>S b i∨(w.heap.size≤b∧S0 b i)) b i:=fun b i h=> .inl h;have hnew:∀b i,(fun b i=>S b i∨(w.heap.size≤b∧S0 b i)) b i→S b i∨(w.heap.size≤b∧b<w'.heap.size):=fun b i h=>h.imp id fun h=>⟨h.1,h4.lt b i (.inl h.2)⟩;have hr1:=hr0.below hb hup hnew;have hA:∀p∈(r.view,v)::AAa9 hp1 hv1,freeA p.1=true:=by
  intro p hp;rcases Zbw.1 hp with rfl|hp
  ·exact hr
  ·simp only [AAa9,List.mem_flatMap] at hp;obtain ⟨q,hq,hpq⟩:=hp;exact (hc q.1 (List.of_mem_zip hq).1).2 p.1 (List.of_mem_zip hpq).1
 have hno:∀p∈(r.view,v)::AAa9 hp1 hv1,ownB p=none:=fun p hp=>BLu9 (v:=p.2) (hA p hp);have h4':Rel (fun b i=>S b i∨(w.heap.size≤b∧S0 b i)) (fun b _=>b<w.heap.size) none w' m1 ((r.view,v)::AAa9 hp1 hv1) hp1 hv1:=by
  refine ⟨fun b i h=> ?_,fun p hp=>(h4.rv p hp).free (hA p hp),h4.pw,h4.nm,fun p hp b hbb=> ?_,h4.mnd,h4.ml,h4.hl,fun g blk p us e1 e2 e3=> ?_,hr1.gl⟩
  ·rcases h with (h|h)|h
   ·exact hr1.lt b i (.inl (.inl h))
   ·exact h4.lt b i (.inl h.2)
   ·exact h4.lt b i (.inr h)
  ·rw [hno p hp] at hbb;cases hbb
  ·obtain ⟨a1,a2,a3,a4,a5,a6,a9,a10⟩:=h4.bl g blk p us e1 e2 e3;have hf:=(hc blk (Zbn e1)).1;have hpb:=h3 p (Zbn e2);refine ⟨a1,a2,a3,a4,a5,a6,fun _ i=>⟨fun hS=> ?_,(a9 hf i).2⟩,fun h=>by rw [hf] at h;cases h⟩;rcases hS with hS|hS
   ·have:=hrel.lt p.b i (.inl hS);omega
   ·exact (a9 hf i).1 hS.2
 have hM:=hr1.merge h4' (fun b i hx=>hrel.lt b i (.inr hx)) hrel.mLt h3 hr0.ownLt;refine ⟨v,_,m++m1,hv++hv1,rfl,⟨AAk9 hb _,hup,fun b i hs=>(hnew b i hs).imp id fun hh hx=>by have:=hrel.lt b i (.inr hx);omega,fun g q hq=> .inl (by rw [Zar (Zac.1 hq).1];exact hq)⟩, ?_⟩;rw [←hrel.ml,AQd9];refine hM.perm ?_;rw [Zdn,←AEo9,AJq9 hrel.hl];simp only;refine (List.perm_middle).trans (List.Perm.cons _ ?_);rw [Zbq]
theorem fcOA (s:SideT) (us:List UseT) (gs:List GraT) (n:NearT) (pe:Int) (l:List AskT) (h:AskOk s us gs n) (hl:l.length<1000000):
 FCall prog 40 [.d (.sl 3 (rowsA l)),fnOA s us gs n pe] (oaA (l.filter (keepA s us gs n pe))) (oaB (l.filter (keepA s us gs n pe))):=by
 refine FCall.ofFnW (n:=100) (u:=false) (fun _=>wlOA) mixed Zak Zah (fun Ev=>BZx9) func40 (by rfl) (by rfl) (by unfold oaB;split<;>rfl) fun Ev bb=> ?_;rw [BVa9,AAn9];refine ⟨s,us,gs,n,pe,l,_,rfl,rfl,rfl,⟨h,hl,rfl⟩, ?_⟩;rw [oaA,oaB];cases he:(l.filter (keepA s us gs n pe)).isEmpty with
 |true=>exact ⟨rfl,rfl⟩
 |false=>exact ⟨rfl,rfl⟩
def sOA (args:List AV) (hp:List Blk) (K:AV→List Blk→Prop):Prop:=AGc9 hp 200 args fun args'=>∃(s:SideT) (us:List UseT) (gs:List GraT) (n:NearT) (pe:Int) (l q:List AskT),args'= [.d (.sl 3 (rowsA l)),fnOA s us gs n pe]∧(AskOk s us gs n∧l.length<1000000∧q=l.filter (keepA s us gs n pe))∧
 BIf q.isEmpty (K (.d (.s (.slice none 0 0))) hp) (K (.gref (hp.length+1) (q.length - 1) q.length 3) (hp++ [junk3,growB (q.length - 1) (flatA (rowsA q))]))
theorem CGp9:∀args hp K,sOA args hp K→∃x hp',SCall prog 40 args hp x hp'∧K x hp':=by
 intro args hp K h;obtain ⟨args',hl,hs,s,us,gs,n,pe,l,_,rfl,⟨ha,hll,rfl⟩,hK⟩:=ABv9 h;have h1:=(fcOA s us gs n pe l ha hll).lendS (hp:=hp) hl hs (by unfold oaA;split<;>rfl) (by
  intro blk hb;unfold oaB at hb;split at hb
  ·cases hb
  ·rcases Zbw.1 hb with rfl|hb
   ·exact ⟨rfl,by simp [junk3,freeA]⟩
   ·rcases Zbw.1 hb with rfl|hb
    ·refine ⟨rfl,fun c hc=> ?_⟩;simp only [growB,flatA,Zbg,List.mem_flatten,rowsA] at hc;obtain ⟨d,⟨row,⟨a,_,rfl⟩,hd⟩,rfl⟩:=hc;simp only [askR,Zbw,List.not_mem_nil,or_false] at hd;rcases hd with rfl|rfl|rfl<;>rfl
    ·cases hb)
 refine ⟨_,_,h1, ?_⟩;cases he:(l.filter (keepA s us gs n pe)).isEmpty with
 | true=>
  rw [he] at hK;rw [oaA,oaB,he];simp only [if_true,shift,AGb9,List.map_nil,Zdu];exact hK
 | false=>
  rw [he] at hK;rw [oaA,oaB,he];simp only [Zee,if_false,shift,AGb9,Zdn,List.map_nil,AQu9,junk3,growB,AHe9,AJv9];exact hK
theorem BUi9 (sl of:Int):PCall prog 43 [.d (.s (.slice none 0 0)), .fn (.func 44) [] [.rptr [i64 sl,i64 of]]] (.d (bo false)):=by
 obtain ⟨x,hx,hk⟩:=ANx9 [.d (.sl 3 (rowsA [])), .fn (.func 44) [] [.rptr [i64 sl,i64 of]]] (fun x=>x= .d (bo false)) ⟨[],sl,of,_,rfl,⟨by simp,rfl⟩,rfl⟩;subst hk;exact hx.semArgs (.cons (SemV.ofLeV (.nil rfl)) (.cons SemV.rfl .nil))
def BQq9 (args:List AV) (K:AV→Prop):Prop:=∃(sl of:Int),args= [.d (.s (.slice none 0 0)), .fn (.func 44) [] [.rptr [i64 sl,i64 of]]]∧K (.d (bo false))
theorem BHt9:∀args K,BQq9 args K→∃x,PCall prog 43 args x∧K x:=by
 rintro _ K ⟨sl,of,rfl,hk⟩;exact ⟨_,BUi9 sl of,hk⟩
noncomputable def rfAk:Code:=sub [1,1,1,1,1,1,1,1,1,1,0,1,2] (code f12)
theorem ARa9:rfAk= .rangeFunc (.tmp 63) #[64] (AGl9 rfAk) (ASw9 rfAk):=by kernel_rfl
def tmAk (s:SideT) (k:Nat):List AV:=Zap 8 .bad++ [.ptr 1 0, .bad, .bad, .ptr 2 0, .ptr 3 0, .bad, .ptr 4 0, .bad, .bad, .bad, .bad, .bad, .ptr 7 0, .ptr k 0]++Zap 41 .bad++ [.fn (.func 89) [] [.rptr [.pt (sideD s)]]]++Zap 25 .bad
def tbB (us:List UseT) (gs:List GraT):Blk:=⟨(tblN us gs).map .d,false,false,0⟩
def akB (ly:LayT) (us:List UseT) (gs:List GraT) (pe many:Int) (s:SideT) (n:NearT):List Blk:= [layB ly,tbB us gs,boxA (.d (i64 pe)),boxA (.d (i64 many)),resB,boxA (.rptr (sideD s)),nearB n,boxA (.fn (.func 38) [] [.ptr 5 0, .ptr 1 0, .ptr 6 0])]
def UAkN:List (Nat×(List AV→List Blk→(AV→List Blk→Prop)→Prop)):= [(38,lendC cPos1),(43,lendC BQq9),(1000063,fun _ _ _=>False)]
theorem BJb9:AAl9 prog UAkN:=Zbr (AFk9 AUs9) (Zbr (AFk9 BHt9) AVn9)
def UAk:List (Nat×(List AV→List Blk→(AV→List Blk→Prop)→Prop)):= [(38,lendC cPos1),(43,lendC BHs9),(1000063,fun _ _ _=>False)]
theorem CFn9:AAl9 prog UAk:=Zbr (AFk9 AUs9) (Zbr (AFk9 ANx9) AVn9)
def hpN (ly:LayT) (us:List UseT) (gs:List GraT) (pe many:Int) (s:SideT) (n:NearT):List Blk:=akB ly us gs pe many s n++ [boxA (.d (.s (.slice none 0 0)))]
def hpBc (ly:LayT) (us:List UseT) (gs:List GraT) (pe many:Int) (s:SideT) (n:NearT) (v m:Nat) (c0 cs:List AV):List Blk:=akB ly us gs pe many s n++ [boxA (.gref 10 v m 3),junkB c0,growB v cs]
def hpAc (ly:LayT) (us:List UseT) (gs:List GraT) (pe many:Int) (s:SideT) (n:NearT) (v m:Nat) (cs:List AV):List Blk:=akB ly us gs pe many s n++ [junk3,growB v cs,boxA (.gref 9 v m 3)]
theorem rAkN (ly:LayT) (us:List UseT) (gs:List GraT) (pe many:Int) (s:SideT) (n:NearT) (sl of:Int):wpcY prog ⟨[],UAkN,wl,y,false⟩ 100 #[64] (AGl9 rfAk) (ASw9 rfAk) (tmAk s 8) [cellA sl of] (hpN ly us gs pe many s n) b (takeK 9 Kh)=(BIf (decide ((0:Int)≥many)) (Kh (Zbj 0) [Blk.mk (Qz3 ly) false false 0,Blk.mk (Qz8 us gs) false false 0,cell (i64 pe),cell (i64 many),Blk.mk Qz4 false false 0,Blk.mk [Zag (Qz2 s)] false false 0,nearB n,Blk.mk [Zax (Fn.func 38) [] [Zaf 5 0,Zaf 1 0,Zaf 6 0]] false false 0,cell (Zdy (.slice none 0 0))] b) (∃(s0:SideT) (us1:List UseT) (gs2:List GraT) (n3:NearT) (sl4:Int) (of5:Int) (q6:Bool),(Qz21 sl of s us gs n)=(Qz21 sl4 of5 s0 us1 gs2 n3)∧(((Zaa (Zau s0)≤9223372036854775807∧(∀(x:NearT),x∈Zau s0→AAy9 x)∧layOk (Zcg s0)=true)∧(Zaa us1<10000∧Zaa gs2<10000)∧Zaa (Zcp n3)<10000∧Zaa (Zck n3)<10000)∧q6=possS s0 (TabT.mk us1 gs2 []) n3 sl4 of5)∧BIf q6 (∃(sl7:Int) (of8:Int), [Zae (Zdy (.slice none 0 0)),Zax (Fn.func 44) [] [Zag [i64 sl,i64 of]]]= [Zae (Zdy (.slice none 0 0)),Zax (Fn.func 44) [] [Zag [i64 sl7,i64 of8]]]∧False) (Kh Zet [Blk.mk (Qz3 ly) false false 0,Blk.mk (Qz8 us gs) false false 0,cell (i64 pe),cell (i64 many),Blk.mk Qz4 false false 0,Blk.mk [Zag (Qz2 s)] false false 0,nearB n,Blk.mk [Zax (Fn.func 38) [] [Zaf 5 0,Zaf 1 0,Zaf 6 0]] false false 0,cell (Zdy (.slice none 0 0))] b))):=by kernel_rfl
theorem rAkC (ly:LayT) (us:List UseT) (gs:List GraT) (pe many:Int) (s:SideT) (n:NearT) (sl of:Int):wpcY prog ⟨[],UAkN,wl,y,false⟩ 100 #[64] (AGl9 rfAk) (ASw9 rfAk) (tmAk s 8) [cellA sl of] (hpN ly us gs pe many s n) b (takeK 11 Kh)=(BIf (decide ((0:Int)≥many)) (Kh (Zbj 0) [Blk.mk (Qz3 ly) false false 0,Blk.mk (Qz8 us gs) false false 0,cell (i64 pe),cell (i64 many),Blk.mk Qz4 false false 0,Blk.mk [Zag (Qz2 s)] false false 0,nearB n,Blk.mk [Zax (Fn.func 38) [] [Zaf 5 0,Zaf 1 0,Zaf 6 0]] false false 0,cell (Zdy (.slice none 0 0)),Blk.mk [Zae (i64 sl),Zae (i64 of)] false false 0] b) (∃(s0:SideT) (us1:List UseT) (gs2:List GraT) (n3:NearT) (sl4:Int) (of5:Int) (q6:Bool),(Qz21 sl of s us gs n)=(Qz21 sl4 of5 s0 us1 gs2 n3)∧(((Zaa (Zau s0)≤9223372036854775807∧(∀(x:NearT),x∈Zau s0→AAy9 x)∧layOk (Zcg s0)=true)∧(Zaa us1<10000∧Zaa gs2<10000)∧Zaa (Zcp n3)<10000∧Zaa (Zck n3)<10000)∧q6=possS s0 (TabT.mk us1 gs2 []) n3 sl4 of5)∧BIf q6 (∃(sl7:Int) (of8:Int), [Zae (Zdy (.slice none 0 0)),Zax (Fn.func 44) [] [Zag [i64 sl,i64 of]]]= [Zae (Zdy (.slice none 0 0)),Zax (Fn.func 44) [] [Zag [i64 sl7,i64 of8]]]∧Kh Zet [Blk.mk (Qz3 ly) false false 0,Blk.mk (Qz8 us gs) false false 0,cell (i64 pe),cell (i64 many),Blk.mk Qz4 false false 0,Blk.mk [Zag (Qz2 s)] false false 0,nearB n,Blk.mk [Zax (Fn.func 38) [] [Zaf 5 0,Zaf 1 0,Zaf 6 0]] false false 0,Blk.mk [Zbl 10 0 1 3] false false 0,Blk.mk [Zae (i64 sl),Zae (i64 of)] false false 0,Blk.mk (Qz31 sl of pe) false true 0] b) (Kh Zet [Blk.mk (Qz3 ly) false false 0,Blk.mk (Qz8 us gs) false false 0,cell (i64 pe),cell (i64 many),Blk.mk Qz4 false false 0,Blk.mk [Zag (Qz2 s)] false false 0,nearB n,Blk.mk [Zax (Fn.func 38) [] [Zaf 5 0,Zaf 1 0,Zaf 6 0]] false false 0,cell (Zdy (.slice none 0 0)),Blk.mk [Zae (i64 sl),Zae (i64 of)] false false 0] b))):=by kernel_rfl
theorem rAkB (ly:LayT) (us:List UseT) (gs:List GraT) (pe many:Int) (s:SideT) (n:NearT) (sl of:Int) (v m:Nat) (c0 cs:List AV):wpcY prog ⟨[],UAk,wl,y,false⟩ 100 #[64] (AGl9 rfAk) (ASw9 rfAk) (tmAk s 8) [cellA sl of] (hpBc ly us gs pe many s n v m c0 cs) b (takeK 11 Kh)=(v=v∧BIf (decide ((m:Int)≥many)) (BIf (Zbk [Blk.mk (Qz3 ly) false false 0,Blk.mk (Qz8 us gs) false false 0,cell (i64 pe),cell (i64 many),Blk.mk Qz4 false false 0,Blk.mk [Zag (Qz2 s)] false false 0,nearB n,Blk.mk [Zax (Fn.func 38) [] [Zaf 5 0,Zaf 1 0,Zaf 6 0]] false false 0,Blk.mk [Zbl 10 v m 3] false false 0,Blk.mk c0 false false 0,Blk.mk cs false true v] fun (blk0:Blk)=>lows 11 blk0.1) (Kh (Zbj 0) [Blk.mk (Qz3 ly) false false 0,Blk.mk (Qz8 us gs) false false 0,cell (i64 pe),cell (i64 many),Blk.mk Qz4 false false 0,Blk.mk [Zag (Qz2 s)] false false 0,nearB n,Blk.mk [Zax (Fn.func 38) [] [Zaf 5 0,Zaf 1 0,Zaf 6 0]] false false 0,Blk.mk [Zbl 10 v m 3] false false 0,Blk.mk c0 false false 0,Blk.mk cs false true v] b) False) (∃(s1:SideT) (us2:List UseT) (gs3:List GraT) (n4:NearT) (sl5:Int) (of6:Int) (q7:Bool),(Qz21 sl of s us gs n)=(Qz21 sl5 of6 s1 us2 gs3 n4)∧(((Zaa (Zau s1)≤9223372036854775807∧(∀(x:NearT),x∈Zau s1→AAy9 x)∧layOk (Zcg s1)=true)∧(Zaa us2<10000∧Zaa gs3<10000)∧Zaa (Zcp n4)<10000∧Zaa (Zck n4)<10000)∧q7=possS s1 (TabT.mk us2 gs3 []) n4 sl5 of6)∧BIf q7 (v=v∧∃(xs8:List (List Dv)),cs=flatA xs8∧Zaa xs8=m∧(∀(r:List Dv),r∈xs8→Zaa r=3)∧∃(l9:List AskT) (sl10:Int) (of11:Int) (q12:Bool), [Zae (Zan 3 xs8),Zax (Fn.func 44) [] [Zag [i64 sl,i64 of]]]= [Zae (Zan 3 (rowsA l9)),Zax (Fn.func 44) [] [Zag [i64 sl10,i64 of11]]]∧(Zaa l9≤9223372036854775807∧q12=Zcv l9 fun (x13:AskT)=>Zcr x13==sl10)∧BIf (!q12) (v=v∧BIf (decide ((m+1)*24≤140737488355328)) (BIf (Zbk [Blk.mk (Qz3 ly) false false 0,Blk.mk (Qz8 us gs) false false 0,cell (i64 pe),cell (i64 many),Blk.mk Qz4 false false 0,Blk.mk [Zag (Qz2 s)] false false 0,nearB n,Blk.mk [Zax (Fn.func 38) [] [Zaf 5 0,Zaf 1 0,Zaf 6 0]] false false 0,Blk.mk [Zbl 10 (v+1) (m+1) 3] false false 0,Blk.mk c0 false false 0,Blk.mk (cs++(Qz31 sl of pe)) false true (v+1)] fun (blk14:Blk)=>lows 11 blk14.1) (Kh Zet [Blk.mk (Qz3 ly) false false 0,Blk.mk (Qz8 us gs) false false 0,cell (i64 pe),cell (i64 many),Blk.mk Qz4 false false 0,Blk.mk [Zag (Qz2 s)] false false 0,nearB n,Blk.mk [Zax (Fn.func 38) [] [Zaf 5 0,Zaf 1 0,Zaf 6 0]] false false 0,Blk.mk [Zbl 10 (v+1) (m+1) 3] false false 0,Blk.mk c0 false false 0,Blk.mk (cs++(Qz31 sl of pe)) false true (v+1)] b) False) False) (BIf (Zbk [Blk.mk (Qz3 ly) false false 0,Blk.mk (Qz8 us gs) false false 0,cell (i64 pe),cell (i64 many),Blk.mk Qz4 false false 0,Blk.mk [Zag (Qz2 s)] false false 0,nearB n,Blk.mk [Zax (Fn.func 38) [] [Zaf 5 0,Zaf 1 0,Zaf 6 0]] false false 0,Blk.mk [Zbl 10 v m 3] false false 0,Blk.mk c0 false false 0,Blk.mk cs false true v] fun (blk15:Blk)=>lows 11 blk15.1) (Kh Zet [Blk.mk (Qz3 ly) false false 0,Blk.mk (Qz8 us gs) false false 0,cell (i64 pe),cell (i64 many),Blk.mk Qz4 false false 0,Blk.mk [Zag (Qz2 s)] false false 0,nearB n,Blk.mk [Zax (Fn.func 38) [] [Zaf 5 0,Zaf 1 0,Zaf 6 0]] false false 0,Blk.mk [Zbl 10 v m 3] false false 0,Blk.mk c0 false false 0,Blk.mk cs false true v] b) False)) (BIf (Zbk [Blk.mk (Qz3 ly) false false 0,Blk.mk (Qz8 us gs) false false 0,cell (i64 pe),cell (i64 many),Blk.mk Qz4 false false 0,Blk.mk [Zag (Qz2 s)] false false 0,nearB n,Blk.mk [Zax (Fn.func 38) [] [Zaf 5 0,Zaf 1 0,Zaf 6 0]] false false 0,Blk.mk [Zbl 10 v m 3] false false 0,Blk.mk c0 false false 0,Blk.mk cs false true v] fun (blk16:Blk)=>lows 11 blk16.1) (Kh Zet [Blk.mk (Qz3 ly) false false 0,Blk.mk (Qz8 us gs) false false 0,cell (i64 pe),cell (i64 many),Blk.mk Qz4 false false 0,Blk.mk [Zag (Qz2 s)] false false 0,nearB n,Blk.mk [Zax (Fn.func 38) [] [Zaf 5 0,Zaf 1 0,Zaf 6 0]] false false 0,Blk.mk [Zbl 10 v m 3] false false 0,Blk.mk c0 false false 0,Blk.mk cs false true v] b) False))):=by kernel_rfl
theorem rAkA (ly:LayT) (us:List UseT) (gs:List GraT) (pe many:Int) (s:SideT) (n:NearT) (sl of:Int) (v m:Nat) (cs:List AV):wpcY prog ⟨[],UAk,wl,y,false⟩ 100 #[64] (AGl9 rfAk) (ASw9 rfAk) (tmAk s 10) [cellA sl of] (hpAc ly us gs pe many s n v m cs) b (takeK 11 Kh)=(v=v∧BIf (decide ((m:Int)≥many)) (BIf (Zbk [Blk.mk (Qz3 ly) false false 0,Blk.mk (Qz8 us gs) false false 0,cell (i64 pe),cell (i64 many),Blk.mk Qz4 false false 0,Blk.mk [Zag (Qz2 s)] false false 0,nearB n,Blk.mk [Zax (Fn.func 38) [] [Zaf 5 0,Zaf 1 0,Zaf 6 0]] false false 0,Blk.mk [bad,bad,bad] false false 0,Blk.mk cs false true v,Blk.mk [Zbl 9 v m 3] false false 0] fun (blk0:Blk)=>lows 11 blk0.1) (Kh (Zbj 0) [Blk.mk (Qz3 ly) false false 0,Blk.mk (Qz8 us gs) false false 0,cell (i64 pe),cell (i64 many),Blk.mk Qz4 false false 0,Blk.mk [Zag (Qz2 s)] false false 0,nearB n,Blk.mk [Zax (Fn.func 38) [] [Zaf 5 0,Zaf 1 0,Zaf 6 0]] false false 0,Blk.mk [bad,bad,bad] false false 0,Blk.mk cs false true v,Blk.mk [Zbl 9 v m 3] false false 0] b) False) (∃(s1:SideT) (us2:List UseT) (gs3:List GraT) (n4:NearT) (sl5:Int) (of6:Int) (q7:Bool),(Qz21 sl of s us gs n)=(Qz21 sl5 of6 s1 us2 gs3 n4)∧(((Zaa (Zau s1)≤9223372036854775807∧(∀(x:NearT),x∈Zau s1→AAy9 x)∧layOk (Zcg s1)=true)∧(Zaa us2<10000∧Zaa gs3<10000)∧Zaa (Zcp n4)<10000∧Zaa (Zck n4)<10000)∧q7=possS s1 (TabT.mk us2 gs3 []) n4 sl5 of6)∧BIf q7 (v=v∧∃(xs8:List (List Dv)),cs=flatA xs8∧Zaa xs8=m∧(∀(r:List Dv),r∈xs8→Zaa r=3)∧∃(l9:List AskT) (sl10:Int) (of11:Int) (q12:Bool), [Zae (Zan 3 xs8),Zax (Fn.func 44) [] [Zag [i64 sl,i64 of]]]= [Zae (Zan 3 (rowsA l9)),Zax (Fn.func 44) [] [Zag [i64 sl10,i64 of11]]]∧(Zaa l9≤9223372036854775807∧q12=Zcv l9 fun (x13:AskT)=>Zcr x13==sl10)∧BIf (!q12) (v=v∧BIf (decide ((m+1)*24≤140737488355328)) (BIf (Zbk [Blk.mk (Qz3 ly) false false 0,Blk.mk (Qz8 us gs) false false 0,cell (i64 pe),cell (i64 many),Blk.mk Qz4 false false 0,Blk.mk [Zag (Qz2 s)] false false 0,nearB n,Blk.mk [Zax (Fn.func 38) [] [Zaf 5 0,Zaf 1 0,Zaf 6 0]] false false 0,Blk.mk [bad,bad,bad] false false 0,Blk.mk (cs++(Qz31 sl of pe)) false true (v+1),Blk.mk [Zbl 9 (v+1) (m+1) 3] false false 0] fun (blk14:Blk)=>lows 11 blk14.1) (Kh Zet [Blk.mk (Qz3 ly) false false 0,Blk.mk (Qz8 us gs) false false 0,cell (i64 pe),cell (i64 many),Blk.mk Qz4 false false 0,Blk.mk [Zag (Qz2 s)] false false 0,nearB n,Blk.mk [Zax (Fn.func 38) [] [Zaf 5 0,Zaf 1 0,Zaf 6 0]] false false 0,Blk.mk [bad,bad,bad] false false 0,Blk.mk (cs++(Qz31 sl of pe)) false true (v+1),Blk.mk [Zbl 9 (v+1) (m+1) 3] false false 0] b) False) False) (BIf (Zbk [Blk.mk (Qz3 ly) false false 0,Blk.mk (Qz8 us gs) false false 0,cell (i64 pe),cell (i64 many),Blk.mk Qz4 false false 0,Blk.mk [Zag (Qz2 s)] false false 0,nearB n,Blk.mk [Zax (Fn.func 38) [] [Zaf 5 0,Zaf 1 0,Zaf 6 0]] false false 0,Blk.mk [bad,bad,bad] false false 0,Blk.mk cs false true v,Blk.mk [Zbl 9 v m 3] false false 0] fun (blk15:Blk)=>lows 11 blk15.1) (Kh Zet [Blk.mk (Qz3 ly) false false 0,Blk.mk (Qz8 us gs) false false 0,cell (i64 pe),cell (i64 many),Blk.mk Qz4 false false 0,Blk.mk [Zag (Qz2 s)] false false 0,nearB n,Blk.mk [Zax (Fn.func 38) [] [Zaf 5 0,Zaf 1 0,Zaf 6 0]] false false 0,Blk.mk [bad,bad,bad] false false 0,Blk.mk cs false true v,Blk.mk [Zbl 9 v m 3] false false 0] b) False)) (BIf (Zbk [Blk.mk (Qz3 ly) false false 0,Blk.mk (Qz8 us gs) false false 0,cell (i64 pe),cell (i64 many),Blk.mk Qz4 false false 0,Blk.mk [Zag (Qz2 s)] false false 0,nearB n,Blk.mk [Zax (Fn.func 38) [] [Zaf 5 0,Zaf 1 0,Zaf 6 0]] false false 0,Blk.mk [bad,bad,bad] false false 0,Blk.mk cs false true v,Blk.mk [Zbl 9 v m 3] false false 0] fun (blk16:Blk)=>lows 11 blk16.1) (Kh Zet [Blk.mk (Qz3 ly) false false 0,Blk.mk (Qz8 us gs) false false 0,cell (i64 pe),cell (i64 many),Blk.mk Qz4 false false 0,Blk.mk [Zag (Qz2 s)] false false 0,nearB n,Blk.mk [Zax (Fn.func 38) [] [Zaf 5 0,Zaf 1 0,Zaf 6 0]] false false 0,Blk.mk [bad,bad,bad] false false 0,Blk.mk cs false true v,Blk.mk [Zbl 9 v m 3] false false 0] b) False))):=by kernel_rfl
theorem YList.stepG {P:Program} {Ev:Env P} {hp:List Blk} {tm:List AV} {b:Ev.β} {Q:Exit→St Ev.β→Prop} {X:CX Ev.β} {k n:Nat} (kk:Nat) {ps:Array Tmp} {assign body:Code} {x:List AV} {xs:List (List AV)} (hm:P.follows .mixedOrders=true) (hX:X.Ok) (hl:x.length=ps.size) (hkk:hp.length≤kk)
 (h:wpcY P X k ps assign body tm x hp b (takeK kk (AZa9 Ev tm Q fun hp' b'=>YList (YBody Ev tm ps assign body n) xs (hp',b',none) (AJw9 tm Q)))):YList (YBody Ev tm ps assign body n) (x::xs) (hp,b,none) (AJw9 tm Q):=
 YList.step (n:=kk) (hn:=hkk) hm hX hl h
def AIr9 (s:SideT) (us:List UseT) (gs:List GraT) (n:NearT) (pe:Int) (z:List AskT) (k:Nat):List AskT:=
 if possS s ⟨us,gs, []⟩ n (triSl s k) (triOf s k)=true then (if (z.any fun x=>x.sl==triSl s k)=true then z else z++ [⟨triSl s k,triOf s k,pe⟩]) else z
def askGo (s:SideT) (us:List UseT) (gs:List GraT) (n:NearT) (pe many:Int):List Nat→List AskT→List AskT
 | [],z=>z
 |k::r,z=>if (z.length:Int)≥many then z else askGo s us gs n pe many r (AIr9 s us gs n pe z k)
theorem BIw9 (s:SideT) (us:List UseT) (gs:List GraT) (n:NearT) (pe many:Int):∀(ks:List Nat) (z:List AskT),z≠ []→askGo s us gs n pe many ks z≠ []
 | [],z,h=>h
 | k::r,z,h=>by
  unfold askGo;split
  ·exact h
  ·refine BIw9 s us gs n pe many r _ ?_;unfold AIr9;split
   ·split
    ·exact h
    ·simp
   ·exact h
theorem AKh9 (z:List AskT) (sl of pe:Int):flatA (rowsA (z++ [⟨sl,of,pe⟩]))=flatA (rowsA z)++ [Zae (i64 sl),Zae (i64 of),Zae (i64 pe)]:=by
 have f:∀l:List AskT,flatA (rowsA l)=flatA (l.map askR):=fun _=>rfl;rw [f,f,AUn9];rfl
theorem BRk9 (ly:LayT) (us:List UseT) (gs:List GraT) (pe many:Int) (s:SideT) (n:NearT):Zbk (akB ly us gs pe many s n) (fun blk=>lows 11 blk.1)=true:=by rfl
theorem BVs9 {ly:LayT} {us:List UseT} {gs:List GraT} {pe many:Int} {s:SideT} {n:NearT} {v m:Nat} {c0:List AV} {z:List AskT} (h0:lows 11 c0=true):Zbk (hpBc ly us gs pe many s n v m c0 (flatA (rowsA z))) (fun blk=>lows 11 blk.1)=true:=by
 rw [hpBc,List.all_append,BRk9,Zey];simp only [List.all_cons,List.all_nil,Bool.and_true,Zai];exact ⟨rfl,h0,ACu9 11 _⟩
theorem BVt9 {ly:LayT} {us:List UseT} {gs:List GraT} {pe many:Int} {s:SideT} {n:NearT} {v m:Nat} {z:List AskT}:Zbk (hpAc ly us gs pe many s n v m (flatA (rowsA z))) (fun blk=>lows 11 blk.1)=true:=by
 rw [hpAc,List.all_append,BRk9,Zey];simp only [List.all_cons,List.all_nil,Bool.and_true,Zai];exact ⟨rfl,ACu9 11 _,rfl⟩
theorem yAkB {Ev:Env prog} {b:Ev.β} {Q:Exit→St Ev.β→Prop} (ly:LayT) (us:List UseT) (gs:List GraT) (pe many:Int) (s:SideT) (n:NearT) (h:AskOk s us gs n) (c0:List AV) (h0:lows 11 c0=true):∀(ks:List Nat) (z:List AskT) (v:Nat),z.length+ks.length<1000000→
 (∀(e:Exit) (v':Nat),(e= .normal∨e= .exit 0)→Q e ⟨tmAk s 8,hpBc ly us gs pe many s n v' (askGo s us gs n pe many ks z).length c0 (flatA (rowsA (askGo s us gs n pe many ks z))),b⟩)→
 YList (YBody Ev (tmAk s 8) #[64] (AGl9 rfAk) (ASw9 rfAk) 9) (ks.map (AQh9 s)) (hpBc ly us gs pe many s n v z.length c0 (flatA (rowsA z)),b,none) (AJw9 (tmAk s 8) Q)
 | [],z,v,hl,hQ=>hQ .normal v (.inl rfl)
 | k::r,z,v,hl,hQ=>by
  simp only [List.length_cons] at hl;refine YList.stepG 11 (X:=⟨[],UAk,wlW Ev,Ev.Y,false⟩) (k:=100) mixed (CX.Ok.of Zak CFn9) rfl (Zaw _) ?_;refine Eq.mpr (rAkB _ _ _ _ ly us gs pe many s n (triSl s k) (triOf s k) v z.length c0 (flatA (rowsA z))) ?_;have low:∀(v m:Nat) (z:List AskT),Zbk (hpBc ly us gs pe many s n v m c0 (flatA (rowsA z))) (fun blk=>lows 11 blk.1)=true:=fun v m z=>BVs9 h0;refine ⟨rfl,Zba (fun h1=> ?_) fun h1=>⟨s,us,gs,n,triSl s k,triOf s k,_,rfl,⟨h,rfl⟩,Zba (fun h2=>⟨rfl,rowsA z,rfl,AAn9 z,ANi9 z,z,triSl s k,triOf s k,_,rfl,⟨by omega,rfl⟩,Zba (fun h3=>⟨rfl,Zaz (by simp;omega) ?_⟩) fun h3=> ?_⟩) fun h2=> ?_⟩⟩
  ·have e:askGo s us gs n pe many (k::r) z=z:=by rw [askGo,if_pos (of_decide_eq_true h1)]
   rw [e] at hQ;exact Zaz (low _ _ _) (hQ (.exit 0) v (.inr rfl))
  all_goals have hlt:=of_decide_eq_false h1
  ·have h3':¬(z.any fun x=>x.sl==triSl s k)=true:=by simpa using h3
   have e:askGo s us gs n pe many (k::r) z=askGo s us gs n pe many r (z++ [⟨triSl s k,triOf s k,pe⟩]):=by rw [askGo,if_neg hlt,AIr9,if_pos h2,if_neg h3']
   rw [e] at hQ;have hl2:=low (v+1) (z.length+1) (z++ [⟨triSl s k,triOf s k,pe⟩]);rw [AKh9] at hl2;have ih:=yAkB (Q:=Q) (b:=b) ly us gs pe many s n h c0 h0 r (z++ [⟨triSl s k,triOf s k,pe⟩]) (v+1) (by rw [Zcm];simp;omega) hQ;rw [AKh9,Zcm] at ih;exact Zaz hl2 ih
  ·have h3':(z.any fun x=>x.sl==triSl s k)=true:=by simpa using h3
   have e:askGo s us gs n pe many (k::r) z=askGo s us gs n pe many r z:=by rw [askGo,if_neg hlt,AIr9,if_pos h2,if_pos h3']
   rw [e] at hQ;exact Zaz (low _ _ _) (yAkB ly us gs pe many s n h c0 h0 r z v (by omega) hQ)
  ·have h2':¬possS s ⟨us,gs, []⟩ n (triSl s k) (triOf s k)=true:=by rw [h2];decide
   have e:askGo s us gs n pe many (k::r) z=askGo s us gs n pe many r z:=by rw [askGo,if_neg hlt,AIr9,if_neg h2']
   rw [e] at hQ;exact Zaz (low _ _ _) (yAkB ly us gs pe many s n h c0 h0 r z v (by omega) hQ)
theorem yAkA {Ev:Env prog} {b:Ev.β} {Q:Exit→St Ev.β→Prop} (ly:LayT) (us:List UseT) (gs:List GraT) (pe many:Int) (s:SideT) (n:NearT) (h:AskOk s us gs n):∀(ks:List Nat) (z:List AskT) (v:Nat),z.length+ks.length<1000000→
 (∀(e:Exit) (v':Nat),(e= .normal∨e= .exit 0)→Q e ⟨tmAk s 10,hpAc ly us gs pe many s n v' (askGo s us gs n pe many ks z).length (flatA (rowsA (askGo s us gs n pe many ks z))),b⟩)→
 YList (YBody Ev (tmAk s 10) #[64] (AGl9 rfAk) (ASw9 rfAk) 11) (ks.map (AQh9 s)) (hpAc ly us gs pe many s n v z.length (flatA (rowsA z)),b,none) (AJw9 (tmAk s 10) Q)
 | [],z,v,hl,hQ=>hQ .normal v (.inl rfl)
 | k::r,z,v,hl,hQ=>by
  simp only [List.length_cons] at hl;refine YList.stepG 11 (X:=⟨[],UAk,wlW Ev,Ev.Y,false⟩) (k:=100) mixed (CX.Ok.of Zak CFn9) rfl (Zaw _) ?_;refine Eq.mpr (rAkA _ _ _ _ ly us gs pe many s n (triSl s k) (triOf s k) v z.length (flatA (rowsA z))) ?_;have low:∀(v m:Nat) (z:List AskT),Zbk (hpAc ly us gs pe many s n v m (flatA (rowsA z))) (fun blk=>lows 11 blk.1)=true:=fun v m z=>BVt9;refine ⟨rfl,Zba (fun h1=> ?_) fun h1=>⟨s,us,gs,n,triSl s k,triOf s k,_,rfl,⟨h,rfl⟩,Zba (fun h2=>⟨rfl,rowsA z,rfl,AAn9 z,ANi9 z,z,triSl s k,triOf s k,_,rfl,⟨by omega,rfl⟩,Zba (fun h3=>⟨rfl,Zaz (by simp;omega) ?_⟩) fun h3=> ?_⟩) fun h2=> ?_⟩⟩
  ·have e:askGo s us gs n pe many (k::r) z=z:=by rw [askGo,if_pos (of_decide_eq_true h1)]
   rw [e] at hQ;exact Zaz (low _ _ _) (hQ (.exit 0) v (.inr rfl))
  all_goals have hlt:=of_decide_eq_false h1
  ·have h3':¬(z.any fun x=>x.sl==triSl s k)=true:=by simpa using h3
   have e:askGo s us gs n pe many (k::r) z=askGo s us gs n pe many r (z++ [⟨triSl s k,triOf s k,pe⟩]):=by rw [askGo,if_neg hlt,AIr9,if_pos h2,if_neg h3']
   rw [e] at hQ;have hl2:=low (v+1) (z.length+1) (z++ [⟨triSl s k,triOf s k,pe⟩]);rw [AKh9] at hl2;have ih:=yAkA (Q:=Q) (b:=b) ly us gs pe many s n h r (z++ [⟨triSl s k,triOf s k,pe⟩]) (v+1) (by rw [Zcm];simp;omega) hQ;rw [AKh9,Zcm] at ih;exact Zaz hl2 ih
  ·have h3':(z.any fun x=>x.sl==triSl s k)=true:=by simpa using h3
   have e:askGo s us gs n pe many (k::r) z=askGo s us gs n pe many r z:=by rw [askGo,if_neg hlt,AIr9,if_pos h2,if_pos h3']
   rw [e] at hQ;exact Zaz (low _ _ _) (yAkA ly us gs pe many s n h r z v (by omega) hQ)
  ·have h2':¬possS s ⟨us,gs, []⟩ n (triSl s k) (triOf s k)=true:=by rw [h2];decide
   have e:askGo s us gs n pe many (k::r) z=askGo s us gs n pe many r z:=by rw [askGo,if_neg hlt,AIr9,if_neg h2']
   rw [e] at hQ;exact Zaz (low _ _ _) (yAkA ly us gs pe many s n h r z v (by omega) hQ)
theorem yAkN {Ev:Env prog} {b:Ev.β} {Q:Exit→St Ev.β→Prop} (ly:LayT) (us:List UseT) (gs:List GraT) (pe many:Int) (s:SideT) (n:NearT) (h:AskOk s us gs n):∀(ks:List Nat),ks.length<900000→
 (askGo s us gs n pe many ks []= []→∀e:Exit,(e= .normal∨e= .exit 0)→Q e ⟨tmAk s 8,hpN ly us gs pe many s n,b⟩)→
 (askGo s us gs n pe many ks []≠ []→∀(e:Exit) (v':Nat) (c0:List AV),(e= .normal∨e= .exit 0)→Q e ⟨tmAk s 8,hpBc ly us gs pe many s n v' (askGo s us gs n pe many ks []).length c0 (flatA (rowsA (askGo s us gs n pe many ks []))),b⟩)→
 YList (YBody Ev (tmAk s 8) #[64] (AGl9 rfAk) (ASw9 rfAk) 9) (ks.map (AQh9 s)) (hpN ly us gs pe many s n,b,none) (AJw9 (tmAk s 8) Q)
 | [],hl,h1,h2=>h1 rfl .normal (.inl rfl)
 | k::r,hl,h1,h2=>by
  simp only [List.length_cons] at hl;by_cases hm:(0:Int)≥many
  ·have e:askGo s us gs n pe many (k::r) []= []:=by rw [askGo,if_pos (by simpa using hm)]
   refine YList.stepG 9 (X:=⟨[],UAkN,wlW Ev,Ev.Y,false⟩) (k:=100) mixed (CX.Ok.of Zak BJb9) rfl (Zaw _) ?_;refine Eq.mpr (rAkN _ _ _ _ ly us gs pe many s n (triSl s k) (triOf s k)) ?_;exact Zaz (decide_eq_true hm) (h1 e (.exit 0) (.inr rfl))
  ·have hm':¬((([]:List AskT).length:Nat):Int)≥many:=by simpa using hm
   cases hp:possS s ⟨us,gs, []⟩ n (triSl s k) (triOf s k) with
   | false=>
    have e:askGo s us gs n pe many (k::r) []=askGo s us gs n pe many r []:=by rw [askGo,if_neg hm',AIr9,hp,if_neg (by decide)]
    rw [e] at h1 h2;refine YList.stepG 9 (X:=⟨[],UAkN,wlW Ev,Ev.Y,false⟩) (k:=100) mixed (CX.Ok.of Zak BJb9) rfl (Zaw _) ?_;refine Eq.mpr (rAkN _ _ _ _ ly us gs pe many s n (triSl s k) (triOf s k)) ?_;exact Zda (decide_eq_false hm) ⟨s,us,gs,n,triSl s k,triOf s k,_,rfl,⟨h,rfl⟩,Zda hp (yAkN ly us gs pe many s n h r (by omega) h1 h2)⟩
   | true=>
    have e:askGo s us gs n pe many (k::r) []=askGo s us gs n pe many r [⟨triSl s k,triOf s k,pe⟩]:=by rw [askGo,if_neg hm',AIr9,hp,if_pos rfl];rfl
    have hne:=BIw9 s us gs n pe many r [⟨triSl s k,triOf s k,pe⟩] (by simp);rw [e] at h1 h2;have hB:=yAkB (Q:=Q) (b:=b) ly us gs pe many s n h [.d (i64 (triSl s k)), .d (i64 (triOf s k))] rfl r [⟨triSl s k,triOf s k,pe⟩] 0 (by simp;omega) (fun e v' he=>h2 hne e v' _ he);refine YList.stepG 11 (X:=⟨[],UAkN,wlW Ev,Ev.Y,false⟩) (k:=100) mixed (CX.Ok.of Zak BJb9) rfl (show 9≤11 by decide) ?_;refine Eq.mpr (rAkC _ _ _ _ ly us gs pe many s n (triSl s k) (triOf s k)) ?_;exact Zda (decide_eq_false hm) ⟨s,us,gs,n,triSl s k,triOf s k,_,rfl,⟨h,rfl⟩,Zaz hp ⟨triSl s k,triOf s k,rfl,hB⟩⟩
def triKs (ly:LayT):List Nat:=List.range' 0 (16*ly.da).toNat
def wlAk {β:Type}:WLT β:=fun cd tm hp b K=>∃(ly:LayT) (us:List UseT) (gs:List GraT) (pe many:Int) (s:SideT) (n:NearT),cd=rfAk∧(AskOk s us gs n∧s.lay=ly∧(1≤ly.da∧ly.da≤60))∧
 match hp with
 | [b0,b1,b2,b3,b4,b5,b6,b7,b8]=>∃q:List AskT,AAv9 [8,11,12,14,20,21,63] 0 tm=tmAk s 8∧ [b0,b1,b2,b3,b4,b5,b6,b7,b8]=hpN ly us gs pe many s n∧q=askGo s us gs n pe many (triKs ly) []∧
  BIf q.isEmpty (K .normal (tmAk s 8) (hpN ly us gs pe many s n) b∧K (.exit 0) (tmAk s 8) (hpN ly us gs pe many s n) b) (∀(v:Nat) (c0:List AV),K .normal (tmAk s 8) (hpBc ly us gs pe many s n v q.length c0 (flatA (rowsA q))) b∧K (.exit 0) (tmAk s 8) (hpBc ly us gs pe many s n v q.length c0 (flatA (rowsA q))) b)
 | [b0,b1,b2,b3,b4,b5,b6,b7,b8,b9,b10]=>∃(z q:List AskT) (v:Nat),AAv9 [8,11,12,14,20,21,63] 0 tm=tmAk s 10∧ [b0,b1,b2,b3,b4,b5,b6,b7,b8,b9,b10]=hpAc ly us gs pe many s n v z.length (flatA (rowsA z))∧(z.length<90000∧q=askGo s us gs n pe many (triKs ly) z)∧
  ∀(v:Nat),K .normal (tmAk s 10) (hpAc ly us gs pe many s n v q.length (flatA (rowsA q))) b∧K (.exit 0) (tmAk s 10) (hpAc ly us gs pe many s n v q.length (flatA (rowsA q))) b
 |_=>False
theorem CAn9 {Ev:Env prog} (c:Code) (tm:List AV) (hp:List Blk) (b:Ev.β) (K:Exit→List AV→List Blk→Ev.β→Prop) (h:wlAk c tm hp b K):W Ev c ⟨tm,hp,b⟩ (fun e s=>K e s.tm s.hp s.b):=by
 obtain ⟨ly,us,gs,pe,many,s,n,rfl,⟨ha,hly,hd⟩,h⟩:=h;have hd':1≤s.lay.da∧s.lay.da≤60:=by rw [hly];exact hd
 have hic:=icTr s hd' (16*ly.da).toNat (by rw [hly];omega);have hkl:(triKs ly).length<1000:=by rw [triKs,List.length_range'];omega
 split at h
 ·obtain ⟨_,htm,hhp,rfl,h⟩:=h;rw [hhp];refine W.cast (htm▸AAb9 _ tm 0) (Zbp _) ?_;rw [ARa9];refine W.range (s:=⟨tmAk s 8,hpN ly us gs pe many s n,b⟩) (k:=89) (first:= []) (caps:= [.rptr [.pt (sideD s)]]) rfl rfl rfl hic ?_;refine yAkN (Q:=fun e s=>K e s.tm s.hp s.b) ly us gs pe many s n ha (triKs ly) (by omega) (fun h0 e he=> ?_) fun h0 e v' c0 he=> ?_
  ·rw [h0] at h;rcases he with rfl|rfl
   ·exact h.1
   ·exact h.2
  ·have h1:(askGo s us gs n pe many (triKs ly) []).isEmpty=false:=by simpa using h0
   rw [h1] at h;have h2:=(show ∀(v:Nat) (c0:List AV),_ from h) v' c0;rcases he with rfl|rfl
   ·exact h2.1
   ·exact h2.2
 ·obtain ⟨z,_,v,htm,hhp,⟨hz,rfl⟩,h⟩:=h;rw [hhp];refine W.cast (htm▸AAb9 _ tm 0) (Zbp _) ?_;rw [ARa9];refine W.range (s:=⟨tmAk s 10,hpAc ly us gs pe many s n v z.length (flatA (rowsA z)),b⟩) (k:=89) (first:= []) (caps:= [.rptr [.pt (sideD s)]]) rfl rfl rfl hic ?_;refine yAkA (Q:=fun e s=>K e s.tm s.hp s.b) ly us gs pe many s n ha (triKs ly) z v (by omega) fun e v' he=> ?_;have h2:=h v';rcases he with rfl|rfl
  ·exact h2.1
  ·exact h2.2
 ·exact h.elim
open Go.Shelf Go.Lib Go.Sort
variable {β:Type} (y:ACw9 β) (b:β)
def SA:Type:= {a:AskT // -1000≤a.sl∧a.sl≤1000}
instance : Inhabited SA := ⟨⟨⟨0, 0, 0⟩, by decide⟩⟩
def encA (x:SA):List Value:= [.int .i64 x.1.sl, .int .i64 x.1.of, .int .i64 x.1.pe]
def cmpA (x y:SA):Int:=x.1.sl - y.1.sl
theorem ltA (x y:SA):ltOf cmpA x y=decide (x.1.sl<y.1.sl):=by
 unfold ltOf cmpA;by_cases h:x.1.sl<y.1.sl
 ·simp [h];omega
 ·simp [h];omega
theorem swoA:Go.Sort.SWO (ltOf cmpA) where
 irrefl x:=by rw [ltA];simp
 trans x y z h1 h2:=by rw [ltA] at*;simp at*;omega
 ntrans x y z h1 h2:=by rw [ltA] at*;simp at*;omega
set_option maxHeartbeats 1000000 in
theorem BMv9 (a b c x y z:Int) (W:World):Calls prog 46 #[.agg #[.int .i64 a, .int .i64 b, .int .i64 c], .agg #[.int .i64 x, .int .i64 y, .int .i64 z]] W fun e w'=>e= .returned (.int .i64 (wrap64 (a - x)))∧∃q os',w'=Go.Sort.grow (W.drewN q) os':=by
 go_enter func46,Tryz.ntmps46
 go_wp2
 go_ret
 exact ⟨rfl,0,_,by rw [Go.Sort.alloc_eq_grow,Go.Sort.alloc_eq_grow,Go.Sort.grow_grow];rfl⟩
theorem BWx9 (blk off size:Nat) (w:World):CmpLays prog 46 #[] encA 3 cmpA blk off size w:=by
 intro m os dk hs x y;have h:=BMv9 x.1.sl x.1.of x.1.pe y.1.sl y.1.of y.1.pe (sortWorldK encA 3 w blk off m dk os);have e:wrap64 (x.1.sl - y.1.sl)=cmpA x y:=by
  obtain ⟨a,ha⟩:=x;obtain ⟨b,hb⟩:=y;simp only [cmpA];unfold wrap64;omega
 rw [e] at h;exact h
def valsA (zs:List SA):List Value:=zs.flatMap encA
theorem ADn9:∀zs:List SA,(valsA zs).length=zs.length*3
 | []=>rfl
 |z::zs=>by simp only [valsA,List.flatMap_cons,Zcm,List.length_cons];have:=ADn9 zs;simp only [valsA] at this;rw [this];simp [encA];omega
theorem AVt9:∀(zs:List SA) (t:Nat),t<zs.length*3→(valsA zs)[t]? =(encA (zs[t / 3]?.getD default))[t % 3]?
 | [],t,h=>by simp at h
 | z::zs,t,h=>by
  simp only [valsA,List.flatMap_cons];have hl:(encA z).length=3:=rfl;by_cases ht:t<3
  ·rw [Zar (by rw [hl];exact ht),Nat.div_eq_of_lt ht,Nat.mod_eq_of_lt ht];rfl
  ·rw [Zas (by rw [hl];omega),hl];have ih:=AVt9 zs (t - 3) (by simp only [List.length_cons] at h;omega);simp only [valsA] at ih;rw [ih];have e1:t / 3=(t - 3) / 3+1:=by omega
   have e2:(t - 3) % 3=t % 3:=by omega
   rw [e1,e2];rfl
theorem ASk9 (d:Array SA):(flatK encA 3 d).toList=valsA d.toList:=by
 apply List.ext_getElem?;intro t;by_cases ht:t<d.size*3
 ·have h1:=get_flatK encA 3 d t ht;rw [AVt9 d.toList t (by simpa using ht)];have hs:t<(flatK encA 3 d).size:=by simpa using ht
  rw [getElem!_pos (flatK encA 3 d) t hs] at h1;rw [Array.getElem?_toList,Zgo hs,h1];have hd:t / 3<d.size:=by omega
  have e:d.toList[t / 3]?.getD default=d[t / 3]! :=by
   rw [getElem!_pos d _ hd];simp [hd]
  rw [e];have hm:t % 3<(encA d[t / 3]!).length:=by show t % 3<3;omega
  rw [getElem!_pos (encA d[t / 3]!) _ hm,Zbb hm]
 ·rw [Zdi (by simpa using ht),Zdi (by rw [ADn9];simpa using ht)]
theorem AIn9 (zs:List SA):flatA (rowsA (zs.map (·.1)))=(valsA zs).map fun v=>Zae (.s v):=by
 induction zs with
 |nil=>rfl
 | cons z zs ih=>
  have f:∀l:List AskT,flatA (rowsA l)=flatA (l.map askR):=fun _=>rfl;rw [f] at ih ⊢;simp only [Zdn] at ih ⊢;rw [AGg9,ih];simp only [valsA,List.flatMap_cons,List.map_append];rfl
end Go.Proofs.YthcbbmnjikhihaaGreat.Am
namespace Go.Proofs
open Go.Shelf
def Tryz.sortAsk_ren:Go.Shelf.Ren:=⟨fun|6=>45|15=>92|14=>91|28=>129|29=>130|20=>121|21=>122|22=>123|23=>124|24=>125|25=>126|26=>127|27=>128|46=>141|47=>142|48=>143|49=>144|50=>145|57=>150|n=>n,fun|22=>26|24=>63|25=>97|3=>3|39=>137|0=>0|53=>175|55=>45|4=>4|46=>168|45=>167|50=>172|5=>5|9=>9|66=>186|70=>190|76=>196|77=>197|n=>n,fun|n=>n⟩
theorem Tryz.sortAsk:Go.Proofs.SlLaysF0.n6 prog Tryz.sortAsk_ren:= {
 mixed:=by kernel_rfl
 f6:=⟨Tryz.f45.name,by decide,Tryz.func45.trans (congrArg some (by kernel_rfl))⟩
 f14:=⟨Tryz.f91.name,by decide,Tryz.func91.trans (congrArg some (by kernel_rfl))⟩
 f15:=Tryz.func92.trans (congrArg some (by kernel_rfl))
 f20:=⟨Tryz.f121.name,by decide,Tryz.func121.trans (congrArg some (by kernel_rfl))⟩
 f21:=⟨Tryz.f122.name,by decide,Tryz.func122.trans (congrArg some (by kernel_rfl))⟩
 f22:=⟨Tryz.f123.name,by decide,Tryz.func123.trans (congrArg some (by kernel_rfl))⟩
 f23:=⟨Tryz.f124.name,by decide,Tryz.func124.trans (congrArg some (by kernel_rfl))⟩
 f24:=⟨Tryz.f125.name,by decide,Tryz.func125.trans (congrArg some (by kernel_rfl))⟩
 f25:=⟨Tryz.f126.name,by decide,Tryz.func126.trans (congrArg some (by kernel_rfl))⟩
 f26:=⟨Tryz.f127.name,by decide,Tryz.func127.trans (congrArg some (by kernel_rfl))⟩
 f27:=⟨Tryz.f128.name,by decide,Tryz.func128.trans (congrArg some (by kernel_rfl))⟩
 f28:=Tryz.func129.trans (congrArg some (by kernel_rfl))
 f29:=Tryz.func130.trans (congrArg some (by kernel_rfl))
 f46:=⟨Tryz.f141.name,by decide,Tryz.func141.trans (congrArg some (by kernel_rfl))⟩
 f47:=Tryz.func142.trans (congrArg some (by kernel_rfl))
 f48:=Tryz.func143.trans (congrArg some (by kernel_rfl))
 f49:=⟨Tryz.f144.name,by decide,Tryz.func144.trans (congrArg some (by kernel_rfl))⟩
 f50:=⟨Tryz.f145.name,by decide,Tryz.func145.trans (congrArg some (by kernel_rfl))⟩
 f57:=⟨Tryz.f150.name,by decide,Tryz.func150.trans (congrArg some (by kernel_rfl))⟩
 t0:=Tryz.underlying0
 a0:=Tryz.isAgg0
 z0:=Tryz.sizeOf0
 v0:=Tryz.zeroValue0
 t3:=Tryz.underlying3
 a3:=Tryz.isAgg3
 z3:=Tryz.sizeOf3
 v3:=Tryz.zeroValue3
 t4:=Tryz.underlying4
 a4:=Tryz.isAgg4
 z4:=Tryz.sizeOf4
 v4:=Tryz.zeroValue4
 t5:=Tryz.underlying5
 a5:=Tryz.isAgg5
 z5:=Tryz.sizeOf5
 v5:=Tryz.zeroValue5
 t9:=Tryz.underlying9
 a9:=Tryz.isAgg9
 z9:=Tryz.sizeOf9
 v9:=Tryz.zeroValue9
 t22:=Tryz.underlying26
 a22:=Tryz.isAgg26
 z22:=Tryz.sizeOf26
 v22:=Tryz.zeroValue26
 t25:=Tryz.underlying97
 a25:=Tryz.isAgg97
 z25:=Tryz.sizeOf97
 v25:=Tryz.zeroValue97
 t39:=Tryz.underlying137
 a39:=Tryz.isAgg137
 z39:=Tryz.sizeOf137
 v39:=Tryz.zeroValue137
 t45:=Tryz.underlying167
 a45:=Tryz.isAgg167
 z45:=Tryz.sizeOf167
 v45:=Tryz.zeroValue167
 t46:=Tryz.underlying168
 a46:=Tryz.isAgg168
 z46:=Tryz.sizeOf168
 v46:=Tryz.zeroValue168
 t50:=Tryz.underlying172
 a50:=Tryz.isAgg172
 z50:=Tryz.sizeOf172
 v50:=Tryz.zeroValue172
 t53:=Tryz.underlying175
 a53:=Tryz.isAgg175
 z53:=Tryz.sizeOf175
 v53:=Tryz.zeroValue175
 t55:=Tryz.underlying45
 a55:=Tryz.isAgg45
 z55:=Tryz.sizeOf45
 v55:=Tryz.zeroValue45
 t66:=Tryz.underlying186
 a66:=Tryz.isAgg186
 z66:=Tryz.sizeOf186
 v66:=Tryz.zeroValue186
 t70:=Tryz.underlying190
 a70:=Tryz.isAgg190
 z70:=Tryz.sizeOf190
 v70:=Tryz.zeroValue190
 t76:=Tryz.underlying196
 a76:=Tryz.isAgg196
 z76:=Tryz.sizeOf196
 v76:=Tryz.zeroValue196
 t77:=Tryz.underlying197
 a77:=Tryz.isAgg197
 z77:=Tryz.sizeOf197
 v77:=Tryz.zeroValue197}
end Go.Proofs
namespace Go.Proofs.YthcbbmnjikhihaaGreat.Am
open Go Go.RowKit Go.Proofs Tryz
open AV renaming agg → Zaq, bad → Zab, d → Zae, fn → Zax, gref → Zbl, ptr → Zaf, rptr → Zag
open _root_.Array renaming getElem?_eq_getElem → Zgo
open AskT renaming sl → Zcr
open BIf renaming f → Zda, of → Zba, t → Zaz
open Bool renaming and_eq_true → Zai, and_false → Zcs, false_eq_true → Zee, not_eq_false' → Zej, not_eq_true' → Zcb, or_eq_false_iff → Zeo, true_and → Zey
open AAc9 renaming cons → Zaj, nil → Zak
open Go.Code renaming loop → Zat
open Dv renaming fn → Zcq, pt → Zdr, s → Zdy, sl → Zan
open Go.Exit renaming exit → Zbj, normal → Zet
open Int renaming toNat → Zam, toNat_natCast → Zcf
open Go.IntKind renaming i64 → Zbc, wrap → Zad
open LayT renaming da → Zcx
open LeH renaming refl → Zbp
open List renaming all → Zbk, any → Zcv, append_assoc → Zbq, append_nil → Zdu, cons_append → Zgs, drop → Zca, getElem?_append_left → Zar, getElem?_append_right → Zas, getElem?_eq_getElem → Zbb, getElem?_eq_none → Zdi, getElem?_eq_some_iff → Zac, getElem?_map → Zbh, getElem?_zip_eq_some → Zbe, isEmpty → Zfw, length → Zaa, length_append → Zcm, length_filter_le → Zfz, length_nil → Zfg, length_take → Zcd, map_cons → Zdn, mem_append_right → Zdp, mem_cons → Zbw, mem_cons_of_mem → Zbx, mem_cons_self → Zbv, mem_map → Zbg, mem_of_getElem? → Zbn, pairwise_cons → Zds, replicate → Zap, take → Zbo, take_add_one → Zfm, take_length → Zdd
open Nat renaming le_refl → Zaw, lt_of_le_of_lt → Zdz, zero_le → Zge
open NearT renaming ak → Zer, fm → Zdm, gs → Zck, us → Zcp
open Option renaming map_some → Zea
open AAl9 renaming cons → Zbr, nil → Zah
open SideT renaming fr → Zgh, lay → Zcg, me → Zes, ns → Zau
open TabT renaming ak → Zdh, gs → Zdb, us → Zdl
open Go.Value renaming map → Zbm, slice → Zcw
open WR renaming ofMask → Zdj
variable {β:Type} (wl:WLT β) (y:ACw9 β) (b:β) (R:AV→β→Prop) (Kr:AV→List Blk→β→Prop) (K:Exit→List AV→List Blk→β→Prop) (Kh:Exit→List Blk→β→Prop) (Q:β→Prop)
open AV (bad)
set_option linter.unusedVariables false
set_option maxRecDepth 20000
set_option maxHeartbeats 1000000
open Go.Shelf Go.Lib Go.Sort
variable {β:Type} (wl:WLT β) (y:ACw9 β) (b:β) (R:AV→β→Prop) (K:Exit→List AV→List Blk→β→Prop) (Q:β→Prop)
theorem BDs9 {w:World} {b:Nat} {cur:Array Value} {e:TypeId} (hb:w.heap[b]? =some (.cells cur e (0,0))) (d:Array SA) (hs:d.size*3≤cur.size):
 putRowK encA 3 w b 0 d=w.setRow b (cur.toList.take 0++valsA d.toList++cur.toList.drop (0+(valsA d.toList).length)).toArray:=by
 have hv:(flatK encA 3 d).toList=valsA d.toList:=ASk9 d;have hl:(valsA d.toList).length=d.size*3:=by rw [ADn9];simp
 have hc:putCells id 0 (flatK encA 3 d) cur=(cur.toList.take 0++valsA d.toList++cur.toList.drop (0+(valsA d.toList).length)).toArray:=by
  apply Array.ext_getElem?;intro j;unfold putCells;simp only [Array.getElem?_mapIdx,List.getElem?_toArray,List.take_zero,List.nil_append];by_cases hj:j<d.size*3
  ·rw [Zar (show j<(valsA d.toList).length by omega),←hv,Array.getElem?_toList,Zgo (show j<(flatK encA 3 d).size by simpa using hj),Zgo (show j<cur.size by omega)];simp only [Zea,size_flatK,id,Nat.sub_zero,Nat.zero_add,Zge,true_and,if_pos hj];rw [getElem!_pos (flatK encA 3 d) j (by simpa using hj)]
  ·rw [Zas (show (valsA d.toList).length≤j by omega),List.getElem?_drop,show 0+(valsA d.toList).length+(j - (valsA d.toList).length)=j by omega,Array.getElem?_toList];cases hcj:cur[j]? with
   |none=>rfl
   | some x=>
    simp only [Zea,size_flatK,Nat.zero_add,Zge,true_and,if_neg hj]
 have hh:(w.heap.modify b (onCells (putCells id 0 (flatK encA 3 d))))=(w.setRow b (cur.toList.take 0++valsA d.toList++cur.toList.drop (0+(valsA d.toList).length)).toArray).heap:=by
  unfold World.setRow;apply Array.ext_getElem?;intro k;simp only [Array.getElem?_modify];by_cases hk:b=k
  ·subst hk;simp only [if_true,hb,Zea,onCells,hc]
  ·simp only [hk,if_false]
 unfold putRowK putRow mapBlock;rw [hh];rfl
theorem toSA:∀z:List AskT,(∀a∈z, -1000≤a.sl∧a.sl≤1000)→∃zs:List SA,zs.map (·.1)=z
 | [],_=>⟨[],rfl⟩
 | a::z,h=>by
  obtain ⟨zs,hz⟩:=toSA z fun x hx=>h x (Zbx _ hx);exact ⟨⟨a,h a (Zbv)⟩::zs,congrArg (a:: ·) hz⟩
def BTm9 (args:List AV) (hp:List Blk) (K:AV→List Blk→Prop):Prop:=match args with
 | [.d (.s (.slice none 0 0)), .fn (.func 46) [] []]=>K (.tup []) hp
 | [.gref g v n k, .fn (.func 46) [] []]=>∃z:List AskT,hp[g]? =some (growB v (flatA (rowsA z)))∧(k=3∧z.length=n∧n<1000000∧∀a∈z, -1000≤a.sl∧a.sl≤1000)∧∀z':List AskT,z'.Perm z→z'.Pairwise (fun a b=>a.sl≤b.sl)→K (.tup []) (hp.set g (growB v (flatA (rowsA z'))))
 |_=>False
theorem RV.s_eq {S:Pr} {w:World} {m:List MB} {yv:Option Nat} {v u:Value} (h:RV S w m yv (.d (.s v)) u):u=v:=by
 cases h with
 |d h=>cases h;rfl
theorem RV.fn0 {S:Pr} {w:World} {m:List MB} {yv:Option Nat} {k:Nat} {u:Value} (h:RV S w m yv (.fn (.func k) [] []) u):u= .func (.func k) #[] #[]:=by
 cases h with
 | fn hf hl hl' h h'=>
  rename_i fs cs;have e1:fs=#[]:=Array.eq_empty_of_size_eq_zero (by simpa using hl.symm);have e2:cs=#[]:=Array.eq_empty_of_size_eq_zero (by simpa using hl'.symm);rw [e1,e2]
theorem ANy9 (w:World) (n:Nat):Below w.heap.size w (Sort.ahead w n):=⟨rfl,rfl,rfl,Zaw _,fun _ _=>rfl⟩
theorem ASx9 (w:World) (os:Array Obj):Below w.heap.size w (grow w os):=⟨rfl,rfl,rfl,by simp [grow],fun k hk=>by simp [grow,Array.getElem?_append,hk]⟩
theorem CAy9 {g v:Nat} {z:List AskT} {hp:List Blk} (hg:hp[g]? =some (growB v (flatA (rowsA z)))) (hn:z.length<1000000) (hz:∀a∈z, -1000≤a.sl∧a.sl≤1000):∀(K:AV→List Blk→Prop),(∀z':List AskT,z'.Perm z→z'.Pairwise (fun a b=>a.sl≤b.sl)→K (.tup []) (hp.set g (growB v (flatA (rowsA z')))))→
 ∃x hp',SCall prog 45 [.gref g v z.length 3, .fn (.func 46) [] []] hp x hp'∧K x hp':=by
 intro K hK;obtain ⟨zs,hzs⟩:=toSA z hz;subst hzs
 let d:Array SA:=zs.toArray
 let r:Array SA:=pdq (ltOf cmpA) d 0 d.size (Lib.bitLen d.size) true true
 have hds:d.size=zs.length:=by simp [d]
 have hps:=pdq_sorts (ltOf cmpA) swoA d 0 d.size (Lib.bitLen d.size) true true (Zge _) (Zaw _) (Or.inl rfl);have hrs:r.size=d.size:=hps.1.1;have hperm:r.toList.Perm zs:=by
  have h:=hps.1.2.2;have e1:(r.extract 0 d.size)=r:=by rw [←hrs];simp
  have e2:(d.extract 0 d.size)=d:=by simp
  have h2:(r.extract 0 d.size).toList.Perm (d.extract 0 d.size).toList:=h;rw [e1,e2] at h2;exact h2
 have hsort:r.toList.Pairwise fun a b=>a.1.sl≤b.1.sl:=by
  rw [List.pairwise_iff_getElem];intro i j hi hj hij;simp only [Array.length_toList] at hi hj;have h:=hps.2 i j (Zge _) hij (by omega);have h2:ltOf cmpA r[j]! r[i]! =false:=h;rw [ltA,getElem!_pos r j hj,getElem!_pos r i hi] at h2;have h3:=of_decide_eq_false h2;simp only [Array.getElem_toList];omega
 have hK2:=hK (r.toList.map (·.1)) (hperm.map _) (List.pairwise_map.2 hsort);refine ⟨_,_,⟨enters_of func45 (by kernel_rfl) rfl, ?_⟩,hK2⟩;intro S X yv w m B hv vs hl h;obtain ⟨v0,v1,rfl⟩:∃v0 v1,vs= [v0,v1]:=by
  match vs,hl with
  | [a,b],_=>exact ⟨a,b,rfl⟩
 have h0:=h.rv (.gref g v (zs.map (·.1)).length 3,v0) (by simp);have h1:=h.rv (.fn (.func 46) [] [],v1) (by simp);have e1:=RV.fn0 h1;subst e1;obtain ⟨b,len,ver',hm,hver,hone,hcc⟩:∃b len ver',m[g]? =some ⟨b,len,true,ver'⟩∧v≤ver'∧v0.oneCell'=true∧(v=ver'→len=(zs.map (·.1)).length*3∧∃cap,v0= .slice (some ⟨b,0,none⟩) (zs.map (·.1)).length cap∧(zs.map (·.1)).length≤cap∧cap≤maxLen∧∃(cur:Array Value) (e:TypeId),w.heap[b]? =some (Obj.cells cur e (0,0))∧cur.size=cap*3):=by
  cases h0 with
  |gref a1 a2 a3 a4=>exact ⟨_,_,_,a1,a2,a3,a4⟩
 obtain ⟨blk,us,cur,e,g1,g2,g3,g4,g5,g6,g7,g8,g9,g10,g11,g12⟩:=h.block hm;rw [hg] at g1;cases g1;obtain ⟨hlen,cap,hv0,hcap,_,_⟩:=hcc g5.symm;rw [List.length_map] at hlen hv0;subst hv0;simp only at g3 g6 g8 g9 g10 g11;have hvals:us=valsA zs:=by
  have hl2:us.length=zs.length*3:=by rw [g6,hlen]
  apply List.ext_getElem?;intro j;by_cases hj:j<zs.length*3
  ·have hj1:j<us.length:=by omega
   have hj2:j<(valsA zs).length:=by rw [ADn9];omega
   rw [Zbb hj1,Zbb hj2];have hcell:(growB v (flatA (rowsA (zs.map (·.1))))).cells[j]? =some (Zae (.s (valsA zs)[j])):=by
    show (flatA (rowsA (zs.map (·.1))))[j]? =_;rw [AIn9,Zbh,Zbb hj2];rfl
   have hr:=h.rv (Zae (.s (valsA zs)[j]),us[j]) (Zdp _ (Zdp _ (AJn9 hg g2 hcell (Zbb hj1))));exact congrArg some (RV.s_eq hr)
  ·rw [Zdi (by omega),Zdi (by rw [ADn9];omega)]
 subst hvals;have hHK:HoldsK encA 3 w b 0 d:=by
  intro j hj;have hj':j<(valsA zs).length:=by rw [ADn9,←hds];simpa using hj
  refine ⟨?_, ?_⟩
  ·rw [Nat.zero_add];have hc:=AEk9 g8 g9 j (valsA zs)[j] (Zbb hj');rw [hc,getElem!_pos (flatK encA 3 d) j hj];congr 1;have e2:=ASk9 d;show _=(flatK encA 3 d)[j];rw [←Array.getElem_toList];congr 1;exact e2.symm
  ·unfold World.frozen?;simp only [g8];simp
 have hblk:b<w.heap.size:=(Array.getElem?_eq_some_iff.1 g8).1;have hcall:=AnyQ.slices_SortFunc_eq Tryz.sortAsk 3 Tryz.isAgg63 Tryz.sizeOf63 encA (fun _=>rfl) (by intro x y hy;simp only [encA,Zbw,List.not_mem_nil,or_false] at hy;rcases hy with rfl|rfl|rfl<;>rfl) cmpA swoA 46 #[] b 0 cap d w (enters_of func46 (by kernel_rfl) rfl) (BWx9 b 0 d.size w) hHK hblk (by rw [hds];simp at hn;omega);refine callsIn_wide.2 ?_;have ea:d.size=zs.length:=hds;rw [ea] at hcall;refine hcall.mono ?_;rintro _ _ ⟨rfl,n,os,rfl⟩;have hrl:(valsA r.toList).length=zs.length*3:=by rw [ADn9,Array.length_toList,hrs,hds]
 have ha:=h.below (ANy9 w n) (fun _ _ h=>h) (fun _ _ h=> .inl h);have hpush:Rel S X yv (Sort.ahead w n) m (((valsA r.toList).map fun v=>Zae (.s v)).zip (valsA r.toList)++(B++AAa9 hp hv)) hp hv:=by
  refine (ha.sub (List.sublist_append_right _ _)).pushAll _ fun p hp=> ?_;obtain ⟨i,hi⟩:=List.mem_iff_getElem?.1 hp;rw [Zbe,Zbh] at hi;obtain ⟨hi1,hi2⟩:=hi;rw [hi2] at hi1;obtain ⟨p1,p2⟩:=p;simp only [Zea,Option.some.injEq] at hi1;subst hi1;exact ⟨.d (.s _),rfl⟩
 have hst:=hpush.storeBlock (g:=g) (off:=0) (cur:=cur) (e:=e) (by simp) (by
  intro u hu;simp only [valsA,List.mem_flatMap,encA,Zbw,List.not_mem_nil,or_false] at hu;obtain ⟨_,_,hu⟩:=hu;rcases hu with rfl|rfl|rfl<;>rfl) hg hm g2 rfl (by
  show 0+(valsA r.toList).length≤(flatA (rowsA (zs.map (·.1)))).length;rw [AIn9,List.length_map,hrl,ADn9];omega) g8
 rw [←BDs9 (w:=Sort.ahead w n) (b:=b) g8 r (by rw [hrs,hds];omega)] at hst;obtain ⟨hst1,hst2⟩:=hst;have hblk2:({growB v (flatA (rowsA (zs.map (·.1)))) with cells:=(growB v (flatA (rowsA (zs.map (·.1))))).cells.take 0++((valsA r.toList).map fun v=>Zae (.s v))++(growB v (flatA (rowsA (zs.map (·.1))))).cells.drop (0+(valsA r.toList).length)}:Blk)=growB v (flatA (rowsA (r.toList.map (·.1)))):=by
  have e3:(growB v (flatA (rowsA (zs.map (·.1))))).cells.drop (0+(valsA r.toList).length)= []:=by
   show (flatA (rowsA (zs.map (·.1)))).drop _= [];rw [AIn9,List.drop_eq_nil_iff,List.length_map,hrl,ADn9];omega
  rw [e3,List.take_zero,List.nil_append,Zdu];show (⟨(valsA r.toList).map fun v=>Zae (.s v),false,true,v⟩:Blk)=⟨flatA (rowsA (r.toList.map (·.1))),false,true,v⟩;rw [AIn9 r.toList]
 rw [hblk2] at hst1;have hgr:=hst1.below (ASx9 _ os) (fun _ _ h=>h) (fun _ _ h=> .inl h);refine ⟨_,S,m,_,rfl,⟨?_,fun _ _ h=>h,fun _ _ h=> .inl h,MStep.refl m⟩,hgr.cons (x:= .tup []) (.tup rfl (by intro i c v hc;simp at hc)) rfl⟩;exact ((AAk9 (ANy9 w n) _).trans hst2).trans (AAk9 (ASx9 _ os) _)
def TAf:List (Nat×(List AV→(AV→Prop)→Prop)):= [(35,cNew),(36,cIn),(37,cFind),(42,CEj9)]
theorem CJg9:AAc9 prog TAf:=Zaj BGx9 (Zaj BHd9 (Zaj AVd9 (Zaj BNp9 Zak)))
def UAf:List (Nat×(List AV→List Blk→(AV→List Blk→Prop)→Prop)):= [(40,sOA),(45,BTm9),(1000063,fun _ _ _=>False)]
abbrev Qz51 (v0:TabT):List AV:= [Zae (Zan 4 (rowsU (Zdl v0))),Zae (Zan 5 (rowsG (Zdb v0))),Zae (Zdy (.slice none 0 0))]
abbrev Qz58 (v0:List AskT) (v1:Nat):=Blk.mk (flatA (rowsA v0)) false true v1
abbrev Qz69 (v0:List UseT) (v1:List GraT) (v2:List (List Dv)):List AV:= [Zae (Zan 4 (rowsU v0)),Zae (Zan 5 (rowsG v1)),Zae (Zan 3 v2)]
theorem CIb9 (ly:LayT) (t:TabT) (me:Int) (l:List NearT) (pe many fr:Int):wpFn prog ⟨TAf,UAf,wlAk,y,false⟩ 100 f12 [layA ly,tabA t, .d (i64 me), .d (.sl 31 (rowsN l)), .d (i64 pe), .d (i64 many), .d (i64 fr)] b R=(∃(ly0:LayT) (t1:TabT) (me2:Int) (l3:List NearT) (fr4:Int) (s5:SideT) (q6:Bool),(Qz16 ly t me l fr)=(Qz16 ly0 t1 me2 l3 fr4)∧(TabOk t1∧Zaa l3<1000000∧(∀(x:NearT),x∈l3→ACf9 x)∧q6=newS ly0 t1 me2 l3 fr4∧s5=sideS ly0 me2 l3 fr4)∧BIf q6 (∃(n7:Int) (h8:Int) (z9:Bool), [Zae (i64 many),Zae (i64 24)]= [Zae (i64 n7),Zae (i64 h8)]∧z9=inN n7 h8∧BIf (!z9) (R (.agg (Qz1 t)) b) (∃(s10:SideT) (pe11:Int) (q12:NearT) (e13:Bool), [Zag (Qz2 s5),Zae (i64 pe)]= [Zag (Qz2 s10),Zae (i64 pe11)]∧(Zaa (Zau s10)≤9223372036854775807∧q12=nearO (sFind s10 pe11)∧e13=Option.isSome (sFind s10 pe11))∧BIf (!e13) (R (.agg (Qz51 t)) b) (∃(s14:SideT) (us15:List UseT) (gs16:List GraT) (n17:NearT) (pe18:Int) (l19:List AskT) (q20:List AskT), [Zae (Zan 3 (rowsA (Zdh t))),Zax (Fn.func 41) [] [Zag [i64 pe],Zag [Zcq (Fn.func 38) [Zdr [Zdr (Qz2 s5)],Zdr [Zan 4 (rowsU (Zdl t)),Zan 5 (rowsG (Zdb t)),Zdy (.slice none 0 0)],Zdr (nearR q12)]]]]= [Zae (Zan 3 (rowsA l19)),Zax (Fn.func 41) [] [Zag [i64 pe18],Zag [Zcq (Fn.func 38) (Qz11 s14 us15 gs16 n17)]]]∧(((Zaa (Zau s14)≤9223372036854775807∧(∀(x:NearT),x∈Zau s14→AAy9 x)∧layOk (Zcg s14)=true)∧(Zaa us15<10000∧Zaa gs16<10000)∧Zaa (Zcp n17)<10000∧Zaa (Zck n17)<10000)∧Zaa l19<1000000∧q20=List.filter (keepA s14 us15 gs16 n17 pe18) l19)∧BIf (Zfw q20) (∃(z21:Int),(z21=if many<(0:Int) then many else (0:Int))∧BIf (decide (z21=(0:Int))) (∃(s22:SideT), [Zag (Qz2 s5)]= [Zag (Qz2 s22)]∧∃(ly23:LayT) (us24:List UseT) (gs25:List GraT) (pe26:Int) (many27:Int) (s28:SideT) (n29:NearT),rfAk=rfAk∧(((Zaa (Zau s28)≤9223372036854775807∧(∀(x:NearT),x∈Zau s28→AAy9 x)∧layOk (Zcg s28)=true)∧(Zaa us24<10000∧Zaa gs25<10000)∧Zaa (Zcp n29)<10000∧Zaa (Zck n29)<10000)∧Zcg s28=ly23∧(1:Int)≤Zcx ly23∧Zcx ly23≤(60:Int))∧∃(q30:List AskT),(bds 8 (Zaf 1 0::Zab::Zab::Zaf 2 0::Zaf 3 0::Zab::Zaf 4 0::bds 5 (Zaf 7 0::Zaf 8 0::bds 41 (Zax (Fn.func 89) [] [Zag [Zdr (Qz2 s22)]]::bds 25 []))))=(bds 8 (Zaf 1 0::Zab::Zab::Zaf 2 0::Zaf 3 0::Zab::Zaf 4 0::bds 5 (Zaf 7 0::Zaf 8 0::bds 41 (Zax (Fn.func 89) [] [Zag [Zdr (Qz2 s28)]]::bds 25 []))))∧ [Blk.mk (Qz3 ly) false false 0,Blk.mk (Qz51 t) false false 0,cell (i64 pe),cell (i64 many),Blk.mk Qz4 false false 0,Blk.mk [Zag (Qz2 s5)] false false 0,nearB q12,Blk.mk [Zax (Fn.func 38) [] [Zaf 5 0,Zaf 1 0,Zaf 6 0]] false false 0,cell (Zdy (.slice none 0 0))]= [Blk.mk (Qz3 ly23) false false 0,Blk.mk (Qz8 us24 gs25) false false 0,cell (i64 pe26),cell (i64 many27),Blk.mk Qz4 false false 0,Blk.mk [Zag (Qz2 s28)] false false 0,nearB n29,Blk.mk [Zax (Fn.func 38) [] [Zaf 5 0,Zaf 1 0,Zaf 6 0]] false false 0,cell (Zdy (.slice none 0 0))]∧q30=askGo s28 us24 gs25 n29 pe26 many27 (triKs ly23) []∧BIf (Zfw q30) (R (.agg (Qz8 us24 gs25)) b∧R (.agg (Qz8 us24 gs25)) b) (∀(v:Nat) (c0:List AV),(∃(z31:List AskT),some (Qz58 q30 v)=some (Qz58 z31 v)∧(3=3∧Zaa z31=Zaa q30∧Zaa q30<1000000∧∀(a:AskT),a∈z31→(-1000:Int)≤Zcr a∧Zcr a≤(1000:Int))∧∀(z':List AskT),List.Perm z' z31→List.Pairwise (fun (a32 b33:AskT)=>Zcr a32≤Zcr b33) z'→v=v∧∃(xs34:List (List Dv)),flatA (rowsA z')=flatA xs34∧Zaa xs34=Zaa q30∧(∀(r:List Dv),r∈xs34→Zaa r=3)∧R (.agg (Qz69 us24 gs25 xs34)) b)∧∃(z35:List AskT),some (Qz58 q30 v)=some (Qz58 z35 v)∧(3=3∧Zaa z35=Zaa q30∧Zaa q30<1000000∧∀(a:AskT),a∈z35→(-1000:Int)≤Zcr a∧Zcr a≤(1000:Int))∧∀(z':List AskT),List.Perm z' z35→List.Pairwise (fun (a36 b37:AskT)=>Zcr a36≤Zcr b37) z'→v=v∧∃(xs38:List (List Dv)),flatA (rowsA z')=flatA xs38∧Zaa xs38=Zaa q30∧(∀(r:List Dv),r∈xs38→Zaa r=3)∧R (.agg (Qz69 us24 gs25 xs38)) b)) False) (Zaa q20 - 1=Zaa q20 - 1∧∃(z39:Int),(z39=if many<((Zaa q20:Nat):Int) then many else ((Zaa q20:Nat):Int))∧BIf (true&&decide (0≤z39)&&decide (z39≤((Zaa q20:Nat):Int))) (Zaa q20 - 1=Zaa q20 - 1∧∃(s40:SideT), [Zag (Qz2 s5)]= [Zag (Qz2 s40)]∧∃(ly41:LayT) (us42:List UseT) (gs43:List GraT) (pe44:Int) (many45:Int) (s46:SideT) (n47:NearT),rfAk=rfAk∧(((Zaa (Zau s46)≤9223372036854775807∧(∀(x:NearT),x∈Zau s46→AAy9 x)∧layOk (Zcg s46)=true)∧(Zaa us42<10000∧Zaa gs43<10000)∧Zaa (Zcp n47)<10000∧Zaa (Zck n47)<10000)∧Zcg s46=ly41∧(1:Int)≤Zcx ly41∧Zcx ly41≤(60:Int))∧∃(z48:List AskT) (q49:List AskT) (v50:Nat),(bds 8 (Zaf 1 0::Zab::Zab::Zaf 2 0::Zaf 3 0::Zab::Zaf 4 0::bds 5 (Zaf 7 0::Zaf 10 0::bds 41 (Zax (Fn.func 89) [] [Zag [Zdr (Qz2 s40)]]::bds 25 []))))=(bds 8 (Zaf 1 0::Zab::Zab::Zaf 2 0::Zaf 3 0::Zab::Zaf 4 0::bds 5 (Zaf 7 0::Zaf 10 0::bds 41 (Zax (Fn.func 89) [] [Zag [Zdr (Qz2 s46)]]::bds 25 []))))∧ [Blk.mk (Qz3 ly) false false 0,Blk.mk (Qz51 t) false false 0,cell (i64 pe),cell (i64 many),Blk.mk Qz4 false false 0,Blk.mk [Zag (Qz2 s5)] false false 0,nearB q12,Blk.mk [Zax (Fn.func 38) [] [Zaf 5 0,Zaf 1 0,Zaf 6 0]] false false 0,Blk.mk [bad,bad,bad] false false 0,Blk.mk (Zbo (Zam z39*3) (flatA (rowsA q20))) false true (Zaa q20 - 1+1),Blk.mk [Zbl 9 (Zaa q20 - 1+1) (Zam z39) 3] false false 0]= [Blk.mk (Qz3 ly41) false false 0,Blk.mk (Qz8 us42 gs43) false false 0,cell (i64 pe44),cell (i64 many45),Blk.mk Qz4 false false 0,Blk.mk [Zag (Qz2 s46)] false false 0,nearB n47,Blk.mk [Zax (Fn.func 38) [] [Zaf 5 0,Zaf 1 0,Zaf 6 0]] false false 0,Blk.mk [bad,bad,bad] false false 0,Blk.mk (flatA (rowsA z48)) false true v50,Blk.mk [Zbl 9 v50 (Zaa z48) 3] false false 0]∧(Zaa z48<90000∧q49=askGo s46 us42 gs43 n47 pe44 many45 (triKs ly41) z48)∧∀(v:Nat),(∃(z51:List AskT),some (Qz58 q49 v)=some (Qz58 z51 v)∧(3=3∧Zaa z51=Zaa q49∧Zaa q49<1000000∧∀(a:AskT),a∈z51→(-1000:Int)≤Zcr a∧Zcr a≤(1000:Int))∧∀(z':List AskT),List.Perm z' z51→List.Pairwise (fun (a52 b53:AskT)=>Zcr a52≤Zcr b53) z'→v=v∧∃(xs54:List (List Dv)),flatA (rowsA z')=flatA xs54∧Zaa xs54=Zaa q49∧(∀(r:List Dv),r∈xs54→Zaa r=3)∧R (.agg (Qz69 us42 gs43 xs54)) b)∧∃(z55:List AskT),some (Qz58 q49 v)=some (Qz58 z55 v)∧(3=3∧Zaa z55=Zaa q49∧Zaa q49<1000000∧∀(a:AskT),a∈z55→(-1000:Int)≤Zcr a∧Zcr a≤(1000:Int))∧∀(z':List AskT),List.Perm z' z55→List.Pairwise (fun (a56 b57:AskT)=>Zcr a56≤Zcr b57) z'→v=v∧∃(xs58:List (List Dv)),flatA (rowsA z')=flatA xs58∧Zaa xs58=Zaa q49∧(∀(r:List Dv),r∈xs58→Zaa r=3)∧R (.agg (Qz69 us42 gs43 xs58)) b) False)))) (R (.agg (Qz1 t)) b)):=by kernel_rfl
theorem AIo9 (n:Nat):∀ {l:List AskT},l.Pairwise (fun a b=>a.sl≤b.sl)→l.filter (fun x=>decide (x.sl<((n+1:Nat):Int)))=l.filter (fun x=>decide (x.sl<(n:Int)))++l.filter (fun x=>x.sl==((n:Nat):Int))
 | [],_=>rfl
 | a::l,h=>by
  obtain ⟨h1,h2⟩:=Zds.1 h;have ih:=AIo9 n h2;simp only [List.filter_cons];by_cases c1:a.sl<(n:Int)
  ·have c2:a.sl<((n+1:Nat):Int):=by omega
   have c3:¬a.sl=(n:Int):=by omega
   simp only [c1,c2,decide_true,if_true,beq_iff_eq,c3,if_false,Zgs,ih]
  ·have e0:l.filter (fun x=>decide (x.sl<(n:Int)))= []:=by
    rw [List.filter_eq_nil_iff];intro x hx;have:=h1 x hx;simp;omega
   by_cases c3:a.sl=(n:Int)
   ·have c2:a.sl<((n+1:Nat):Int):=by omega
    simp only [c1,c2,c3,decide_true,decide_false,if_true,Zee,if_false,beq_self_eq_true,ih,e0,List.nil_append];simp [c3];omega
   ·have c2:¬a.sl<((n+1:Nat):Int):=by omega
    simp only [c1,c2,decide_false,Zee,if_false,beq_iff_eq,c3,ih]
theorem AGi9 (n:Int):∀ {l:List AskT},l.Pairwise (fun a b=>a.sl≠b.sl)→(l.filter (fun x=>x.sl==n)).length≤1
 | [],_=>by simp
 | a::l,h=>by
  obtain ⟨h1,h2⟩:=Zds.1 h;rw [List.filter_cons];split
  ·rename_i c;have e0:l.filter (fun x=>x.sl==n)= []:=by
    rw [List.filter_eq_nil_iff];intro x hx;have:=h1 x hx;simp only [beq_iff_eq] at c ⊢;omega
   simp [e0]
  ·exact AGi9 n h2
theorem BTu9 {α:Type} {a b:List α} (h:a.Perm b) (hb:b.length≤1):a=b:=by
 match b,hb with
 | [],_=>exact h.eq_nil
 | [x],_=>exact List.perm_singleton.1 h
theorem ALg9 {l z:List AskT} (hp:l.Perm z) (hs:l.Pairwise (fun a b=>a.sl≤b.sl)) (hd:z.Pairwise (fun a b=>a.sl≠b.sl)) (h0:∀a∈z,0≤a.sl):∀n:Nat,l.filter (fun x=>decide (x.sl<(n:Int)))=sortA z n
 | 0=>by
  rw [sortA,List.filter_eq_nil_iff];intro x hx;have:=h0 x (hp.mem_iff.1 hx);simp;omega
 | n+1=>by
  rw [AIo9 n hs,sortA,ALg9 hp hs hd h0 n];congr 1;exact BTu9 (hp.filter _) (AGi9 _ hd)
theorem BDa9 {l z:List AskT} {n:Nat} (hp:l.Perm z) (hs:l.Pairwise (fun a b=>a.sl≤b.sl)) (hd:z.Pairwise (fun a b=>a.sl≠b.sl)) (h0:∀a∈z,0≤a.sl∧a.sl<(n:Int)):l=sortA z n:=by
 rw [←ALg9 hp hs hd (fun a h=>(h0 a h).1) n,List.filter_eq_self.2];intro x hx;exact decide_eq_true (h0 x (hp.mem_iff.1 hx)).2
def AJi9 (da:Int) (z:List AskT):Prop:=(∀a∈z,0≤a.sl∧a.sl<da)∧z.Pairwise (fun a b=>a.sl≠b.sl)
theorem BCu9 (s:SideT) (k:Nat) (hd:1≤s.lay.da∧s.lay.da≤60) (hc:0≤triC s k):0≤triSl s k∧triSl s k<s.lay.da:=by
 unfold triSl;rw [Int.tmod_eq_emod_of_nonneg hc];exact ⟨Int.emod_nonneg _ (by omega),Int.emod_lt_of_pos _ (by omega)⟩
theorem BIx9 {s:SideT} {us:List UseT} {gs:List GraT} {n:NearT} {pe:Int} {z:List AskT} {k:Nat} (h:AJi9 s.lay.da z) (hk:0≤triSl s k∧triSl s k<s.lay.da):AJi9 s.lay.da (AIr9 s us gs n pe z k):=by
 unfold AIr9;split
 ·split
  ·exact h
  ·rename_i hz;refine ⟨fun a ha=> ?_, ?_⟩
   ·rcases List.mem_append.1 ha with ha|ha
    ·exact h.1 a ha
    ·rw [List.mem_singleton] at ha;subst ha;exact hk
   ·rw [List.pairwise_append];refine ⟨h.2,List.pairwise_singleton _ _,fun a ha b hb=> ?_⟩;rw [List.mem_singleton] at hb;subst hb;simp only [List.any_eq_true,beq_iff_eq,not_exists,not_and] at hz;exact hz a ha
 ·exact h
theorem AKj9 {s:SideT} {us:List UseT} {gs:List GraT} {n:NearT} {pe many:Int}:∀ {ks:List Nat} {z:List AskT},AJi9 s.lay.da z→(∀k∈ks,0≤triSl s k∧triSl s k<s.lay.da)→AJi9 s.lay.da (askGo s us gs n pe many ks z)
 | [],z,h,_=>h
 | k::r,z,h,hk=>by
  rw [askGo];split
  ·exact h
  ·exact AKj9 (BIx9 h (hk k (Zbv))) fun k' h'=>hk k' (Zbx _ h')
theorem AUd9:∀(n:Nat) {l:List Nat},l.Nodup→(∀x∈l,x<n)→l.length≤n
 | 0,l,_,h=>by
  cases l with
  |nil=>simp
  |cons a l=>exact absurd (h a (by simp)) (by omega)
 | n+1,l,hn,h=>by
  by_cases hm:n∈l
  ·have h1:=AUd9 n (hn.erase n) (fun x hx=>by
    have h2:=(List.Nodup.mem_erase_iff hn).1 hx;have h3:=h x h2.2;have h4:=h2.1;omega)
   rw [List.length_erase_of_mem hm] at h1;omega
  ·have h1:=AUd9 n hn (fun x hx=>by
    have h2:=h x hx;have h3:x≠n:=fun e=>hm (e▸hx);omega)
   omega
theorem AJi9.len {da:Int} {z:List AskT} (h:AJi9 da z) (hd:0≤da∧da≤60):z.length≤60:=by
 have hn:(z.map fun a=>a.sl.toNat).Nodup:=by
  rw [List.Nodup,List.pairwise_map];refine List.Pairwise.imp_of_mem (fun {a b} ha hb hab=> ?_) h.2;have h1:=h.1 a ha;have h2:=h.1 b hb;omega
 have h2:=AUd9 60 hn fun x hx=>by
  obtain ⟨a,ha,rfl⟩:=Zbg.1 hx;have h1:=h.1 a ha;omega
 simpa using h2
theorem BKr9:∀args hp K,BTm9 args hp K→∃x hp',SCall prog 45 args hp x hp'∧K x hp':=by
 intro args hp K h;unfold BTm9 at h;split at h
 ·refine ⟨_,_,⟨enters_of func45 (by kernel_rfl) rfl, ?_⟩,h⟩;intro S X yv w m B hv vs hl hr;obtain ⟨v0,v1,rfl⟩:∃v0 v1,vs= [v0,v1]:=by
   match vs,hl with
   | [a,b],_=>exact ⟨a,b,rfl⟩
  have h0:=RV.s_eq (hr.rv (.d (.s (.slice none 0 0)),v0) (by simp));subst h0;refine callsIn_wide.2 ((AnyF.slices_SortFunc_none Tryz.sortAsk none 0 v1 w).mono ?_);rintro _ _ ⟨rfl,rfl⟩;refine ⟨_,S,m,hv,rfl,Gs.refl _ _ _ _ _,Rel.cons (hr.sub (List.sublist_append_right _ _)) (.tup rfl (by intro i c v hc;simp at hc)) rfl⟩
 ·obtain ⟨z,hg,⟨rfl,rfl,hn,hz⟩,hK⟩:=h;exact CAy9 hg hn hz K fun z' h1 h2=>hK z' h1 h2
 ·exact h.elim
def keptA (s:SideT) (t:TabT) (n:NearT) (pe many:Int):List AskT:=(t.ak.filter (keepA s t.us t.gs n pe)).take many.toNat
def askS (ly:LayT) (t:TabT) (me:Int) (l:List NearT) (pe many fr:Int):TabT:=
 if (newS ly t me l fr&&inN many 24)=true then
  match sFind (sideS ly me l fr) pe with
  |none=>⟨t.us,t.gs, []⟩
  |some n=>⟨t.us,t.gs,sortA (askGo (sideS ly me l fr) t.us t.gs n pe many (triKs ly) (keptA (sideS ly me l fr) t n pe many)) ly.da.toNat⟩
 else t
theorem AWo9 {ly:LayT} {t:TabT} {me:Int} {l:List NearT} {fr:Int} (h:newS ly t me l fr=true):(0≤me∧me<ly.no)∧(0≤fr∧fr≤999999992):=by
 have hv:=ACa9 (AEa9 h);rw [newS,Zai,Zai,Zai] at h;have h1:=h.2.1;have h2:=h.2.2.1;simp only [inN,Zai,decide_eq_true_eq] at h1 h2;have e:Zad Zbc (ly.no - 1)=ly.no - 1:=by simp [Zad,IntKind.bits,IntKind.signed];omega
 rw [e] at h1;omega
theorem BPd9 {s:SideT} (k:Nat) (hk:k<1000) (hd:1≤s.lay.da∧s.lay.da≤60) (hm:0≤s.me∧s.me<60) (hf:0≤s.fr∧s.fr≤999999992):0≤triC s k:=by
 unfold triC;have e1:Zad Zbc (17*s.me)=17*s.me:=by simp [Zad,IntKind.bits,IntKind.signed];omega
 have e2:Zad Zbc (5*s.fr)=5*s.fr:=by simp [Zad,IntKind.bits,IntKind.signed];omega
 have e3:Zad Zbc (17*s.me+5*s.fr)=17*s.me+5*s.fr:=by simp [Zad,IntKind.bits,IntKind.signed];omega
 have e4:Zad Zbc (17*s.me+5*s.fr+k)=17*s.me+5*s.fr+k:=by simp [Zad,IntKind.bits,IntKind.signed];omega
 rw [e1,e2,e3,e4];exact Int.tmod_nonneg _ (by omega)
def AJr9 (x:NearT):Prop:=x.us.length<10000∧x.gs.length<10000∧x.ak.length<10000
theorem AXw9 {R:AV→Prop} {us:List UseT} {gs:List GraT} {q:List AskT} {da:Int} {v:Nat} (hd:1≤da∧da≤60) (hs:AJi9 da q) (hR:R (tabA ⟨us,gs,sortA q da.toNat⟩)):
 ∃z:List AskT,some (Blk.mk (flatA (rowsA q)) false true v)=some (Blk.mk (flatA (rowsA z)) false true v)∧(3=3∧z.length=q.length∧q.length<1000000∧∀a∈z, -1000≤a.sl∧a.sl≤1000)∧∀z':List AskT,z'.Perm z→z'.Pairwise (fun a b=>a.sl≤b.sl)→v=v∧∃xs:List (List Dv),flatA (rowsA z')=flatA xs∧xs.length=q.length∧(∀r∈xs,r.length=3)∧R (.agg [.d (.sl 4 (rowsU us)), .d (.sl 5 (rowsG gs)), .d (.sl 3 xs)]):=by
 have hl:=hs.len (by omega);refine ⟨q,rfl,⟨rfl,rfl,by omega,fun a ha=> ?_⟩,fun z' h1 h2=>⟨rfl,rowsA z',rfl,by rw [AAn9,h1.length_eq],ANi9 z', ?_⟩⟩
 ·have:=hs.1 a ha;omega
 ·have e:=BDa9 (n:=da.toNat) h1 h2 hs.2 (fun a ha=>by have:=hs.1 a ha;omega);rw [e];exact hR
theorem CId9:AAl9 prog UAf:=Zbr CGp9 (Zbr BKr9 (Zbr (fun _ _ _ h=>h.elim) Zah))
theorem BTg9 (us:List UseT) (gs:List GraT):LeV (.agg [.d (.sl 4 (rowsU us)), .d (.sl 5 (rowsG gs)), .d (.s (.slice none 0 0))]) (tabA ⟨us,gs, []⟩):=LeV.aggs (.cons .rfl (.cons .rfl (.cons (.nil rfl) .nil)))
theorem AVz9:∀n:Nat,sortA [] n= []
 |0=>rfl
 |n+1=>by rw [sortA,AVz9 n];rfl
theorem pcAsk (ly:LayT) (t:TabT) (me:Int) (l:List NearT) (pe many fr:Int) (ht:TabOk t) (hl:l.length<1000000) (hx:∀x∈l,AJr9 x):
 PCall prog 12 [layA ly,tabA t, .d (i64 me), .d (.sl 31 (rowsN l)), .d (i64 pe), .d (i64 many), .d (i64 fr)] (tabA (askS ly t me l pe many fr)):=by
 have hx':∀x∈l,ACf9 x:=fun x h=>by have:=hx x h;exact ⟨by have:=this.1;omega,by have:=this.2.1;omega,by have:=this.2.2;omega⟩
 refine PCall.ofFnV (n:=100) (u:=false) (fun _=>wlAk) mixed CJg9 CId9 (fun Ev=>CAn9) func12 (by rfl) (by rfl) fun Ev bb=> ?_;rw [CIb9];refine ⟨ly,t,me,l,fr,_,_,rfl,⟨ht,hl,hx',rfl,rfl⟩,Zba (fun h1=> ?_) fun h1=> ?_⟩
 ·have hvt:=AEa9 h1;have hv:=ACa9 hvt;have hva:=AHp9 hvt;have hin:=AWo9 h1;have s1:=BDc9 (me:=me) (fr:=fr) hl hx' hv;refine ⟨many,24,_,rfl,rfl,Zba (fun h2=> ?_) fun h2=> ?_⟩
  ·have h2':inN many 24=false:=by simpa using h2
   rw [askS,h2',Zcs,if_neg (by decide)];exact .rfl
  have h2':inN many 24=true:=by simpa using h2
  have hm:0≤many∧many≤24:=by simpa [inN] using h2'
  refine ⟨sideS ly me l fr,pe,_,_,rfl,⟨s1.1,rfl,rfl⟩,Zba (fun h3=> ?_) fun h3=> ?_⟩
  ·have h3':sFind (sideS ly me l fr) pe=none:=by simpa using h3
   rw [askS,h1,h2',Bool.and_self,if_pos rfl,h3'];exact BTg9 _ _
  have h3':(sFind (sideS ly me l fr) pe).isSome=true:=by simpa using h3
  obtain ⟨n,hn⟩:=Option.isSome_iff_exists.1 h3';have hnn:nearO (sFind (sideS ly me l fr) pe)=n:=by rw [hn];rfl
  have eS:askS ly t me l pe many fr=⟨t.us,t.gs,sortA (askGo (sideS ly me l fr) t.us t.gs n pe many (triKs ly) (keptA (sideS ly me l fr) t n pe many)) ly.da.toNat⟩:=by
   rw [askS,h1,h2',Bool.and_self,if_pos rfl,hn]
  rw [hnn,eS];have hnm:=List.mem_of_find?_eq_some hn;have hnl:n.us.length<10000∧n.gs.length<10000:=by
   simp only [sideS,Zbg] at hnm;obtain ⟨x,hxm,rfl⟩:=hnm;have h4:=hx x hxm;exact ⟨Zdz (Zfz _ _) h4.1,Zdz (Zfz _ _) h4.2.1⟩
  have hA:AskOk (sideS ly me l fr) t.us t.gs n:=⟨s1,⟨ht.1,ht.2.1⟩,hnl⟩;have hset0:AJi9 ly.da t.ak:=⟨fun a ha=>by
   have h5:=hva.2.2.1.1 a ha;simp only [askOk,ABe9,Zai,decide_eq_true_eq] at h5;omega,hva.2.2.1.2.imp fun h=>by omega⟩
  have hsub:∀m:Nat,AJi9 ly.da ((t.ak.filter (keepA (sideS ly me l fr) t.us t.gs n pe)).take m):=fun m=>
   ⟨fun a ha=>hset0.1 a (List.mem_filter.1 (List.mem_of_mem_take ha)).1,(hset0.2.sublist List.filter_sublist).sublist (List.take_sublist _ _)⟩
  have htri:∀k∈triKs ly,0≤triSl (sideS ly me l fr) k∧triSl (sideS ly me l fr) k<(sideS ly me l fr).lay.da:=fun k hk=>by
   rw [triKs,List.mem_range'_1] at hk;have hd:(sideS ly me l fr).lay.da=ly.da:=rfl;exact BCu9 _ k (by rw [hd];exact hv.2) (BPd9 k (by omega) (by rw [hd];exact hv.2) ⟨hin.1.1,by have:=hin.1.2;show me<60;omega⟩ hin.2)
  refine ⟨sideS ly me l fr,t.us,t.gs,n,pe,t.ak,_,rfl,⟨hA,by have:=ht.2.2;omega,rfl⟩,Zba (fun h4=> ?_) fun h4=> ?_⟩
  ·have h4':t.ak.filter (keepA (sideS ly me l fr) t.us t.gs n pe)= []:=List.isEmpty_iff.1 h4;have hk:keptA (sideS ly me l fr) t n pe many= []:=by rw [keptA,h4',List.take_nil]
   rw [hk];have hgs:=AKj9 (s:=sideS ly me l fr) (us:=t.us) (gs:=t.gs) (n:=n) (pe:=pe) (many:=many) (ks:=triKs ly) (z:= []) ⟨by simp, .nil⟩ htri;refine ⟨_,rfl,Zaz (by rw [if_neg (by omega)];rfl) ⟨sideS ly me l fr,rfl,ly,t.us,t.gs,pe,many,sideS ly me l fr,n,rfl,⟨hA,rfl,hv.2⟩,_,rfl,rfl,rfl,Zba (fun h5=> ?_) fun h5 v c0=> ?_⟩⟩
   ·have h5':=List.isEmpty_iff.1 h5;rw [h5',AVz9];exact ⟨BTg9 _ _,BTg9 _ _⟩
   ·exact ⟨AXw9 (R:=fun y=>LeV y _) hv.2 hgs LeV.rfl,AXw9 (R:=fun y=>LeV y _) hv.2 hgs LeV.rfl⟩
  ·have hq:(if many<((t.ak.filter (keepA (sideS ly me l fr) t.us t.gs n pe)).length:Int) then many else ((t.ak.filter (keepA (sideS ly me l fr) t.us t.gs n pe)).length:Int))=((keptA (sideS ly me l fr) t n pe many).length:Nat):=by
    rw [keptA,Zcd];split<;>omega
   have hgs:=AKj9 (s:=sideS ly me l fr) (us:=t.us) (gs:=t.gs) (n:=n) (pe:=pe) (many:=many) (ks:=triKs ly) (z:=keptA (sideS ly me l fr) t n pe many) (hsub _) htri;have hlk:(keptA (sideS ly me l fr) t n pe many).length≤(t.ak.filter (keepA (sideS ly me l fr) t.us t.gs n pe)).length:=by rw [keptA,Zcd];exact Nat.min_le_right _ _
   have hlk2:(keptA (sideS ly me l fr) t n pe many).length<90000:=by
    have h6:=Zfz (keepA (sideS ly me l fr) t.us t.gs n pe) t.ak;have h7:=ht.2.2;omega
   have hfl:Zbo (((keptA (sideS ly me l fr) t n pe many).length:Int).toNat*3) (flatA (rowsA (t.ak.filter (keepA (sideS ly me l fr) t.us t.gs n pe))))=flatA (rowsA (keptA (sideS ly me l fr) t n pe many)):=by
    have f:∀l:List AskT,flatA (rowsA l)=flatA (l.map askR):=fun _=>rfl;rw [f,f,Zcf,ASl9 (k:=3) (row:=askR) (fun _=>rfl)];congr 2;rw [keptA,Zcd,List.take_eq_take_iff];omega
   refine ⟨rfl,_,hq.symm,Zaz ?_ ⟨rfl,sideS ly me l fr,rfl,ly,t.us,t.gs,pe,many,sideS ly me l fr,n,rfl,⟨hA,rfl,hv.2⟩,keptA (sideS ly me l fr) t n pe many,_,(t.ak.filter (keepA (sideS ly me l fr) t.us t.gs n pe)).length - 1+1,rfl, ?_,⟨hlk2,rfl⟩,fun v=>⟨AXw9 (R:=fun y=>LeV y _) hv.2 hgs LeV.rfl,AXw9 (R:=fun y=>LeV y _) hv.2 hgs LeV.rfl⟩⟩⟩
   ·simp only [Zey,Zai,decide_eq_true_eq];omega
   ·rw [hfl,Zcf]
 ·rw [askS,h1,Bool.false_and,if_neg (by decide)];exact .rfl
def cAsk (args:List AV) (K:AV→Prop):Prop:=∃(ly:LayT) (t q:TabT) (me:Int) (l:List NearT) (pe many fr:Int),args= [layA ly,tabA t, .d (i64 me), .d (.sl 31 (rowsN l)), .d (i64 pe), .d (i64 many), .d (i64 fr)]∧(TabOk t∧l.length<1000000∧(∀x∈l,AJr9 x)∧q=askS ly t me l pe many fr)∧K (tabA q)
theorem BRf9:∀args K,cAsk args K→∃x,PCall prog 12 args x∧K x:=by
 rintro _ K ⟨ly,t,_,me,l,pe,many,fr,rfl,⟨ht,hl,hx,rfl⟩,hk⟩;exact ⟨_,pcAsk ly t me l pe many fr ht hl hx,hk⟩
noncomputable def lpSm0:Code:=sub [1,1,0,1,2,3] (code f15)
noncomputable def lpSm1:Code:=sub [1,1,1,0,1,2,3] (code f15)
noncomputable def lpSm2:Code:=sub [1,1,1,1,0,1,2,3] (code f15)
def tmSm0 (z:Bool) (i:Int):List AV:= [.bad, .bad, .ptr 0 0, .ptr 1 0, .d (bo z), .d (i64 i)]++Zap 81 .bad
def tmSm1 (z:Bool) (i:Int):List AV:= [.bad, .bad, .ptr 0 0, .ptr 1 0, .d (bo z), .bad, .d (i64 i)]++Zap 80 .bad
def tmSm2 (z:Bool) (i:Int):List AV:= [.bad, .bad, .ptr 0 0, .ptr 1 0, .d (bo z), .bad, .bad, .d (i64 i)]++Zap 79 .bad
abbrev Qz30 (v0:TabT) (v1:TabT):= [Blk.mk (Qz1 v0) false false 0,Blk.mk (Qz1 v1) false false 0]
abbrev Qz84 (v0:Int):=Zab::Zab::Zaf 0 0::Zaf 1 0::Zae (bo false)::Zae (i64 v0)::bds 81 []
theorem rSm0 (t s:TabT) (i:Int):wpc prog ⟨[], [],wl,y,false⟩ 100 lpSm0 (tmSm0 false i) [tabB t,tabB s] b (maskK 2 [2,3,4,5] K)=(BIf (decide (i<((Zaa (rowsU (Zdl t)):Nat):Int))) (BIf (true&&decide (0≤i)) (∃(x0:Int) (x1:Int) (x2:Int) (x3:Int),(rowsU (Zdl t))[Zam i]? =some [i64 x0,i64 x1,i64 x2,i64 x3]∧BIf (true&&decide (0≤i)) (∃(x6:Int) (x7:Int) (x8:Int) (x9:Int),(rowsU (Zdl s))[Zam i]? =some [i64 x6,i64 x7,i64 x8,i64 x9]∧BIf (!(x0==x6&&(x1==x7&&true)&&(x2==x8&&(x3==x9&&true)))) (K .ret (Qz84 i) (Qz30 t s) b) (K .normal (Zab::Zab::Zaf 0 0::Zaf 1 0::Zae (bo false)::Zae (i64 (Zad .i64 (i+1)))::bds 81 []) (Qz30 t s) b)) False) False) (K (Zbj 0) (Qz84 i) (Qz30 t s) b)):=by kernel_rfl
abbrev Qz80 (v0:Int):=Zab::Zab::Zaf 0 0::Zaf 1 0::Zae (bo false)::Zab::Zae (i64 v0)::bds 80 []
theorem rSm1 (t s:TabT) (i:Int):wpc prog ⟨[], [],wl,y,false⟩ 100 lpSm1 (tmSm1 false i) [tabB t,tabB s] b (maskK 2 [2,3,4,6] K)=(BIf (decide (i<((Zaa (rowsG (Zdb t)):Nat):Int))) (BIf (true&&decide (0≤i)) (∃(x0:Int) (x1:Int) (x2:Int) (x3:Int) (x4:Int),(rowsG (Zdb t))[Zam i]? =some (Qz41 x0 x1 x2 x3 x4)∧BIf (true&&decide (0≤i)) (∃(x7:Int) (x8:Int) (x9:Int) (x10:Int) (x11:Int),(rowsG (Zdb s))[Zam i]? =some (Qz41 x7 x8 x9 x10 x11)∧BIf (!(x0==x7&&(x1==x8&&true)&&(x2==x9&&(x3==x10&&(x4==x11&&true))))) (K .ret (Qz80 i) (Qz30 t s) b) (K .normal (Zab::Zab::Zaf 0 0::Zaf 1 0::Zae (bo false)::Zab::Zae (i64 (Zad .i64 (i+1)))::bds 80 []) (Qz30 t s) b)) False) False) (K (Zbj 2) (Qz80 i) (Qz30 t s) b)):=by kernel_rfl
abbrev Qz76 (v0:Int):=Zab::Zab::Zaf 0 0::Zaf 1 0::Zae (bo false)::Zab::Zab::Zae (i64 v0)::bds 79 []
theorem rSm2 (t s:TabT) (i:Int):wpc prog ⟨[], [],wl,y,false⟩ 100 lpSm2 (tmSm2 false i) [tabB t,tabB s] b (maskK 2 [2,3,4,7] K)=(BIf (decide (i<((Zaa (rowsA (Zdh t)):Nat):Int))) (BIf (true&&decide (0≤i)) (∃(x0:Int) (x1:Int) (x2:Int),(rowsA (Zdh t))[Zam i]? =some [i64 x0,i64 x1,i64 x2]∧BIf (true&&decide (0≤i)) (∃(x5:Int) (x6:Int) (x7:Int),(rowsA (Zdh s))[Zam i]? =some [i64 x5,i64 x6,i64 x7]∧BIf (!(x0==x5&&(x1==x6&&true)&&(x2==x7&&true))) (K .ret (Qz76 i) (Qz30 t s) b) (K .normal (Zab::Zab::Zaf 0 0::Zaf 1 0::Zae (bo false)::Zab::Zab::Zae (i64 (Zad .i64 (i+1)))::bds 79 []) (Qz30 t s) b)) False) False) (K (Zbj 4) (Qz76 i) (Qz30 t s) b)):=by kernel_rfl
def smU (x y:UseT):Bool:=x.sl==y.sl&&(x.of==y.of&&true)&&(x.pe==y.pe&&(x.st==y.st&&true))
def smG (x y:GraT):Bool:=x.sl==y.sl&&(x.of==y.of&&true)&&(x.pe==y.pe&&(x.st==y.st&&(x.un==y.un&&true)))
def smA (x y:AskT):Bool:=x.sl==y.sl&&(x.of==y.of&&true)&&(x.pe==y.pe&&true)
def AGv9 {α:Type} (f:α→α→Bool):List α→List α→Bool
 | [], []=>true
 |x::r,y::s=>f x y&&AGv9 f r s
 |_,_=>false
theorem AIt9 {α:Type} (f:α→α→Bool):∀l m:List α,AGv9 f l m=(decide (l.length=m.length)&& !(l.zip m).any fun p=> !f p.1 p.2)
 | [], []=>rfl
 | [],y::s=>rfl
 |x::r, []=>rfl
 | x::r,y::s=>by
  rw [AGv9,AIt9 f r s];cases h:f x y<;>simp [h]
theorem BRu9 {α:Type} {l m:List α} {i:Nat} {p:α×α} (h:(l.zip m)[i]? =some p):l[i]? =some p.1∧m[i]? =some p.2:=by
 rw [Zbe] at h;exact h
def sameS (a b:TabT):Bool:=AGv9 smU a.us b.us&&(AGv9 smG a.gs b.gs&&AGv9 smA a.ak b.ak)
theorem wrSm0 {Ev:Env prog} {b:Ev.β} {Q:Exit→St Ev.β→Prop} (t s:TabT) (he:t.us.length=s.us.length) (hl:t.us.length<1000000) (h1:(t.us.zip s.us).any (fun p=> !smU p.1 p.2)=false→∀i:Int,Q (.exit 0) ⟨tmSm0 false i, [tabB t,tabB s],b⟩) (h2:(t.us.zip s.us).any (fun p=> !smU p.1 p.2)=true→∀i:Int,Q .ret ⟨tmSm0 false i, [tabB t,tabB s],b⟩):
 WR Ev lpSm0 (t.us.length+1) ⟨tmSm0 false (0:Nat), [tabB t,tabB s],b⟩ Q:=by
 have e:(t.us.zip s.us).length=t.us.length:=by rw [List.length_zip,←he,Nat.min_self]
 rw [←e];refine WR.scanL (X:=⟨[], [],wlW Ev,Ev.Y,false⟩) (k:=100) [2,3,4,5] mixed (CX.Ok.of Zak Zah) (t.us.zip s.us) (fun p=> !smU p.1 p.2) (fun i=>tmSm0 false (i:Nat)) (fun i=>tmSm0 false (i:Nat)) [tabB t,tabB s] 0 (fun i x hi hx K k1 k2=> ?_) (fun K k1=> ?_) (fun h=>h1 h _) fun h i=>h2 h _
 ·obtain ⟨g1,g2⟩:=BRu9 hx;refine Eq.mpr (rSm0 _ _ _ K t s i) ?_;rw [AAh9];refine Zaz (by simp;omega) (Zaz (natI i) ⟨_,_,_,_,ACb9 g1,Zaz (natI i) ⟨_,_,_,_,ACb9 g2,Zba (fun c=>k1 c) fun c=> ?_⟩⟩);rw [wrapN (by omega)];exact k2 c
 ·refine Eq.mpr (rSm0 _ _ _ K t s _) ?_;rw [AAh9];exact Zda (by simp [e]) k1
theorem wrSm1 {Ev:Env prog} {b:Ev.β} {Q:Exit→St Ev.β→Prop} (t s:TabT) (he:t.gs.length=s.gs.length) (hl:t.gs.length<1000000) (h1:(t.gs.zip s.gs).any (fun p=> !smG p.1 p.2)=false→∀i:Int,Q (.exit 2) ⟨tmSm1 false i, [tabB t,tabB s],b⟩) (h2:(t.gs.zip s.gs).any (fun p=> !smG p.1 p.2)=true→∀i:Int,Q .ret ⟨tmSm1 false i, [tabB t,tabB s],b⟩):
 WR Ev lpSm1 (t.gs.length+1) ⟨tmSm1 false (0:Nat), [tabB t,tabB s],b⟩ Q:=by
 have e:(t.gs.zip s.gs).length=t.gs.length:=by rw [List.length_zip,←he,Nat.min_self]
 rw [←e];refine WR.scanL (X:=⟨[], [],wlW Ev,Ev.Y,false⟩) (k:=100) [2,3,4,6] mixed (CX.Ok.of Zak Zah) (t.gs.zip s.gs) (fun p=> !smG p.1 p.2) (fun i=>tmSm1 false (i:Nat)) (fun i=>tmSm1 false (i:Nat)) [tabB t,tabB s] 2 (fun i x hi hx K k1 k2=> ?_) (fun K k1=> ?_) (fun h=>h1 h _) fun h i=>h2 h _
 ·obtain ⟨g1,g2⟩:=BRu9 hx;refine Eq.mpr (rSm1 _ _ _ K t s i) ?_;rw [AAf9];refine Zaz (by simp;omega) (Zaz (natI i) ⟨_,_,_,_,_,ABj9 g1,Zaz (natI i) ⟨_,_,_,_,_,ABj9 g2,Zba (fun c=>k1 c) fun c=> ?_⟩⟩);rw [wrapN (by omega)];exact k2 c
 ·refine Eq.mpr (rSm1 _ _ _ K t s _) ?_;rw [AAf9];exact Zda (by simp [e]) k1
theorem wrSm2 {Ev:Env prog} {b:Ev.β} {Q:Exit→St Ev.β→Prop} (t s:TabT) (he:t.ak.length=s.ak.length) (hl:t.ak.length<1000000) (h1:(t.ak.zip s.ak).any (fun p=> !smA p.1 p.2)=false→∀i:Int,Q (.exit 4) ⟨tmSm2 false i, [tabB t,tabB s],b⟩) (h2:(t.ak.zip s.ak).any (fun p=> !smA p.1 p.2)=true→∀i:Int,Q .ret ⟨tmSm2 false i, [tabB t,tabB s],b⟩):
 WR Ev lpSm2 (t.ak.length+1) ⟨tmSm2 false (0:Nat), [tabB t,tabB s],b⟩ Q:=by
 have e:(t.ak.zip s.ak).length=t.ak.length:=by rw [List.length_zip,←he,Nat.min_self]
 rw [←e];refine WR.scanL (X:=⟨[], [],wlW Ev,Ev.Y,false⟩) (k:=100) [2,3,4,7] mixed (CX.Ok.of Zak Zah) (t.ak.zip s.ak) (fun p=> !smA p.1 p.2) (fun i=>tmSm2 false (i:Nat)) (fun i=>tmSm2 false (i:Nat)) [tabB t,tabB s] 4 (fun i x hi hx K k1 k2=> ?_) (fun K k1=> ?_) (fun h=>h1 h _) fun h i=>h2 h _
 ·obtain ⟨g1,g2⟩:=BRu9 hx;refine Eq.mpr (rSm2 _ _ _ K t s i) ?_;rw [AAn9];refine Zaz (by simp;omega) (Zaz (natI i) ⟨_,_,_,ABk9 g1,Zaz (natI i) ⟨_,_,_,ABk9 g2,Zba (fun c=>k1 c) fun c=> ?_⟩⟩);rw [wrapN (by omega)];exact k2 c
 ·refine Eq.mpr (rSm2 _ _ _ K t s _) ?_;rw [AAn9];exact Zda (by simp [e]) k1
def wlSm {β:Type}:WLT β:=fun cd tm hp b K=>match cidO cd with
 |5=>∃(t s:TabT) (q:Bool),cd= .loop lpSm0∧AAv9 [2,3,4,5] 0 tm=tmSm0 false 0∧hp= [tabB t,tabB s]∧(t.us.length=s.us.length∧t.us.length<1000000∧q=(t.us.zip s.us).any fun p=> !smU p.1 p.2)∧BIf q (∀i:Int,K .ret (tmSm0 false i) [tabB t,tabB s] b) (∀i:Int,K (.exit 0) (tmSm0 false i) [tabB t,tabB s] b)
 |10=>∃(t s:TabT) (q:Bool),cd= .loop lpSm1∧AAv9 [2,3,4,6] 0 tm=tmSm1 false 0∧hp= [tabB t,tabB s]∧(t.gs.length=s.gs.length∧t.gs.length<1000000∧q=(t.gs.zip s.gs).any fun p=> !smG p.1 p.2)∧BIf q (∀i:Int,K .ret (tmSm1 false i) [tabB t,tabB s] b) (∀i:Int,K (.exit 2) (tmSm1 false i) [tabB t,tabB s] b)
 |15=>∃(t s:TabT) (q:Bool),cd= .loop lpSm2∧AAv9 [2,3,4,7] 0 tm=tmSm2 false 0∧hp= [tabB t,tabB s]∧(t.ak.length=s.ak.length∧t.ak.length<1000000∧q=(t.ak.zip s.ak).any fun p=> !smA p.1 p.2)∧BIf q (∀i:Int,K .ret (tmSm2 false i) [tabB t,tabB s] b) (∀i:Int,K (.exit 4) (tmSm2 false i) [tabB t,tabB s] b)
 |_=>False
theorem BZt9 {Ev:Env prog} (c:Code) (tm:List AV) (hp:List Blk) (b:Ev.β) (K:Exit→List AV→List Blk→Ev.β→Prop) (h:wlSm c tm hp b K):W Ev c ⟨tm,hp,b⟩ (fun e s=>K e s.tm s.hp s.b):=by
 unfold wlSm at h;split at h
 ·obtain ⟨t,s,q,rfl,htm,rfl,⟨he,hl,hz⟩,hK⟩:=h;refine W.cast (htm▸AAb9 _ tm 0) (Zbp _) ?_;exact W.rounds (wrSm0 (Q:=fun e s=>K e s.tm s.hp s.b) t s he hl (fun h=>by rw [hz,h] at hK;exact hK) fun h=>by rw [hz,h] at hK;exact hK)
 ·obtain ⟨t,s,q,rfl,htm,rfl,⟨he,hl,hz⟩,hK⟩:=h;refine W.cast (htm▸AAb9 _ tm 0) (Zbp _) ?_;exact W.rounds (wrSm1 (Q:=fun e s=>K e s.tm s.hp s.b) t s he hl (fun h=>by rw [hz,h] at hK;exact hK) fun h=>by rw [hz,h] at hK;exact hK)
 ·obtain ⟨t,s,q,rfl,htm,rfl,⟨he,hl,hz⟩,hK⟩:=h;refine W.cast (htm▸AAb9 _ tm 0) (Zbp _) ?_;exact W.rounds (wrSm2 (Q:=fun e s=>K e s.tm s.hp s.b) t s he hl (fun h=>by rw [hz,h] at hK;exact hK) fun h=>by rw [hz,h] at hK;exact hK)
 ·exact h.elim
abbrev Qz67:=Zab::Zab::Zaf 0 0::Zaf 1 0::Zae (bo false)::Zab::Zab::Zae (i64 0)::bds 79 []
abbrev Qz73:=Zab::Zab::Zaf 0 0::Zaf 1 0::Zae (bo false)::Zab::Zae (i64 0)::bds 80 []
abbrev Qz77:=Zab::Zab::Zaf 0 0::Zaf 1 0::Zae (bo false)::Zae (i64 0)::bds 81 []
theorem CBb9 (t s:TabT):wpFn prog ⟨[], [],wlSm,y,false⟩ 100 f15 [tabA t,tabA s] b R=(BIf (((Zaa (rowsU (Zdl t)):Nat):Int) !=((Zaa (rowsU (Zdl s)):Nat):Int)) (R (.d (bo false)) b) (BIf (((Zaa (rowsG (Zdb t)):Nat):Int) !=((Zaa (rowsG (Zdb s)):Nat):Int)) (R (.d (bo false)) b) (BIf (((Zaa (rowsA (Zdh t)):Nat):Int) !=((Zaa (rowsA (Zdh s)):Nat):Int)) (R (.d (bo false)) b) (∃(t0:TabT) (s1:TabT) (q2:Bool),Zat lpSm0=Zat lpSm0∧Qz77=Qz77∧(Qz30 t s)=(Qz30 t0 s1)∧(Zaa (Zdl t0)=Zaa (Zdl s1)∧Zaa (Zdl t0)<1000000∧q2=Zcv (List.zip (Zdl t0) (Zdl s1)) fun (p3:UseT×UseT)=> !smU (Prod.fst p3) (Prod.snd p3))∧BIf q2 (∀(i:Int),R (.d (bo false)) b) (∀(i:Int),∃(t4:TabT) (s5:TabT) (q6:Bool),Zat lpSm1=Zat lpSm1∧Qz73=Qz73∧(Qz30 t0 s1)=(Qz30 t4 s5)∧(Zaa (Zdb t4)=Zaa (Zdb s5)∧Zaa (Zdb t4)<1000000∧q6=Zcv (List.zip (Zdb t4) (Zdb s5)) fun (p7:GraT×GraT)=> !smG (Prod.fst p7) (Prod.snd p7))∧BIf q6 (∀(i:Int),R (.d (bo false)) b) (∀(i:Int),∃(t8:TabT) (s9:TabT) (q10:Bool),Zat lpSm2=Zat lpSm2∧Qz67=Qz67∧(Qz30 t4 s5)=(Qz30 t8 s9)∧(Zaa (Zdh t8)=Zaa (Zdh s9)∧Zaa (Zdh t8)<1000000∧q10=Zcv (List.zip (Zdh t8) (Zdh s9)) fun (p11:AskT×AskT)=> !smA (Prod.fst p11) (Prod.snd p11))∧BIf q10 (∀(i:Int),R (.d (bo false)) b) (∀(i:Int),R (.d (bo true)) b))))))):=by kernel_rfl
def TabLq (t:TabT):Prop:=t.us.length<1000000∧t.gs.length<1000000∧t.ak.length<1000000
theorem AKk9 {α:Type} {f:α→α→Bool} {l m:List α} (h:l.length≠m.length):AGv9 f l m=false:=by rw [AIt9,decide_eq_false h];rfl
theorem AIu9 {α:Type} {f:α→α→Bool} {l m:List α} (h:l.length=m.length):AGv9 f l m= !(l.zip m).any fun p=> !f p.1 p.2:=by rw [AIt9,decide_eq_true h];rfl
theorem AOy9 {a b:Nat} (h:((a:Int) !=(b:Int))=true):a≠b:=by
 intro e;rw [e] at h;simp at h
theorem APn9 {a b:Nat} (h:((a:Int) !=(b:Int))=false):a=b:=by
 have h2:(a:Int)=(b:Int):=by simpa using h
 omega
theorem CGw9 (t s:TabT) (h:TabLq t):PCall prog 15 [tabA t,tabA s] (.d (bo (sameS t s))):=by
 refine PCall.ofFnW (n:=100) (u:=false) (fun _=>wlSm) mixed Zak Zah (fun Ev=>BZt9) func15 (by rfl) (by rfl) fun Ev bb=> ?_;rw [CBb9];rw [AAh9,AAh9,AAf9,AAf9,AAn9,AAn9];refine Zba (fun h1=> ?_) fun h1=> ?_
 ·rw [sameS,AKk9 (AOy9 h1)];rfl
 have e1:t.us.length=s.us.length:=APn9 h1;refine Zba (fun h2=> ?_) fun h2=> ?_
 ·rw [sameS,AKk9 (f:=smG) (AOy9 h2),Bool.false_and,Zcs]
 have e2:t.gs.length=s.gs.length:=APn9 h2;refine Zba (fun h3=> ?_) fun h3=> ?_
 ·rw [sameS,AKk9 (f:=smA) (AOy9 h3),Zcs,Zcs]
 have e3:t.ak.length=s.ak.length:=APn9 h3;rw [sameS,AIu9 e1,AIu9 e2,AIu9 e3];refine ⟨t,s,_,rfl,rfl,rfl,⟨e1,h.1,rfl⟩,Zba (fun h4 _=> ?_) fun h4 _=>⟨t,s,_,rfl,rfl,rfl,⟨e2,h.2.1,rfl⟩,Zba (fun h5 _=> ?_) fun h5 _=>⟨t,s,_,rfl,rfl,rfl,⟨e3,h.2.2,rfl⟩,Zba (fun h6 _=> ?_) fun h6 _=> ?_⟩⟩⟩
 ·rw [h4];rfl
 ·rw [h4,h5];rfl
 ·rw [h4,h5,h6];rfl
 ·rw [h4,h5,h6];rfl
def cSame (args:List AV) (K:AV→Prop):Prop:=∃(t s:TabT) (q:Bool),args= [tabA t,tabA s]∧(TabLq t∧q=sameS t s)∧K (.d (bo q))
theorem BXi9:∀args K,cSame args K→∃x,PCall prog 15 args x∧K x:=by
 rintro _ K ⟨t,s,_,rfl,⟨h,rfl⟩,hk⟩;exact ⟨_,CGw9 t s h,hk⟩
theorem CAs9 {x y:UseT}:smU x y=true↔x=y:=by cases x;cases y;simp [smU,and_assoc]
theorem CAt9 {x y:GraT}:smG x y=true↔x=y:=by cases x;cases y;simp [smG,and_assoc]
theorem CAu9 {x y:AskT}:smA x y=true↔x=y:=by cases x;cases y;simp [smA,and_assoc]
theorem AFc9 {α:Type} {f:α→α→Bool} (hf:∀x,f x x=true):∀l:List α,AGv9 f l l=true
 | []=>rfl
 |x::r=>by rw [AGv9,hf,AFc9 hf r];rfl
theorem ALk9 (t:TabT):sameS t t=true:=by
 rw [sameS,AFc9 (fun x=>CAs9.2 rfl),AFc9 (fun x=>CAt9.2 rfl),AFc9 (fun x=>CAu9.2 rfl)];rfl
noncomputable def lpVr0:Code:=sub [1,1,1,0,1,2,3] (code f20)
noncomputable def lpVr1:Code:=sub [1,1,1,1,0,1,2,3] (code f20)
noncomputable def lpVr2:Code:=sub [1,1,1,1,1,0,1,2,3] (code f20)
noncomputable def lpVr3:Code:=sub [1,1,1,1,1,1,0,1,2,3] (code f20)
def tmVr0 (n:Nat) (z:Bool) (i:Int):List AV:= [.bad, .bad, .ptr 0 0, .ptr 1 0, .d (bo z), .gref 2 0 n 1, .d (i64 i)]++Zap 190 .bad
def tmVr1 (n:Nat) (z:Bool) (i:Int):List AV:= [.bad, .bad, .ptr 0 0, .ptr 1 0, .d (bo z), .gref 2 0 n 1, .bad, .d (i64 i)]++Zap 189 .bad
def tmVr2 (n:Nat) (z:Bool) (i:Int):List AV:= [.bad, .bad, .ptr 0 0, .ptr 1 0, .d (bo z), .gref 2 0 n 1, .bad, .bad, .d (i64 i)]++Zap 188 .bad
def tmVr3 (n:Nat) (z:Bool) (i:Int):List AV:= [.bad, .bad, .ptr 0 0, .ptr 1 0, .d (bo z), .gref 2 0 n 1, .bad, .bad, .bad, .d (i64 i)]++Zap 187 .bad
abbrev Qz10 (v0:TabT) (v1:LayT) (v2:List AV):= [Blk.mk (Qz1 v0) false false 0,Blk.mk (Qz3 v1) false false 0,Blk.mk v2 false true 0]
theorem rVr0 (t:TabT) (ly:LayT) (n:Nat) (cs:List AV) (i:Int):wpc prog ⟨TV12, [],wl,y,false⟩ 100 lpVr0 (tmVr0 n false i) [tabB t,layB ly,growB 0 cs] b (maskK 3 [2,3,4,5,6] K)=(BIf (decide (i<((Zaa (rowsU (Zdl t)):Nat):Int))) (BIf (true&&decide (0≤i)) (∃(x0:Int) (x1:Int) (x2:Int) (x3:Int),(rowsU (Zdl t))[Zam i]? =some [i64 x0,i64 x1,i64 x2,i64 x3]∧∃(u6:UseT) (l7:LayT) (z8:Bool), [Zaq (Qz37 x0 x1 x2 x3),Zaq (Qz3 ly)]= [Zaq (Qz7 u6),Zaq (Qz3 l7)]∧z8=useOk u6 l7∧BIf (!z8) (BIf (Zbk (Qz10 t ly cs) fun (blk9:Blk)=>lows 3 blk9.1) (K .ret (Zab::Zab::Zaf 0 0::Zaf 1 0::Zae (bo false)::Zbl 2 0 n 1::Zae (i64 i)::bds 190 []) (Qz10 t ly cs) b) False) (BIf (decide (i>(0:Int))) (BIf (true&&decide ((0:Int)≤Zad .i64 (i - 1))) (∃(x10:Int) (x11:Int) (x12:Int) (x13:Int),(rowsU (Zdl t))[Zam (Zad .i64 (i - 1))]? =some [i64 x10,i64 x11,i64 x12,i64 x13]∧BIf (true&&decide (0≤i)) (∃(x16:Int) (x17:Int) (x18:Int) (x19:Int),(rowsU (Zdl t))[Zam i]? =some [i64 x16,i64 x17,i64 x18,i64 x19]∧BIf (decide (x10≥x16)) (BIf (Zbk (Qz10 t ly cs) fun (blk22:Blk)=>lows 3 blk22.1) (K .ret (Zab::Zab::Zaf 0 0::Zaf 1 0::Zae (bo false)::Zbl 2 0 n 1::Zae (i64 i)::bds 190 []) (Qz10 t ly cs) b) False) (BIf (true&&decide (0≤i)) (∃(x23:Int) (x24:Int) (x25:Int) (x26:Int),(rowsU (Zdl t))[Zam i]? =some [i64 x23,i64 x24,i64 x25,i64 x26]∧0=0∧BIf (decide (0≤x23)&&decide (x23<(n:Int))) (0=0∧∃(x29:Int),Zbo 1 (Zca (Zam x23*1) cs)= [Zae (i64 x29)]∧0=0∧BIf (decide (0≤x23)&&decide (x23<(n:Int))) (0=0∧BIf (decide (Zam x23*1+1≤Zaa cs)) (BIf (Zbk [Blk.mk (Qz1 t) false false 0,Blk.mk (Qz3 ly) false false 0,Blk.mk (Zbo (Zam x23*1) cs++ [Zae (i64 (Zad .i64 (x29+1)))]++Zca (Zam x23*1+1) cs) false true 0] fun (blk30:Blk)=>lows 3 blk30.1) (K .normal (Zab::Zab::Zaf 0 0::Zaf 1 0::Zae (bo false)::Zbl 2 0 n 1::Zae (i64 (Zad .i64 (i+1)))::bds 190 []) [Blk.mk (Qz1 t) false false 0,Blk.mk (Qz3 ly) false false 0,Blk.mk (Zbo (Zam x23*1) cs++ [Zae (i64 (Zad .i64 (x29+1)))]++Zca (Zam x23*1+1) cs) false true 0] b) False) False) False) False) False)) False) False) (BIf (true&&decide (0≤i)) (∃(x31:Int) (x32:Int) (x33:Int) (x34:Int),(rowsU (Zdl t))[Zam i]? =some [i64 x31,i64 x32,i64 x33,i64 x34]∧0=0∧BIf (decide (0≤x31)&&decide (x31<(n:Int))) (0=0∧∃(x37:Int),Zbo 1 (Zca (Zam x31*1) cs)= [Zae (i64 x37)]∧0=0∧BIf (decide (0≤x31)&&decide (x31<(n:Int))) (0=0∧BIf (decide (Zam x31*1+1≤Zaa cs)) (BIf (Zbk [Blk.mk (Qz1 t) false false 0,Blk.mk (Qz3 ly) false false 0,Blk.mk (Zbo (Zam x31*1) cs++ [Zae (i64 (Zad .i64 (x37+1)))]++Zca (Zam x31*1+1) cs) false true 0] fun (blk38:Blk)=>lows 3 blk38.1) (K .normal (Zab::Zab::Zaf 0 0::Zaf 1 0::Zae (bo false)::Zbl 2 0 n 1::Zae (i64 (Zad .i64 (i+1)))::bds 190 []) [Blk.mk (Qz1 t) false false 0,Blk.mk (Qz3 ly) false false 0,Blk.mk (Zbo (Zam x31*1) cs++ [Zae (i64 (Zad .i64 (x37+1)))]++Zca (Zam x31*1+1) cs) false true 0] b) False) False) False) False) False))) False) (BIf (Zbk (Qz10 t ly cs) fun (blk39:Blk)=>lows 3 blk39.1) (K (Zbj 0) (Zab::Zab::Zaf 0 0::Zaf 1 0::Zae (bo false)::Zbl 2 0 n 1::Zae (i64 i)::bds 190 []) (Qz10 t ly cs) b) False)):=by kernel_rfl
theorem rVr1 (t:TabT) (ly:LayT) (n:Nat) (cs:List AV) (i:Int):wpc prog ⟨TV12, [],wl,y,false⟩ 100 lpVr1 (tmVr1 n false i) [tabB t,layB ly,growB 0 cs] b (maskK 3 [2,3,4,5,7] K)=(BIf (decide (i<((Zaa (rowsG (Zdb t)):Nat):Int))) (BIf (true&&decide (0≤i)) (∃(x0:Int) (x1:Int) (x2:Int) (x3:Int) (x4:Int),(rowsG (Zdb t))[Zam i]? =some (Qz41 x0 x1 x2 x3 x4)∧∃(u7:GraT) (l8:LayT) (z9:Bool), [Zaq (Qz22 x0 x1 x2 x3 x4),Zaq (Qz3 ly)]= [Zaq (Qz5 u7),Zaq (Qz3 l8)]∧z9=graOk u7 l8∧BIf (!z9) (BIf (Zbk (Qz10 t ly cs) fun (blk10:Blk)=>lows 3 blk10.1) (K .ret (Zab::Zab::Zaf 0 0::Zaf 1 0::Zae (bo false)::Zbl 2 0 n 1::Zab::Zae (i64 i)::bds 189 []) (Qz10 t ly cs) b) False) (BIf (decide (i>(0:Int))) (BIf (true&&decide ((0:Int)≤Zad .i64 (i - 1))) (∃(x11:Int) (x12:Int) (x13:Int) (x14:Int) (x15:Int),(rowsG (Zdb t))[Zam (Zad .i64 (i - 1))]? =some (Qz41 x11 x12 x13 x14 x15)∧BIf (true&&decide (0≤i)) (∃(x18:Int) (x19:Int) (x20:Int) (x21:Int) (x22:Int),(rowsG (Zdb t))[Zam i]? =some (Qz41 x18 x19 x20 x21 x22)∧BIf (decide (x11≥x18)) (BIf (Zbk (Qz10 t ly cs) fun (blk25:Blk)=>lows 3 blk25.1) (K .ret (Zab::Zab::Zaf 0 0::Zaf 1 0::Zae (bo false)::Zbl 2 0 n 1::Zab::Zae (i64 i)::bds 189 []) (Qz10 t ly cs) b) False) (BIf (true&&decide (0≤i)) (∃(x26:Int) (x27:Int) (x28:Int) (x29:Int) (x30:Int),(rowsG (Zdb t))[Zam i]? =some (Qz41 x26 x27 x28 x29 x30)∧0=0∧BIf (decide (0≤x26)&&decide (x26<(n:Int))) (0=0∧∃(x33:Int),Zbo 1 (Zca (Zam x26*1) cs)= [Zae (i64 x33)]∧0=0∧BIf (decide (0≤x26)&&decide (x26<(n:Int))) (0=0∧BIf (decide (Zam x26*1+1≤Zaa cs)) (BIf (Zbk [Blk.mk (Qz1 t) false false 0,Blk.mk (Qz3 ly) false false 0,Blk.mk (Zbo (Zam x26*1) cs++ [Zae (i64 (Zad .i64 (x33+1)))]++Zca (Zam x26*1+1) cs) false true 0] fun (blk34:Blk)=>lows 3 blk34.1) (K .normal (Zab::Zab::Zaf 0 0::Zaf 1 0::Zae (bo false)::Zbl 2 0 n 1::Zab::Zae (i64 (Zad .i64 (i+1)))::bds 189 []) [Blk.mk (Qz1 t) false false 0,Blk.mk (Qz3 ly) false false 0,Blk.mk (Zbo (Zam x26*1) cs++ [Zae (i64 (Zad .i64 (x33+1)))]++Zca (Zam x26*1+1) cs) false true 0] b) False) False) False) False) False)) False) False) (BIf (true&&decide (0≤i)) (∃(x35:Int) (x36:Int) (x37:Int) (x38:Int) (x39:Int),(rowsG (Zdb t))[Zam i]? =some (Qz41 x35 x36 x37 x38 x39)∧0=0∧BIf (decide (0≤x35)&&decide (x35<(n:Int))) (0=0∧∃(x42:Int),Zbo 1 (Zca (Zam x35*1) cs)= [Zae (i64 x42)]∧0=0∧BIf (decide (0≤x35)&&decide (x35<(n:Int))) (0=0∧BIf (decide (Zam x35*1+1≤Zaa cs)) (BIf (Zbk [Blk.mk (Qz1 t) false false 0,Blk.mk (Qz3 ly) false false 0,Blk.mk (Zbo (Zam x35*1) cs++ [Zae (i64 (Zad .i64 (x42+1)))]++Zca (Zam x35*1+1) cs) false true 0] fun (blk43:Blk)=>lows 3 blk43.1) (K .normal (Zab::Zab::Zaf 0 0::Zaf 1 0::Zae (bo false)::Zbl 2 0 n 1::Zab::Zae (i64 (Zad .i64 (i+1)))::bds 189 []) [Blk.mk (Qz1 t) false false 0,Blk.mk (Qz3 ly) false false 0,Blk.mk (Zbo (Zam x35*1) cs++ [Zae (i64 (Zad .i64 (x42+1)))]++Zca (Zam x35*1+1) cs) false true 0] b) False) False) False) False) False))) False) (BIf (Zbk (Qz10 t ly cs) fun (blk44:Blk)=>lows 3 blk44.1) (K (Zbj 2) (Zab::Zab::Zaf 0 0::Zaf 1 0::Zae (bo false)::Zbl 2 0 n 1::Zab::Zae (i64 i)::bds 189 []) (Qz10 t ly cs) b) False)):=by kernel_rfl
theorem rVr2 (t:TabT) (ly:LayT) (n:Nat) (cs:List AV) (i:Int):wpc prog ⟨TV12, [],wl,y,false⟩ 100 lpVr2 (tmVr2 n false i) [tabB t,layB ly,growB 0 cs] b (maskK 3 [2,3,4,5,8] K)=(BIf (decide (i<((Zaa (rowsA (Zdh t)):Nat):Int))) (BIf (true&&decide (0≤i)) (∃(x0:Int) (x1:Int) (x2:Int),(rowsA (Zdh t))[Zam i]? =some [i64 x0,i64 x1,i64 x2]∧BIf (true&&decide (0≤i)) (∃(x5:Int) (x6:Int) (x7:Int),(rowsA (Zdh t))[Zam i]? =some [i64 x5,i64 x6,i64 x7]∧∃(sl10:Int) (of11:Int) (pe12:Int) (l13:LayT) (z14:Bool),(Qz39 x0 x1 x7 ly)=(Qz39 sl10 of11 pe12 l13)∧z14=ABe9 sl10 of11 pe12 l13∧BIf (!z14) (BIf (Zbk (Qz10 t ly cs) fun (blk15:Blk)=>lows 3 blk15.1) (K .ret (Zab::Zab::Zaf 0 0::Zaf 1 0::Zae (bo false)::Zbl 2 0 n 1::Zab::Zab::Zae (i64 i)::bds 188 []) (Qz10 t ly cs) b) False) (BIf (decide (i>(0:Int))) (BIf (true&&decide ((0:Int)≤Zad .i64 (i - 1))) (∃(x16:Int) (x17:Int) (x18:Int),(rowsA (Zdh t))[Zam (Zad .i64 (i - 1))]? =some [i64 x16,i64 x17,i64 x18]∧BIf (true&&decide (0≤i)) (∃(x21:Int) (x22:Int) (x23:Int),(rowsA (Zdh t))[Zam i]? =some [i64 x21,i64 x22,i64 x23]∧BIf (decide (x16≥x21)) (BIf (Zbk (Qz10 t ly cs) fun (blk26:Blk)=>lows 3 blk26.1) (K .ret (Zab::Zab::Zaf 0 0::Zaf 1 0::Zae (bo false)::Zbl 2 0 n 1::Zab::Zab::Zae (i64 i)::bds 188 []) (Qz10 t ly cs) b) False) (BIf (true&&decide (0≤i)) (∃(x27:Int) (x28:Int) (x29:Int),(rowsA (Zdh t))[Zam i]? =some [i64 x27,i64 x28,i64 x29]∧0=0∧BIf (decide (0≤x27)&&decide (x27<(n:Int))) (0=0∧∃(x32:Int),Zbo 1 (Zca (Zam x27*1) cs)= [Zae (i64 x32)]∧0=0∧BIf (decide (0≤x27)&&decide (x27<(n:Int))) (0=0∧BIf (decide (Zam x27*1+1≤Zaa cs)) (BIf (Zbk [Blk.mk (Qz1 t) false false 0,Blk.mk (Qz3 ly) false false 0,Blk.mk (Zbo (Zam x27*1) cs++ [Zae (i64 (Zad .i64 (x32+1)))]++Zca (Zam x27*1+1) cs) false true 0] fun (blk33:Blk)=>lows 3 blk33.1) (K .normal (Zab::Zab::Zaf 0 0::Zaf 1 0::Zae (bo false)::Zbl 2 0 n 1::Zab::Zab::Zae (i64 (Zad .i64 (i+1)))::bds 188 []) [Blk.mk (Qz1 t) false false 0,Blk.mk (Qz3 ly) false false 0,Blk.mk (Zbo (Zam x27*1) cs++ [Zae (i64 (Zad .i64 (x32+1)))]++Zca (Zam x27*1+1) cs) false true 0] b) False) False) False) False) False)) False) False) (BIf (true&&decide (0≤i)) (∃(x34:Int) (x35:Int) (x36:Int),(rowsA (Zdh t))[Zam i]? =some [i64 x34,i64 x35,i64 x36]∧0=0∧BIf (decide (0≤x34)&&decide (x34<(n:Int))) (0=0∧∃(x39:Int),Zbo 1 (Zca (Zam x34*1) cs)= [Zae (i64 x39)]∧0=0∧BIf (decide (0≤x34)&&decide (x34<(n:Int))) (0=0∧BIf (decide (Zam x34*1+1≤Zaa cs)) (BIf (Zbk [Blk.mk (Qz1 t) false false 0,Blk.mk (Qz3 ly) false false 0,Blk.mk (Zbo (Zam x34*1) cs++ [Zae (i64 (Zad .i64 (x39+1)))]++Zca (Zam x34*1+1) cs) false true 0] fun (blk40:Blk)=>lows 3 blk40.1) (K .normal (Zab::Zab::Zaf 0 0::Zaf 1 0::Zae (bo false)::Zbl 2 0 n 1::Zab::Zab::Zae (i64 (Zad .i64 (i+1)))::bds 188 []) [Blk.mk (Qz1 t) false false 0,Blk.mk (Qz3 ly) false false 0,Blk.mk (Zbo (Zam x34*1) cs++ [Zae (i64 (Zad .i64 (x39+1)))]++Zca (Zam x34*1+1) cs) false true 0] b) False) False) False) False) False))) False) False) (BIf (Zbk (Qz10 t ly cs) fun (blk41:Blk)=>lows 3 blk41.1) (K (Zbj 4) (Zab::Zab::Zaf 0 0::Zaf 1 0::Zae (bo false)::Zbl 2 0 n 1::Zab::Zab::Zae (i64 i)::bds 188 []) (Qz10 t ly cs) b) False)):=by kernel_rfl
theorem rVr3 (t:TabT) (ly:LayT) (n:Nat) (cs:List AV) (i:Int):wpc prog ⟨TV12, [],wl,y,false⟩ 100 lpVr3 (tmVr3 n false i) [tabB t,layB ly,growB 0 cs] b (maskK 3 [2,3,4,5,9] K)=(0=0∧BIf (decide (i<(n:Int))) (0=0∧BIf (decide (0≤i)&&decide (i<(n:Int))) (0=0∧∃(x0:Int),Zbo 1 (Zca (Zam i*1) cs)= [Zae (i64 x0)]∧BIf (decide (x0>(1:Int))) (BIf (Zbk (Qz10 t ly cs) fun (blk1:Blk)=>lows 3 blk1.1) (K .ret (Zab::Zab::Zaf 0 0::Zaf 1 0::Zae (bo false)::Zbl 2 0 n 1::bds 3 (Zae (i64 i)::bds 187 [])) (Qz10 t ly cs) b) False) (BIf (Zbk (Qz10 t ly cs) fun (blk2:Blk)=>lows 3 blk2.1) (K .normal (Zab::Zab::Zaf 0 0::Zaf 1 0::Zae (bo false)::Zbl 2 0 n 1::bds 3 (Zae (i64 (Zad .i64 (i+1)))::bds 187 [])) (Qz10 t ly cs) b) False)) False) (BIf (Zbk (Qz10 t ly cs) fun (blk3:Blk)=>lows 3 blk3.1) (K (Zbj 6) (Zab::Zab::Zaf 0 0::Zaf 1 0::Zae (bo false)::Zbl 2 0 n 1::bds 3 (Zae (i64 i)::bds 187 [])) (Qz10 t ly cs) b) False)):=by kernel_rfl
def cntS (l:List Int) (s:Int):Int:=((l.filter fun x=>x==s).length:Nat)
def cntC (l:List Int) (n:Nat):List AV:=(List.range n).map fun s:Nat=>Zae (i64 (cntS l (s:Int)))
theorem AFs9 (l:List Int) (n:Nat):(cntC l n).length=n:=by simp [cntC]
theorem AMj9 {l:List Int} {n:Nat} {x:Int} (h:0≤x∧x<(n:Int)):Zbo 1 (Zca (x.toNat*1) (cntC l n))= [Zae (i64 (cntS l x))]:=by
 obtain ⟨k,rfl⟩:=Int.eq_ofNat_of_zero_le h.1;have hk:k<(cntC l n).length:=by rw [AFs9];omega
 rw [Zcf,Nat.mul_one,List.drop_eq_getElem_cons hk];simp [cntC]
theorem AUq9 (l:List Int) (x s:Int):cntS (l++ [x]) s=if x=s then cntS l s+1 else cntS l s:=by
 unfold cntS;rw [List.filter_append,Zcm];by_cases h:x=s
 ·simp [h]
 ·simp [h]
theorem BQa9 (l:List Int) (s:Int):0≤cntS l s∧cntS l s≤l.length:=by
 unfold cntS;have:=Zfz (fun x=>x==s) l;omega
theorem ADm9 {l:List Int} {n:Nat} {x:Int} (h:0≤x∧x<(n:Int)) (hl:l.length<1000000):
 Zbo (x.toNat*1) (cntC l n)++ [Zae (i64 (Zad Zbc (cntS l x+1)))]++Zca (x.toNat*1+1) (cntC l n)=cntC (l++ [x]) n:=by
 obtain ⟨k,rfl⟩:=Int.eq_ofNat_of_zero_le h.1;have hk:k<(cntC l n).length:=by rw [AFs9];omega
 have hc:=BQa9 l (k:Int);rw [AAx9 (by omega) (by omega),Zcf,Nat.mul_one,Zbq,List.singleton_append];have hset:Zbo k (cntC l n)++Zae (i64 (cntS l (k:Int)+1))::Zca (k+1) (cntC l n)=(cntC l n).set k (Zae (i64 (cntS l (k:Int)+1))):=by rw [List.set_eq_take_append_cons_drop,if_pos hk]
 rw [hset];apply List.ext_getElem
 ·simp [cntC]
 ·intro j h1 h2;simp only [List.length_set,AFs9] at h1;by_cases hj:k=j
  ·subst hj;rw [List.getElem_set_self];simp only [cntC,List.getElem_map,List.getElem_range,AUq9,if_pos]
  ·rw [List.getElem_set_ne hj];simp only [cntC,List.getElem_map,List.getElem_range,AUq9];rw [if_neg (by omega)]
theorem BWw9 (l:List Int) (n:Nat) (k:Nat):lows k (cntC l n)=true:=ANr9 fun i c h=>by
 simp only [cntC,Zbh,Option.map_eq_some_iff] at h;obtain ⟨_,_,rfl⟩:=h;rfl
theorem BWv9 (n:Nat):flatA (Zap n [i64 0])=cntC [] n:=by
 have e:∀(m s:Nat),(List.range' s m).map (fun s:Nat=>Zae (i64 (cntS [] (s:Int))))=flatA (Zap m [i64 0]):=by
  intro m;induction m with
  |zero=>intro s;rfl
  |succ m ih=>intro s;rw [List.range'_succ,Zdn,ih];rfl
 rw [cntC,List.range_eq_range',e]
theorem AFv9 (t:TabT) (ly:LayT) (l:List Int) (n:Nat):Zbk [tabB t,layB ly,growB 0 (cntC l n)] (fun blk=>lows 3 blk.1)=true:=by
 simp only [List.all_cons,List.all_nil,Bool.and_true,Zai];exact ⟨rfl,rfl,BWw9 l n 3⟩
theorem WR.scanG2 {α:Type} {P:Program} {Ev:Env P} {X:CX Ev.β} {lp:Code} {b:Ev.β} {Q:Exit→St Ev.β→Prop} {k L:Nat} (keep:List Nat) (hm:P.follows .mixedOrders=true) (hX:X.Ok) (xs:List α) (p:α→Bool) (tmOf:Nat→List AV) (hpOf:Nat→List Blk) (hL:∀i,(hpOf i).length=L) (id:Nat)
 (hr:∀(i:Nat) (x:α),i<xs.length→xs[i]? =some x→(xs.take i).any p=false→∀K:Exit→List AV→List Blk→Ev.β→Prop,(p x=true→K .ret (tmOf i) (hpOf i) b)→(p x=false→K .normal (tmOf (i+1)) (hpOf (i+1)) b)→wpc P X k lp (tmOf i) (hpOf i) b (maskK L keep K))
 (he:∀K:Exit→List AV→List Blk→Ev.β→Prop,K (.exit id) (tmOf xs.length) (hpOf xs.length) b→wpc P X k lp (tmOf xs.length) (hpOf xs.length) b (maskK L keep K))
 (h1:xs.any p=false→Q (.exit id) ⟨tmOf xs.length,hpOf xs.length,b⟩) (h2:xs.any p=true→∀i,Q .ret ⟨tmOf i,hpOf i,b⟩):
 ∀(m i:Nat),i+m=xs.length→(xs.take i).any p=false→WR Ev lp (m+1) ⟨tmOf i,hpOf i,b⟩ Q
 | 0,i,hi,hj=>by
  have e:i=xs.length:=by omega
  subst e;rw [Zdd] at hj;refine Zdj keep hm hX (k:=k) (by rw [hL];exact he _ (h1 hj))
 | m+1,i,hi,hj=>by
  have hlt:i<xs.length:=by omega
  have hx:xs[i]? =some xs[i]:=Zbb hlt;refine Zdj keep hm hX (k:=k) (by
   rw [hL];refine hr i xs[i] hlt hx hj _ (fun hp=>h2 (List.any_eq_true.2 ⟨xs[i],List.getElem_mem hlt,hp⟩) i) fun hp=> ?_;refine WR.scanG2 keep hm hX xs p tmOf hpOf hL id hr he h1 h2 m (i+1) (by omega) ?_;rw [List.take_succ_eq_append_getElem hlt,List.any_append,hj,List.any_cons,hp];rfl)
theorem AEg9 {α:Type}:∀(l:List α) (o:Option α) (i:Nat),(AAe9 o l).take i=AAe9 o (l.take i)
 | [],o,i=>by simp [AAe9]
 |x::r,o,0=>by simp [AAe9]
 |x::r,o,i+1=>by rw [AAe9,List.take_succ_cons,List.take_succ_cons,AAe9,AEg9 r (some x) i]
theorem AFy9 {α:Type} {ok:α→Bool} {sl:α→Int} {bad:Option α×α→Bool} (hb:∀p,bad p=(!ok p.2||(match p.1 with|some w=>decide (sl w≥sl p.2)|none=>false))):∀(l:List α) (o:Option α),
 (AAe9 o l).any bad=false↔(∀x∈l,ok x=true)∧(∀w,o=some w→∀x∈l,sl w<sl x)∧l.Pairwise (fun a b=>sl a<sl b)
 | [],o=>by simp [AAe9]
 | x::r,o=>by
  rw [AAe9,List.any_cons,Zeo,AFy9 hb r (some x),hb];constructor
  ·rintro ⟨h1,h2,h3,h4⟩;rw [Zeo] at h1;refine ⟨fun y hy=> ?_,fun w hw y hy=> ?_,Zds.2 ⟨h3 x rfl,h4⟩⟩
   ·rcases Zbw.1 hy with rfl|hy
    ·simpa using h1.1
    ·exact h2 y hy
   ·subst hw;have h5:¬sl w≥sl x:=of_decide_eq_false h1.2;rcases Zbw.1 hy with rfl|hy
    ·omega
    ·have:=h3 x rfl y hy;omega
  ·rintro ⟨h1,h2,h3⟩;obtain ⟨h4,h5⟩:=Zds.1 h3;refine ⟨?_,fun y hy=>h1 y (Zbx _ hy),fun w hw=> ?_,h5⟩
   ·rw [h1 x (Zbv)];cases o with
    |none=>rfl
    | some w=>
     have:=h2 w rfl x (Zbv);exact decide_eq_false (show ¬sl w≥sl x by omega)
   ·cases hw;exact h4
theorem AIp9 {α:Type} {sl:α→Int} {da:Int} (hd:da≤60):∀ {l:List α} (c:Int),0≤c→l.Pairwise (fun a b=>sl a<sl b)→(∀x∈l,c≤sl x∧sl x<da)→(l.length:Int)≤60 - c∨l= []
 | [],c,_,_,_=> .inr rfl
 | x::r,c,hc,hp,hin=>by
  obtain ⟨h1,h2⟩:=Zds.1 hp;have hx:=hin x (Zbv);left;rcases AIp9 hd (sl x+1) (by omega) h2 (fun y hy=>⟨by have:=h1 y hy;omega,(hin y (Zbx _ hy)).2⟩) with h3|h3
  ·simp only [List.length_cons];omega
  ·subst h3;simp only [List.length_cons,Zfg];omega
theorem AOt9 {sl of pe:Int} {ly:LayT} (h:ABe9 sl of pe ly=true):0≤sl∧sl<ly.da:=by
 simp only [ABe9,Zai,decide_eq_true_eq] at h;omega
theorem BCr9 {x:UseT} {ly:LayT} (h:useOk x ly=true):0≤x.sl∧x.sl<ly.da:=by
 simp only [useOk,Zai] at h;exact AOt9 h.1
theorem BFh9 {x:GraT} {ly:LayT} (h:graOk x ly=true):0≤x.sl∧x.sl<ly.da:=by
 simp only [graOk,Zai] at h;exact AOt9 h.1
theorem BIu9 {x:AskT} {ly:LayT} (h:askOk x ly=true):0≤x.sl∧x.sl<ly.da:=AOt9 h
def badUr (ly:LayT) (p:Option UseT×UseT):Bool:= !useOk p.2 ly||(match p.1 with|some w=>decide (w.sl≥p.2.sl)|none=>false)
theorem wrVr0 {Ev:Env prog} {b:Ev.β} {Q:Exit→St Ev.β→Prop} (t:TabT) (ly:LayT) (pre:List Int) (hpre:pre.length≤1000) (hl:t.us.length≤9223372036854775807) (hd:1≤ly.da∧ly.da≤60)
 (h1:(AAe9 none t.us).any (badUr ly)=false→∀i:Int,Q (.exit 0) ⟨tmVr0 ly.da.toNat false i, [tabB t,layB ly,growB 0 (cntC (pre++t.us.map (·.sl)) ly.da.toNat)],b⟩)
 (h2:(AAe9 none t.us).any (badUr ly)=true→∀(i:Int) (cs:List AV),Q .ret ⟨tmVr0 ly.da.toNat false i, [tabB t,layB ly,growB 0 cs],b⟩):
 WR Ev lpVr0 (t.us.length+1) ⟨tmVr0 ly.da.toNat false (0:Nat), [tabB t,layB ly,growB 0 (cntC pre ly.da.toNat)],b⟩ Q:=by
 have e:=ADw9 t.us none;have hfin:cntC (pre++(t.us.map (·.sl)).take (AAe9 none t.us).length) ly.da.toNat=cntC (pre++t.us.map (·.sl)) ly.da.toNat:=by rw [List.take_of_length_le (by simp [e])]
 have h0:cntC pre ly.da.toNat=cntC (pre++(t.us.map (·.sl)).take 0) ly.da.toNat:=by rw [List.take_zero,Zdu]
 rw [←e,h0];refine WR.scanG2 (X:=⟨TV12, [],wlW Ev,Ev.Y,false⟩) (k:=100) (L:=3) [2,3,4,5,6] mixed (CX.Ok.of AGz9 Zah) (AAe9 none t.us) (badUr ly) (fun i=>tmVr0 ly.da.toNat false (i:Nat)) (fun i=> [tabB t,layB ly,growB 0 (cntC (pre++(t.us.map (·.sl)).take i) ly.da.toNat)]) (fun _=>rfl) 0 (fun i x hi hx hpf K k1 k2=> ?_) (fun K k1=> ?_) (fun h=>by have h3:=h1 h ((AAe9 none t.us).length:Nat);rw [←hfin] at h3;exact h3) (fun h i=>h2 h _ _) _ 0 (by simp) rfl
 ·obtain ⟨g1,g2,g3⟩:=AEr9 t.us none i x hx;obtain ⟨o,x⟩:=x;simp only at g1 g2 g3;have hit:i<t.us.length:=by omega
  have hi60:i≤60:=by
   rw [AEg9] at hpf;have hc:=(AFy9 (ok:=fun x:UseT=>useOk x ly) (sl:=fun x=>x.sl) (bad:=badUr ly) (fun p=>by obtain ⟨o,x⟩:=p;cases o<;>rfl) _ _).1 hpf;have h5:=AIp9 (sl:=fun x:UseT=>x.sl) (da:=ly.da) hd.2 0 (by omega) hc.2.2 (fun x hx=>by have:=BCr9 (hc.1 x hx);omega);have h6:(t.us.take i).length=i:=by rw [Zcd];omega
   rcases h5 with h5|h5
   ·omega
   ·rw [h5] at h6;simp at h6;omega
  have hpl:(pre++(t.us.map (·.sl)).take i).length<1000000:=by rw [Zcm,Zcd,List.length_map];omega
  refine Eq.mpr (rVr0 _ _ _ K t ly ly.da.toNat _ i) ?_;rw [AAh9];refine Zaz (by simp;omega) (Zaz (natI i) ⟨_,_,_,_,ACb9 g1,x,ly,_,rfl,rfl,Zba (fun c1=>Zaz (AFv9 t ly _ _) (k1 (by rw [badUr,c1];rfl))) fun c1=> ?_⟩);have c1':useOk x ly=true:=by simpa [useOk] using c1
  have hx2:0≤x.sl∧x.sl<(ly.da.toNat:Int):=by have:=BCr9 c1';omega
  have hin:(decide (0≤x.sl)&&decide (x.sl<(ly.da.toNat:Int)))=true:=by simp only [Zai,decide_eq_true_eq];exact hx2
  have hnx:pre++(t.us.map (·.sl)).take i++ [x.sl]=pre++(t.us.map (·.sl)).take (i+1):=by
   rw [Zbq,Zfm,Zbh,g1];rfl
  cases i with
  | zero=>
   refine Zda (by decide) (Zaz (natI 0) ⟨_,_,_,_,ACb9 g1,rfl,Zaz hin ⟨rfl,_,AMj9 hx2,rfl,Zaz hin ⟨rfl,Zaz (by rw [AFs9];exact decide_eq_true (by omega)) (Zaz (by rw [ADm9 hx2 hpl];exact AFv9 t ly _ _) ?_)⟩⟩⟩);rw [ADm9 hx2 hpl,hnx,wrapN (by omega)];exact k2 (by rw [badUr,g2 rfl,c1'];rfl)
  | succ j=>
   obtain ⟨w,hw,hj⟩:=g3 j rfl;subst hw;refine Zaz (by simp) ?_;rw [show Zad Zbc (((j+1:Nat):Int) - 1)=((j:Nat):Int) by rw [AAx9 (by omega) (by omega)];omega];refine Zaz (natI j) ⟨_,_,_,_,ACb9 hj,Zaz (natI (j+1)) ⟨_,_,_,_,ACb9 g1,Zba (fun c2=>Zaz (AFv9 t ly _ _) (k1 (by rw [badUr,c1'];exact c2))) fun c2=>(Zaz (natI (j+1)) ⟨_,_,_,_,ACb9 g1,rfl,Zaz hin ⟨rfl,_,AMj9 hx2,rfl,Zaz hin ⟨rfl,Zaz (by rw [AFs9];exact decide_eq_true (by omega)) (Zaz (by rw [ADm9 hx2 hpl];exact AFv9 t ly _ _) ?_)⟩⟩⟩)⟩⟩;rw [ADm9 hx2 hpl,hnx,wrapN (by omega)];exact k2 (by rw [badUr,c1'];exact c2)
 ·refine Eq.mpr (rVr0 _ _ _ K t ly ly.da.toNat _ _) ?_;rw [AAh9];exact Zda (by simp [e]) (Zaz (AFv9 t ly _ _) k1)
def badGr (ly:LayT) (p:Option GraT×GraT):Bool:= !graOk p.2 ly||(match p.1 with|some w=>decide (w.sl≥p.2.sl)|none=>false)
theorem wrVr1 {Ev:Env prog} {b:Ev.β} {Q:Exit→St Ev.β→Prop} (t:TabT) (ly:LayT) (pre:List Int) (hpre:pre.length≤1000) (hl:t.gs.length≤9223372036854775807) (hd:1≤ly.da∧ly.da≤60)
 (h1:(AAe9 none t.gs).any (badGr ly)=false→∀i:Int,Q (.exit 2) ⟨tmVr1 ly.da.toNat false i, [tabB t,layB ly,growB 0 (cntC (pre++t.gs.map (·.sl)) ly.da.toNat)],b⟩)
 (h2:(AAe9 none t.gs).any (badGr ly)=true→∀(i:Int) (cs:List AV),Q .ret ⟨tmVr1 ly.da.toNat false i, [tabB t,layB ly,growB 0 cs],b⟩):
 WR Ev lpVr1 (t.gs.length+1) ⟨tmVr1 ly.da.toNat false (0:Nat), [tabB t,layB ly,growB 0 (cntC pre ly.da.toNat)],b⟩ Q:=by
 have e:=ADw9 t.gs none;have hfin:cntC (pre++(t.gs.map (·.sl)).take (AAe9 none t.gs).length) ly.da.toNat=cntC (pre++t.gs.map (·.sl)) ly.da.toNat:=by rw [List.take_of_length_le (by simp [e])]
 have h0:cntC pre ly.da.toNat=cntC (pre++(t.gs.map (·.sl)).take 0) ly.da.toNat:=by rw [List.take_zero,Zdu]
 rw [←e,h0];refine WR.scanG2 (X:=⟨TV12, [],wlW Ev,Ev.Y,false⟩) (k:=100) (L:=3) [2,3,4,5,7] mixed (CX.Ok.of AGz9 Zah) (AAe9 none t.gs) (badGr ly) (fun i=>tmVr1 ly.da.toNat false (i:Nat)) (fun i=> [tabB t,layB ly,growB 0 (cntC (pre++(t.gs.map (·.sl)).take i) ly.da.toNat)]) (fun _=>rfl) 2 (fun i x hi hx hpf K k1 k2=> ?_) (fun K k1=> ?_) (fun h=>by have h3:=h1 h ((AAe9 none t.gs).length:Nat);rw [←hfin] at h3;exact h3) (fun h i=>h2 h _ _) _ 0 (by simp) rfl
 ·obtain ⟨g1,g2,g3⟩:=AEr9 t.gs none i x hx;obtain ⟨o,x⟩:=x;simp only at g1 g2 g3;have hit:i<t.gs.length:=by omega
  have hi60:i≤60:=by
   rw [AEg9] at hpf;have hc:=(AFy9 (ok:=fun x:GraT=>graOk x ly) (sl:=fun x=>x.sl) (bad:=badGr ly) (fun p=>by obtain ⟨o,x⟩:=p;cases o<;>rfl) _ _).1 hpf;have h5:=AIp9 (sl:=fun x:GraT=>x.sl) (da:=ly.da) hd.2 0 (by omega) hc.2.2 (fun x hx=>by have:=BFh9 (hc.1 x hx);omega);have h6:(t.gs.take i).length=i:=by rw [Zcd];omega
   rcases h5 with h5|h5
   ·omega
   ·rw [h5] at h6;simp at h6;omega
  have hpl:(pre++(t.gs.map (·.sl)).take i).length<1000000:=by rw [Zcm,Zcd,List.length_map];omega
  refine Eq.mpr (rVr1 _ _ _ K t ly ly.da.toNat _ i) ?_;rw [AAf9];refine Zaz (by simp;omega) (Zaz (natI i) ⟨_,_,_,_,_,ABj9 g1,x,ly,_,rfl,rfl,Zba (fun c1=>Zaz (AFv9 t ly _ _) (k1 (by rw [badGr,c1];rfl))) fun c1=> ?_⟩);have c1':graOk x ly=true:=by simpa [graOk] using c1
  have hx2:0≤x.sl∧x.sl<(ly.da.toNat:Int):=by have:=BFh9 c1';omega
  have hin:(decide (0≤x.sl)&&decide (x.sl<(ly.da.toNat:Int)))=true:=by simp only [Zai,decide_eq_true_eq];exact hx2
  have hnx:pre++(t.gs.map (·.sl)).take i++ [x.sl]=pre++(t.gs.map (·.sl)).take (i+1):=by
   rw [Zbq,Zfm,Zbh,g1];rfl
  cases i with
  | zero=>
   refine Zda (by decide) (Zaz (natI 0) ⟨_,_,_,_,_,ABj9 g1,rfl,Zaz hin ⟨rfl,_,AMj9 hx2,rfl,Zaz hin ⟨rfl,Zaz (by rw [AFs9];exact decide_eq_true (by omega)) (Zaz (by rw [ADm9 hx2 hpl];exact AFv9 t ly _ _) ?_)⟩⟩⟩);rw [ADm9 hx2 hpl,hnx,wrapN (by omega)];exact k2 (by rw [badGr,g2 rfl,c1'];rfl)
  | succ j=>
   obtain ⟨w,hw,hj⟩:=g3 j rfl;subst hw;refine Zaz (by simp) ?_;rw [show Zad Zbc (((j+1:Nat):Int) - 1)=((j:Nat):Int) by rw [AAx9 (by omega) (by omega)];omega];refine Zaz (natI j) ⟨_,_,_,_,_,ABj9 hj,Zaz (natI (j+1)) ⟨_,_,_,_,_,ABj9 g1,Zba (fun c2=>Zaz (AFv9 t ly _ _) (k1 (by rw [badGr,c1'];exact c2))) fun c2=>(Zaz (natI (j+1)) ⟨_,_,_,_,_,ABj9 g1,rfl,Zaz hin ⟨rfl,_,AMj9 hx2,rfl,Zaz hin ⟨rfl,Zaz (by rw [AFs9];exact decide_eq_true (by omega)) (Zaz (by rw [ADm9 hx2 hpl];exact AFv9 t ly _ _) ?_)⟩⟩⟩)⟩⟩;rw [ADm9 hx2 hpl,hnx,wrapN (by omega)];exact k2 (by rw [badGr,c1'];exact c2)
 ·refine Eq.mpr (rVr1 _ _ _ K t ly ly.da.toNat _ _) ?_;rw [AAf9];exact Zda (by simp [e]) (Zaz (AFv9 t ly _ _) k1)
def badAr (ly:LayT) (p:Option AskT×AskT):Bool:= !askOk p.2 ly||(match p.1 with|some w=>decide (w.sl≥p.2.sl)|none=>false)
theorem wrVr2 {Ev:Env prog} {b:Ev.β} {Q:Exit→St Ev.β→Prop} (t:TabT) (ly:LayT) (pre:List Int) (hpre:pre.length≤1000) (hl:t.ak.length≤9223372036854775807) (hd:1≤ly.da∧ly.da≤60)
 (h1:(AAe9 none t.ak).any (badAr ly)=false→∀i:Int,Q (.exit 4) ⟨tmVr2 ly.da.toNat false i, [tabB t,layB ly,growB 0 (cntC (pre++t.ak.map (·.sl)) ly.da.toNat)],b⟩)
 (h2:(AAe9 none t.ak).any (badAr ly)=true→∀(i:Int) (cs:List AV),Q .ret ⟨tmVr2 ly.da.toNat false i, [tabB t,layB ly,growB 0 cs],b⟩):
 WR Ev lpVr2 (t.ak.length+1) ⟨tmVr2 ly.da.toNat false (0:Nat), [tabB t,layB ly,growB 0 (cntC pre ly.da.toNat)],b⟩ Q:=by
 have e:=ADw9 t.ak none;have hfin:cntC (pre++(t.ak.map (·.sl)).take (AAe9 none t.ak).length) ly.da.toNat=cntC (pre++t.ak.map (·.sl)) ly.da.toNat:=by rw [List.take_of_length_le (by simp [e])]
 have h0:cntC pre ly.da.toNat=cntC (pre++(t.ak.map (·.sl)).take 0) ly.da.toNat:=by rw [List.take_zero,Zdu]
 rw [←e,h0];refine WR.scanG2 (X:=⟨TV12, [],wlW Ev,Ev.Y,false⟩) (k:=100) (L:=3) [2,3,4,5,8] mixed (CX.Ok.of AGz9 Zah) (AAe9 none t.ak) (badAr ly) (fun i=>tmVr2 ly.da.toNat false (i:Nat)) (fun i=> [tabB t,layB ly,growB 0 (cntC (pre++(t.ak.map (·.sl)).take i) ly.da.toNat)]) (fun _=>rfl) 4 (fun i x hi hx hpf K k1 k2=> ?_) (fun K k1=> ?_) (fun h=>by have h3:=h1 h ((AAe9 none t.ak).length:Nat);rw [←hfin] at h3;exact h3) (fun h i=>h2 h _ _) _ 0 (by simp) rfl
 ·obtain ⟨g1,g2,g3⟩:=AEr9 t.ak none i x hx;obtain ⟨o,x⟩:=x;simp only at g1 g2 g3;have hit:i<t.ak.length:=by omega
  have hi60:i≤60:=by
   rw [AEg9] at hpf;have hc:=(AFy9 (ok:=fun x:AskT=>askOk x ly) (sl:=fun x=>x.sl) (bad:=badAr ly) (fun p=>by obtain ⟨o,x⟩:=p;cases o<;>rfl) _ _).1 hpf;have h5:=AIp9 (sl:=fun x:AskT=>x.sl) (da:=ly.da) hd.2 0 (by omega) hc.2.2 (fun x hx=>by have:=BIu9 (hc.1 x hx);omega);have h6:(t.ak.take i).length=i:=by rw [Zcd];omega
   rcases h5 with h5|h5
   ·omega
   ·rw [h5] at h6;simp at h6;omega
  have hpl:(pre++(t.ak.map (·.sl)).take i).length<1000000:=by rw [Zcm,Zcd,List.length_map];omega
  refine Eq.mpr (rVr2 _ _ _ K t ly ly.da.toNat _ i) ?_;rw [AAn9];refine Zaz (by simp;omega) (Zaz (natI i) ⟨_,_,_,ABk9 g1,Zaz (natI i) ⟨_,_,_,ABk9 g1,x.sl,x.of,x.pe,ly,_,rfl,rfl,Zba (fun c1=>Zaz (AFv9 t ly _ _) (k1 (by rw [badAr,show askOk x ly=ABe9 x.sl x.of x.pe ly from rfl,c1];rfl))) fun c1=> ?_⟩⟩);have c1':askOk x ly=true:=by simpa [askOk] using c1
  have hx2:0≤x.sl∧x.sl<(ly.da.toNat:Int):=by have:=BIu9 c1';omega
  have hin:(decide (0≤x.sl)&&decide (x.sl<(ly.da.toNat:Int)))=true:=by simp only [Zai,decide_eq_true_eq];exact hx2
  have hnx:pre++(t.ak.map (·.sl)).take i++ [x.sl]=pre++(t.ak.map (·.sl)).take (i+1):=by
   rw [Zbq,Zfm,Zbh,g1];rfl
  cases i with
  | zero=>
   refine Zda (by decide) (Zaz (natI 0) ⟨_,_,_,ABk9 g1,rfl,Zaz hin ⟨rfl,_,AMj9 hx2,rfl,Zaz hin ⟨rfl,Zaz (by rw [AFs9];exact decide_eq_true (by omega)) (Zaz (by rw [ADm9 hx2 hpl];exact AFv9 t ly _ _) ?_)⟩⟩⟩);rw [ADm9 hx2 hpl,hnx,wrapN (by omega)];exact k2 (by rw [badAr,g2 rfl,c1'];rfl)
  | succ j=>
   obtain ⟨w,hw,hj⟩:=g3 j rfl;subst hw;refine Zaz (by simp) ?_;rw [show Zad Zbc (((j+1:Nat):Int) - 1)=((j:Nat):Int) by rw [AAx9 (by omega) (by omega)];omega];refine Zaz (natI j) ⟨_,_,_,ABk9 hj,Zaz (natI (j+1)) ⟨_,_,_,ABk9 g1,Zba (fun c2=>Zaz (AFv9 t ly _ _) (k1 (by rw [badAr,c1'];exact c2))) fun c2=>(Zaz (natI (j+1)) ⟨_,_,_,ABk9 g1,rfl,Zaz hin ⟨rfl,_,AMj9 hx2,rfl,Zaz hin ⟨rfl,Zaz (by rw [AFs9];exact decide_eq_true (by omega)) (Zaz (by rw [ADm9 hx2 hpl];exact AFv9 t ly _ _) ?_)⟩⟩⟩)⟩⟩;rw [ADm9 hx2 hpl,hnx,wrapN (by omega)];exact k2 (by rw [badAr,c1'];exact c2)
 ·refine Eq.mpr (rVr2 _ _ _ K t ly ly.da.toNat _ _) ?_;rw [AAn9];exact Zda (by simp [e]) (Zaz (AFv9 t ly _ _) k1)
end Go.Proofs.YthcbbmnjikhihaaGreat.Am