import Derived.Test.YthcbbmnjikhihaaGreatPsJ4
import Derived.Shelf.SlSortCmp.WholeK
import Derived.Test.YthcbbmnjikhihaaGreatProg
import Derived.Shelf.SlSortCmp.NoneTotal
import Derived.Test.YthcbbmnjikhihaaGreatPsJ2
import Derived.Test.YthcbbmnjikhihaaGreatRows
import Derived.ProofKit
set_option linter.unusedSimpArgs false
set_option linter.unusedVariables false
namespace Go.Proofs.YthcbbmnjikhihaaGreat.Am
open Go Go.RowKit Go.Proofs Tryz
open AV renaming agg → Zao, bad → Zad, d → Zab, fn → Zat, gref → Zbu, ptr → Zak, rptr → Zag
open AskT renaming sl → Zde
open BIf renaming f → Zdl, of → Zbh, t → Zbg
open Bool renaming and_eq_true → Zaj, and_false → Zem, not_eq_true' → Zcq
open AAb9 renaming cons → Zai, nil → Zal
open Go.Code renaming loop → Zaz
open Dv renaming fn → Zco, pt → Zdn, s → Zdc, sl → Zaf
open Go.Exit renaming exit → Zbv, normal → Zfo
open Int renaming toNat → Zav
open Go.IntKind renaming i64 → Zay, wrap → Zae
open LayT renaming da → Zds
open LeH renaming refl → Zce
open LeVs renaming refl → Zfs
open List renaming all → Zcb, filter_sublist → Zes, getElem?_eq_getElem → Zba, length → Zaa, length_append → Zcr, length_cons → Zei, length_filter_le → Zdu, length_take → Zdb, map_cons → Zdv, mem_append → Zbs, mem_cons → Zbq, mem_cons_of_mem → Zbx, mem_cons_self → Zbz, mem_filter → Zch, mem_map → Zbb, mem_of_getElem? → Zby, pairwise_cons → Zen, replicate → Zaq, take_length → Zdx
open Nat renaming le_refl → Zau, lt_of_le_of_lt → Zev
open NearT renaming ak → Zcc, gs → Zbn, us → Zbp
open PairT renaming li → Zdh, se → Zej
open AAk9 renaming cons → Zbw, nil → Zah
open SideT renaming lay → Zcn, ns → Zas
open TabT renaming ak → Zbo, gs → Zbl, us → Zbj
open Go.Value renaming map → Zbm
variable {β:Type} (wl:WLT β) (y:ACv9 β) (b:β) (R:AV→β→Prop) (Kr:AV→List Blk→β→Prop) (K:Exit→List AV→List Blk→β→Prop) (Kh:Exit→List Blk→β→Prop) (Q:β→Prop)
open AV (bad)
set_option linter.unusedVariables false
set_option maxRecDepth 20000
set_option maxHeartbeats 1000000
def AEu9 (s:SideT) (ly:LayT) (me fr:Int) (t:TabT) (n:NearT):TabT:=if AJn9 s n=true then n.ak.foldl (AAm9 s ly me fr n) t else t
theorem BKv9 {s:SideT} {ly:LayT} {me fr:Int} {t:TabT} {n:NearT} (h:TabOk t):TabOk (AEu9 s ly me fr t n):=by
 unfold AEu9
 split
 · exact AWa9 _ h
 · exact h
theorem ATx9 {s:SideT} {ly:LayT} {me fr:Int}:∀(l:List NearT) {t:TabT},TabOk t→TabOk (l.foldl (AEu9 s ly me fr) t)
 | [],t,h=>h
 |a::l,t,h=>ATx9 l (BKv9 h)
def g2B_3 (ly:LayT) (t:TabT):List Blk:= [layB ly,tabB t,resB]
theorem CCp9 {Ev:Env prog} {b:Ev.β} {Q:Exit→St Ev.β→Prop} (s:SideT) (ly:LayT) (t:TabT) (me fr:Int) (hs:AIz9 s) (hs2:AGj9 s) (ht:TabOk t) (hl:s.ns.length<1000000)
   (hQ:Q (.exit 2) ⟨tmG2 s me fr s.ns.length,g2B_3 ly (s.ns.foldl (AEu9 s ly me fr) t),b⟩):WR Ev lpG2 (s.ns.length+1) ⟨tmG2 s me fr (0:Nat),g2B_3 ly t,b⟩ Q:=by
 refine WR.scanG (X:=⟨TG3, [],BQl9,Ev.Y,false⟩) (k:=100) (L:=3) [2,4,5,6,10,11,84,85,86] mixed (CX.Ok.ofWl BNe9 Zah BIq9) s.ns (fun _=>false) (fun i=>tmG2 s me fr (i:Nat)) (fun i=>g2B_3 ly ((s.ns.take i).foldl (AEu9 s ly me fr) t)) (fun _=>rfl) 2 0 (fun i n _ hi hn K _ k2=> ?_) (fun K k1=> ?_) (fun _=>by rw [Zdx];exact hQ) (fun h=>by simp at h) s.ns.length 0 (by simp) (Zau _) rfl
 · have hk:=k2 rfl
   have hti:TabOk ((s.ns.take i).foldl (AEu9 s ly me fr) t):=ATx9 _ ht
   rw [AFq9 _ _ hn] at hk
   generalize (s.ns.take i).foldl (AEu9 s ly me fr) t=ti at hk hti ⊢
   have hnl:=hs2.2 n (Zby hn)
   refine Eq.mpr (rG2_3 _ _ K s ly ti me fr i) ?_
   refine Zbg (by simp;omega) (Zbg (natI i) ⟨_,_,_,_,_,_,_,_,_,_,_,_,_,_,_,_,_,_,_,_,_,_,_,_,_,_,_,_,_,_,_,AEm9 hn,s,n,_,rfl,rfl,Zbh (fun h1=> ?_) fun h1=> ?_⟩)
   · rw [wrapN (by omega)]
     rw [Zcq] at h1
     rw [AEu9,h1,if_neg (by decide)] at hk
     exact hk
   · rw [Bool.not_eq_false'] at h1
     rw [AEu9,h1,if_pos rfl] at hk
     refine ⟨s,ly,ti,n,me,fr,i,n.ak,_,rfl, ?_,rfl,⟨hs,hti,hnl.2.2,rfl⟩, ?_⟩
     · first|rfl|rw [AAx9]
     · rw [wrapN (by omega)]
       exact hk
 · refine Eq.mpr (rG2_3 _ _ K s ly _ me fr s.ns.length) ?_
   exact Zdl (by simp) k1
def g2B_4 (cs:List AV) (ly:LayT) (t:TabT):List Blk:= [layB ly,tabB t,resB,frozB cs]
theorem CCo9 {Ev:Env prog} {b:Ev.β} {Q:Exit→St Ev.β→Prop} (cs:List AV) (hc4:lows 4 cs=true) (hcs:lows 5 cs=true) (s:SideT) (ly:LayT) (t:TabT) (me fr:Int) (hs:AIz9 s) (hs2:AGj9 s) (ht:TabOk t) (hl:s.ns.length<1000000)
   (hQ:Q (.exit 2) ⟨tmG2 s me fr s.ns.length,g2B_4 cs ly (s.ns.foldl (AEu9 s ly me fr) t),b⟩):WR Ev lpG2 (s.ns.length+1) ⟨tmG2 s me fr (0:Nat),g2B_4 cs ly t,b⟩ Q:=by
 have low:∀t:TabT,Zcb (g2B_4 cs ly t) (fun blk=>lows 4 blk.1)=true:=fun t=>by
   simp only [g2B_4,List.all_cons,List.all_nil,Bool.and_true,Zaj]
   exact ⟨rfl,rfl,rfl,hc4⟩
 refine WR.scanG (X:=⟨TG3, [],BQk9,Ev.Y,false⟩) (k:=100) (L:=4) [2,4,5,6,10,11,84,85,86] mixed (CX.Ok.ofWl BNe9 Zah BIp9) s.ns (fun _=>false) (fun i=>tmG2 s me fr (i:Nat)) (fun i=>g2B_4 cs ly ((s.ns.take i).foldl (AEu9 s ly me fr) t)) (fun _=>rfl) 2 0 (fun i n _ hi hn K _ k2=> ?_) (fun K k1=> ?_) (fun _=>by rw [Zdx];exact hQ) (fun h=>by simp at h) s.ns.length 0 (by simp) (Zau _) rfl
 · have hk:=k2 rfl
   have hti:TabOk ((s.ns.take i).foldl (AEu9 s ly me fr) t):=ATx9 _ ht
   rw [AFq9 _ _ hn] at hk
   generalize (s.ns.take i).foldl (AEu9 s ly me fr) t=ti at hk hti ⊢
   have hnl:=hs2.2 n (Zby hn)
   refine Eq.mpr (rG2_4 _ _ K s ly ti me fr i cs) ?_
   refine Zbg (by simp;omega) (Zbg (natI i) ⟨_,_,_,_,_,_,_,_,_,_,_,_,_,_,_,_,_,_,_,_,_,_,_,_,_,_,_,_,_,_,_,AEm9 hn,s,n,_,rfl,rfl,Zbh (fun h1=> ?_) fun h1=> ?_⟩)
   · rw [wrapN (by omega)]
     rw [Zcq] at h1
     rw [AEu9,h1,if_neg (by decide)] at hk
     exact Zbg (low _) hk
   · rw [Bool.not_eq_false'] at h1
     rw [AEu9,h1,if_pos rfl] at hk
     refine ⟨cs,s,ly,ti,n,me,fr,i,n.ak,_,rfl, ?_,rfl,⟨hcs,hs,hti,hnl.2.2,rfl⟩, ?_⟩
     · first|rfl|rw [AAx9]
     · rw [wrapN (by omega)]
       exact Zbg (low _) hk
 · refine Eq.mpr (rG2_4 _ _ K s ly _ me fr s.ns.length cs) ?_
   exact Zdl (by simp) (Zbg (low _) k1)
def AHj9 (s:SideT) (ly:LayT) (me fr:Int) (t:TabT):TabT:=s.ns.foldl (AEu9 s ly me fr) t
def wlG2 {β:Type}:WLT β:=fun cd tm hp b K=>∃(s:SideT) (ly:LayT) (us:List UseT) (gs:List GraT) (ak:List AskT) (me fr:Int) (q:TabT),cd= .loop lpG2∧ABd9 [2,4,5,6,10,11,84,85,86] 0 tm=tmG2 s me fr 0∧
 (AIz9 s∧AGj9 s∧TabOk ⟨us,gs,ak⟩∧s.ns.length<1000000∧q=AHj9 s ly me fr ⟨us,gs,ak⟩)∧
 match hp with
 | [b0,b1,b2]=>gs= []∧b0=layB ly∧b1=grtB us (.d (.sl 5 [])) ak∧b2=resB∧K (.exit 2) (tmG2 s me fr s.ns.length) [layB ly,tabB q,resB] b
 | [b0,b1,b2,b3]=>b0=layB ly∧b1=grtB us (.gref 3 0 gs.length 5) ak∧b2=resB∧b3=growB 0 (flatA (rowsG gs))∧K (.exit 2) (tmG2 s me fr s.ns.length) [layB ly,tabB q,resB,frozB (flatA (rowsG gs))] b
 |_=>False
theorem BWy9 {Ev:Env prog} (c:Code) (tm:List AV) (hp:List Blk) (b:Ev.β) (K:Exit→List AV→List Blk→Ev.β→Prop) (h:wlG2 c tm hp b K):W Ev c ⟨tm,hp,b⟩ (fun e s=>K e s.tm s.hp s.b):=by
 obtain ⟨s,ly,us,gs,ak,me,fr,q,rfl,htm,⟨hs,hs2,ht,hl,rfl⟩,h⟩:=h
 refine W.cast (htm▸AAe9 _ tm 0) (Zce _) ?_
 split at h
 · obtain ⟨rfl,rfl,rfl,rfl,hK⟩:=h
   exact W.rounds (CCp9 (Q:=fun e s=>K e s.tm s.hp s.b) s ly ⟨us, [],ak⟩ me fr hs hs2 ht hl hK)
 · obtain ⟨rfl,rfl,rfl,rfl,hK⟩:=h
   have hsr:SealR [layB ly,grtB us (.gref 3 0 gs.length 5) ak,resB,growB 0 (flatA (rowsG gs))] (.gref 3 0 gs.length 5) (.d (.sl 5 (rowsG gs))):=
     .gref rfl rfl rfl rfl (AAh9 gs) (AQn9 gs)
   refine W.ofFrz (BEi9 (c:=1) (off:=1) (gs:= [3]) rfl rfl hsr (by simp [occ]) rfl rfl) ?_
   exact W.rounds (CCo9 (Q:=fun e s=>K e s.tm s.hp s.b) (flatA (rowsG gs)) (ACt9 4 _) (ACt9 5 _) s ly ⟨us,gs,ak⟩ me fr hs hs2 ht hl hK)
 · exact h.elim
def wlG1 {β:Type}:WLT β:=fun cd tm hp b K=>∃(s:SideT) (ly:LayT) (us:List UseT) (gs q:List GraT) (ak:List AskT) (me fr:Int),cd= .loop lpG1∧
 (AGj9 s∧gs.length<1000000∧q=gs.map (ACs9 s fr))∧
 match hp with
 | [b0,b1,b2]=>gs= []∧ABd9 [2,4,5,6,10,11,43,44,45] 0 tm=tmG1 s me fr (.d (.sl 5 [])) 0 0∧b0=layB ly∧b1=grtB us (.d (.sl 5 [])) ak∧b2=resB∧K (.exit 0) (tmG1 s me fr (.d (.sl 5 [])) 0 0) [layB ly,grtB us (.d (.sl 5 [])) ak,resB] b
 | [b0,b1,b2,b3]=>ABd9 [2,4,5,6,10,11,43,44,45] 0 tm=tmG1 s me fr (.gref 3 0 gs.length 5) gs.length 0∧b0=layB ly∧b1=grtB us (.gref 3 0 gs.length 5) ak∧b2=resB∧b3=growB 0 (flatA (rowsG gs))∧
    K (.exit 0) (tmG1 s me fr (.gref 3 0 q.length 5) q.length q.length) [layB ly,grtB us (.gref 3 0 q.length 5) ak,resB,growB 0 (flatA (rowsG q))] b
 |_=>False
abbrev Qz32 (v0:Int) (v1:Int) (v2:SideT):=Zad::Zad::Zab (i64 v0)::Zad::Zab (i64 v1)::Zak 0 0::Zak 1 0::bds 3 (Zak 2 0::Zag (Qz2 v2)::bds 31 (Zab (Zaf 5 [])::Zab (i64 0)::Zab (i64 0)::bds 90 []))
abbrev Qz49 (v0:List UseT) (v1:List AskT):List AV:= [Zab (Zaf 4 (rowsU v0)),Zab (Zaf 5 []),Zab (Zaf 3 (rowsA v1))]
theorem rG1e (s:SideT) (ly:LayT) (us:List UseT) (ak:List AskT) (me fr:Int):wpc prog ⟨TG1,GCG,wl,y,false⟩ 100 lpG1 (tmG1 s me fr (.d (.sl 5 [])) 0 0) [layB ly,grtB us (.d (.sl 5 [])) ak,resB] b (maskK 3 [2,4,5,6,10,11,43,44,45] K)=(K (Zbv 0) (Qz32 me fr s) [Blk.mk (Qz5 ly) false false 0,Blk.mk (Qz49 us ak) false false 0,Blk.mk Qz6 false false 0] b):=by kernel_rfl
theorem BWz9 {Ev:Env prog} (c:Code) (tm:List AV) (hp:List Blk) (b:Ev.β) (K:Exit→List AV→List Blk→Ev.β→Prop) (h:wlG1 c tm hp b K):W Ev c ⟨tm,hp,b⟩ (fun e s=>K e s.tm s.hp s.b):=by
 obtain ⟨s,ly,us,gs,_,ak,me,fr,rfl,⟨hs,hl,rfl⟩,h⟩:=h
 split at h
 · obtain ⟨rfl,htm,rfl,rfl,rfl,hK⟩:=h
   refine W.cast (htm▸AAe9 _ tm 0) (Zce _) ?_
   refine W.rounds (m:=1) (WR.ofMask (X:=⟨TG1,GCG,wlW Ev,Ev.Y,false⟩) (k:=100) [2,4,5,6,10,11,43,44,45] mixed (CX.Ok.of CCf9 BAg9) ?_)
   refine Eq.mpr (rG1e _ _ _ _ s ly us ak me fr) ?_
   exact hK
 · obtain ⟨htm,rfl,rfl,rfl,rfl,hK⟩:=h
   refine W.cast (htm▸AAe9 _ tm 0) (Zce _) ?_
   have e0:curG s fr gs 0=gs:=by simp [curG]
   have e1:curG s fr gs gs.length=gs.map (ACs9 s fr):=by simp [curG]
   have:=wrG1 (Ev:=Ev) (b:=b) (Q:=fun e s=>K e s.tm s.hp s.b) s ly us ak me fr gs hs hl (by rw [e1];simpa [g1B] using hK)
   rw [e0] at this
   exact W.rounds this
 · exact h.elim
def wlGr2 {β:Type}:WLT β:=fun cd tm hp b K=>match cidO cd with
 |8=>wlG1 cd tm hp b K
 |15=>wlG2 cd tm hp b K
 |_=>False
theorem BQj9 {Ev:Env prog} (c:Code) (tm:List AV) (hp:List Blk) (b:Ev.β) (K:Exit→List AV→List Blk→Ev.β→Prop) (h:wlGr2 c tm hp b K):W Ev c ⟨tm,hp,b⟩ (fun e s=>K e s.tm s.hp s.b):=by
 unfold wlGr2 at h
 split at h
 · exact BWz9 c tm hp b K h
 · exact BWy9 c tm hp b K h
 · exact h.elim
def TGf:List (Nat×(List AV→(AV→Prop)→Prop)):= [(35,cNew),(47,BOo9)]
theorem CEx9:AAb9 prog TGf:=Zai BFu9 (Zai BGk9 Zal)
def UGf:List (Nat×(List AV→List Blk→(AV→List Blk→Prop)→Prop)):= [(48,BCi9),(1000059,fun _ _ _=>False)]
theorem CEh9:AAk9 prog UGf:=Zbw AQl9 BAg9
abbrev Qz17 (v0:LayT) (v1:TabT) (v2:Int) (v3:List NearT) (v4:Int):List AV:= [Zao (Qz5 v0),Zao (Qz3 v1),Zab (i64 v2),Zab (Zaf 31 (rowsN v3)),Zab (i64 v4)]
abbrev Qz44 (v0:Int) (v1:Int) (v2:SideT) (v3:List GraT):=Zad::Zad::Zab (i64 v0)::Zad::Zab (i64 v1)::Zak 0 0::Zak 1 0::bds 3 (Zak 2 0::Zag (Qz2 v2)::bds 31 (Zbu 3 0 (Zaa v3) 5::Zab (i64 ((Zaa v3:Nat):Int))::Zab (i64 0)::bds 90 []))
abbrev Qz61 (v0:List UseT) (v1:List GraT) (v2:List AskT):List AV:= [Zab (Zaf 4 (rowsU v0)),Zbu 3 0 (Zaa v1) 5,Zab (Zaf 3 (rowsA v2))]
theorem BTf9 (ly:LayT) (t:TabT) (me:Int) (l:List NearT) (fr:Int):wpFn prog ⟨TGf,UGf,wlGr2,y,false⟩ 100 f13 [layA ly,tabA t, .d (i64 me), .d (.sl 31 (rowsN l)), .d (i64 fr)] b R=(∃(ly0:LayT) (t1:TabT) (me2:Int) (l3:List NearT) (fr4:Int) (s5:SideT) (q6:Bool),(Qz17 ly t me l fr)=(Qz17 ly0 t1 me2 l3 fr4)∧((Zaa (Zbj t1)<10000∧Zaa (Zbl t1)<10000∧Zaa (Zbo t1)<10000)∧Zaa l3<1000000∧(∀(x:NearT),x∈l3→Zaa (Zbp x)<1000000∧Zaa (Zbn x)<1000000∧Zaa (Zcc x)<1000000)∧q6=newS ly0 t1 me2 l3 fr4∧s5=sideS ly0 me2 l3 fr4)∧BIf q6 (∃(t7:TabT) (z8:TabT) (fr9:Int), [Zao (Qz3 t),Zab (i64 fr)]= [Zao (Qz3 t7),Zab (i64 fr9)]∧((Zaa (Zbj t7)<1000000∧Zaa (Zbl t7)<1000000∧Zaa (Zbo t7)<1000000)∧z8=ADn9 t7 fr9)∧∃(hs10:List GraT), [Zab (Zaf 5 (rowsG (Zbl z8)))]= [Zab (Zaf 5 (rowsG hs10))]∧Zaa hs10≤1000000∧BIf (List.isEmpty hs10) (∃(s11:SideT) (ly12:LayT) (us13:List UseT) (gs14:List GraT) (q15:List GraT) (ak16:List AskT) (me17:Int) (fr18:Int),Zaz lpG1=Zaz lpG1∧((Zaa (Zas s11)≤9223372036854775807∧∀(x:NearT),x∈Zas s11→Zaa (Zbp x)<1000000∧Zaa (Zbn x)<1000000∧Zaa (Zcc x)<1000000)∧Zaa gs14<1000000∧q15=List.map (ACs9 s11 fr18) gs14)∧gs14= []∧(Qz32 me fr s5)=(Qz32 me17 fr18 s11)∧Blk.mk (Qz5 ly) false false 0=Blk.mk (Qz5 ly12) false false 0∧Blk.mk [Zab (Zaf 4 (rowsU (Zbj z8))),Zab (Zaf 5 []),Zab (Zaf 3 (rowsA (Zbo z8)))] false false 0=Blk.mk (Qz49 us13 ak16) false false 0∧Blk.mk Qz6 false false 0=Blk.mk Qz6 false false 0∧∃(s19:SideT) (ly20:LayT) (us21:List UseT) (gs22:List GraT) (ak23:List AskT) (me24:Int) (fr25:Int) (q26:TabT),Zaz lpG2=Zaz lpG2∧(Zad::Zad::Zab (i64 me17)::Zad::Zab (i64 fr18)::Zak 0 0::Zak 1 0::bds 3 (Zak 2 0::Zag (Qz2 s11)::bds 72 (Zab (Zaf 31 (rowsN (Zas s11)))::Zab (i64 ((Zaa (rowsN (Zas s11)):Nat):Int))::Zab (i64 0)::bds 49 [])))=(Zad::Zad::Zab (i64 me24)::Zad::Zab (i64 fr25)::Zak 0 0::Zak 1 0::bds 3 (Zak 2 0::Zag (Qz2 s19)::bds 72 (Zab (Zaf 31 (rowsN (Zas s19)))::Zab (i64 ((Zaa (Zas s19):Nat):Int))::Zab (i64 0)::bds 49 [])))∧((Zaa (Zas s19)≤9223372036854775807∧(∀(x:NearT),x∈Zas s19→Zaa (Zbp x)≤9223372036854775807∧Zaa (Zbn x)≤9223372036854775807∧Zaa (Zcc x)≤9223372036854775807)∧layOk (Zcn s19)=true)∧(Zaa (Zas s19)≤9223372036854775807∧∀(x:NearT),x∈Zas s19→Zaa (Zbp x)<1000000∧Zaa (Zbn x)<1000000∧Zaa (Zcc x)<1000000)∧(Zaa (Zbj (TabT.mk us21 gs22 ak23))<10000∧Zaa (Zbl (TabT.mk us21 gs22 ak23))<10000∧Zaa (Zbo (TabT.mk us21 gs22 ak23))<10000)∧Zaa (Zas s19)<1000000∧q26=AHj9 s19 ly20 me24 fr25 (TabT.mk us21 gs22 ak23))∧gs22= []∧Blk.mk (Qz5 ly12) false false 0=Blk.mk (Qz5 ly20) false false 0∧Blk.mk (Qz49 us13 ak16) false false 0=Blk.mk (Qz49 us21 ak23) false false 0∧Blk.mk Qz6 false false 0=Blk.mk Qz6 false false 0∧R (.agg (Qz3 q26)) b) (0=0∧∃(s27:SideT) (ly28:LayT) (us29:List UseT) (gs30:List GraT) (q31:List GraT) (ak32:List AskT) (me33:Int) (fr34:Int),Zaz lpG1=Zaz lpG1∧((Zaa (Zas s27)≤9223372036854775807∧∀(x:NearT),x∈Zas s27→Zaa (Zbp x)<1000000∧Zaa (Zbn x)<1000000∧Zaa (Zcc x)<1000000)∧Zaa gs30<1000000∧q31=List.map (ACs9 s27 fr34) gs30)∧(Qz44 me fr s5 hs10)=(Qz44 me33 fr34 s27 gs30)∧Blk.mk (Qz5 ly) false false 0=Blk.mk (Qz5 ly28) false false 0∧Blk.mk [Zab (Zaf 4 (rowsU (Zbj z8))),Zbu 3 0 (Zaa hs10) 5,Zab (Zaf 3 (rowsA (Zbo z8)))] false false 0=Blk.mk (Qz61 us29 gs30 ak32) false false 0∧Blk.mk Qz6 false false 0=Blk.mk Qz6 false false 0∧Blk.mk (flatA (rowsG hs10)) false true 0=Blk.mk (flatA (rowsG gs30)) false true 0∧∃(s35:SideT) (ly36:LayT) (us37:List UseT) (gs38:List GraT) (ak39:List AskT) (me40:Int) (fr41:Int) (q42:TabT),Zaz lpG2=Zaz lpG2∧(Zad::Zad::Zab (i64 me33)::Zad::Zab (i64 fr34)::Zak 0 0::Zak 1 0::bds 3 (Zak 2 0::Zag (Qz2 s27)::bds 72 (Zab (Zaf 31 (rowsN (Zas s27)))::Zab (i64 ((Zaa (rowsN (Zas s27)):Nat):Int))::Zab (i64 0)::bds 49 [])))=(Zad::Zad::Zab (i64 me40)::Zad::Zab (i64 fr41)::Zak 0 0::Zak 1 0::bds 3 (Zak 2 0::Zag (Qz2 s35)::bds 72 (Zab (Zaf 31 (rowsN (Zas s35)))::Zab (i64 ((Zaa (Zas s35):Nat):Int))::Zab (i64 0)::bds 49 [])))∧((Zaa (Zas s35)≤9223372036854775807∧(∀(x:NearT),x∈Zas s35→Zaa (Zbp x)≤9223372036854775807∧Zaa (Zbn x)≤9223372036854775807∧Zaa (Zcc x)≤9223372036854775807)∧layOk (Zcn s35)=true)∧(Zaa (Zas s35)≤9223372036854775807∧∀(x:NearT),x∈Zas s35→Zaa (Zbp x)<1000000∧Zaa (Zbn x)<1000000∧Zaa (Zcc x)<1000000)∧(Zaa (Zbj (TabT.mk us37 gs38 ak39))<10000∧Zaa (Zbl (TabT.mk us37 gs38 ak39))<10000∧Zaa (Zbo (TabT.mk us37 gs38 ak39))<10000)∧Zaa (Zas s35)<1000000∧q42=AHj9 s35 ly36 me40 fr41 (TabT.mk us37 gs38 ak39))∧Blk.mk (Qz5 ly28) false false 0=Blk.mk (Qz5 ly36) false false 0∧Blk.mk (Qz61 us29 q31 ak32) false false 0=Blk.mk (Qz61 us37 gs38 ak39) false false 0∧Blk.mk Qz6 false false 0=Blk.mk Qz6 false false 0∧Blk.mk (flatA (rowsG q31)) false true 0=Blk.mk (flatA (rowsG gs38)) false true 0∧R (.agg (Qz3 q42)) b)) (R (.agg (Qz3 t)) b)):=by kernel_rfl
theorem AOe9 {ly:LayT} {me:Int} {l:List NearT} {fr:Int} (hl:l.length<1000000) (hx:∀x∈l,AFb9 x):AGj9 (sideS ly me l fr):=by
 refine ⟨by simp [sideS];omega,fun x h=> ?_⟩
 simp only [sideS,Zbb] at h
 obtain ⟨n,hn,rfl⟩:=h
 obtain ⟨h1,h2,h3⟩:=hx n hn
 refine ⟨Zev (Zdu _ _) h1,Zev (Zdu _ _) h2,Zev (Zdu _ _) h3⟩
theorem BCc9 {ly:LayT} {me:Int} {l:List NearT} {fr:Int} (hl:l.length<1000000) (hx:∀x∈l,AFb9 x) (hv:(1≤ly.no∧ly.no≤60)∧(1≤ly.da∧ly.da≤60)):AIz9 (sideS ly me l fr):=by
 obtain ⟨h1,h2⟩:=AOe9 (ly:=ly) (me:=me) (fr:=fr) hl hx
 refine ⟨h1,fun x h=> ?_, ?_⟩
 · obtain ⟨g1,g2,g3⟩:=h2 x h
   exact ⟨by omega,by omega,by omega⟩
 · obtain ⟨⟨g1,g2⟩,g3,g4⟩:=hv
   simp only [layOk,sideS,Zaj];exact ⟨decide_eq_true g1,decide_eq_true g2,decide_eq_true g3,decide_eq_true g4⟩
def AEf9 (ly:LayT) (t:TabT) (me:Int) (l:List NearT) (fr:Int):TabT:=
 if newS ly t me l fr=true then AHj9 (sideS ly me l fr) ly me fr ⟨t.us,(ADn9 t fr).gs.map (ACs9 (sideS ly me l fr) fr),t.ak⟩ else t
theorem ADq9 {ly:LayT} {t:TabT} {me:Int} {l:List NearT} {fr:Int} (h:newS ly t me l fr=true):ACy9 t ly=true:=by
 rw [newS,Zaj] at h;exact h.1
theorem BZf9 (ly:LayT) (t:TabT) (me:Int) (l:List NearT) (fr:Int) (ht:TabOk t) (hl:l.length<1000000) (hx:∀x∈l,AFb9 x):
   PCall prog 13 [layA ly,tabA t, .d (i64 me), .d (.sl 31 (rowsN l)), .d (i64 fr)] (tabA (AEf9 ly t me l fr)):=by
 refine PCall.ofFnW (n:=100) (u:=false) (fun _=>wlGr2) mixed CEx9 CEh9 (fun Ev=>BQj9) func13 (by rfl) (by rfl) fun Ev bb=> ?_
 rw [BTf9]
 have ht':TabLt t:=⟨by have:=ht.1;omega,by have:=ht.2.1;omega,by have:=ht.2.2;omega⟩
 refine ⟨ly,t,me,l,fr,_,_,rfl,⟨ht,hl,hx,rfl,rfl⟩,Zbh (fun h1=> ?_) fun h1=> ?_⟩
 · have hv:=ABc9 (ADq9 h1)
   have s1:=BCc9 (me:=me) (fr:=fr) hl hx hv
   have s2:=AOe9 (ly:=ly) (me:=me) (fr:=fr) hl hx
   have hgl:(ADn9 t fr).gs.length<10000:=Zev (Zdu _ _) ht.2.1
   have hnl:(sideS ly me l fr).ns.length<1000000:=by simpa [sideS] using hl
   rw [AEf9,if_pos h1]
   refine ⟨t,_,fr,rfl,⟨ht',rfl⟩,(ADn9 t fr).gs,rfl,by omega,Zbh (fun h2=> ?_) fun h2=> ?_⟩
   · have h3:(ADn9 t fr).gs= []:=List.isEmpty_iff.1 h2
     refine ⟨sideS ly me l fr,ly,t.us, [],_,t.ak,me,fr,rfl,⟨s2,by decide,rfl⟩,rfl, ?_,rfl,rfl,rfl,sideS ly me l fr,ly,t.us, [],t.ak,me,fr,_,rfl, ?_,⟨s1,s2,⟨ht.1,by simp,ht.2.2⟩,hnl,rfl⟩,rfl,rfl,rfl,rfl, ?_⟩
     · rfl
     · rw [AFk9]
     · rw [h3];rfl
   · refine ⟨rfl,sideS ly me l fr,ly,t.us,(ADn9 t fr).gs,_,t.ak,me,fr,rfl,⟨s2,by omega,rfl⟩,rfl,rfl,rfl,rfl,rfl,sideS ly me l fr,ly,t.us,(ADn9 t fr).gs.map (ACs9 (sideS ly me l fr) fr),t.ak,me,fr,_,rfl, ?_,⟨s1,s2,⟨ht.1, ?_,ht.2.2⟩,hnl,rfl⟩,rfl,rfl,rfl,rfl, ?_⟩
     · rw [AFk9]
     · rw [List.length_map];exact hgl
     · rfl
 · have h1':¬newS ly t me l fr=true:=by rw [h1];decide
   rw [AEf9,if_neg h1']
   rfl
def CBg9 (args:List AV) (K:AV→Prop):Prop:=∃(ly:LayT) (t q:TabT) (me:Int) (l:List NearT) (fr:Int),args= [layA ly,tabA t, .d (i64 me), .d (.sl 31 (rowsN l)), .d (i64 fr)]∧(TabOk t∧l.length<1000000∧(∀x∈l,AFb9 x)∧q=AEf9 ly t me l fr)∧K (tabA q)
theorem AWt9:∀args K,CBg9 args K→∃x,PCall prog 13 args x∧K x:=by
 rintro _ K ⟨ly,t,_,me,l,fr,rfl,⟨ht,hl,hx,rfl⟩,hk⟩;exact ⟨_,BZf9 ly t me l fr ht hl hx,hk⟩
open Go.Maps (Keyed)
variable {β:Type} (wl:WLT β) (y:ACv9 β) (b:β) (R:AV→β→Prop) (Kr:AV→List Blk→β→Prop) (K:Exit→List AV→List Blk→β→Prop) (Kh:Exit→List Blk→β→Prop) (Q:β→Prop)
abbrev Prs:=List Int
def hasP (k:Int) (ts:Prs):Bool:=ts.any fun p=>p==k
def insQ (h:Int):Prs→Prs
 | []=> [h]
 |x::r=>if h<x then h::x::r else x::insQ h r
def putP (h:Int) (ts:Prs):Prs:=insQ h (ts.filter fun x=> !(x==h))
def entP (ts:Prs):MC:=ts.map fun h=>(Lit.int .i64 h,Zab (bo true))
abbrev PrsG:=Option (Nat×Prs)
def prF:PrsG→List MapC
 |none=> []
 |some (d,ts)=> [⟨d,3,entP ts⟩]
structure NoP (g:PrsG):Prop where
 e:g=none
theorem CAm9 (k:Int) (ts:Prs):atK (Lit.int .i64 k) (.d (bo false)) (entP ts)= .d (bo (hasP k ts)):=by
 induction ts with
 |nil=>rfl
 | cons h t ih=>
   simp only [atK,entP,hasP,Zdv,List.find?_cons,List.any_cons,ADw9] at ih ⊢
   cases h==k
   · exact ih
   · rfl
theorem BTq9 (k:Int) (ts:Prs):delK (Lit.int .i64 k) (entP ts)=entP (ts.filter fun x=> !(x==k)):=by
 simp only [delK,entP,List.filter_map]
 congr 1
 apply List.filter_congr
 intro x _
 simp only [Function.comp,ADw9]
theorem BTp9 (h:Int) (ts:Prs):insK (Lit.int .i64 h, .d (bo true)) (entP ts)=entP (insQ h ts):=by
 induction ts with
 |nil=>rfl
 | cons x t ih=>
   simp only [entP,Zdv,insK,insQ,Lit.before] at ih ⊢
   by_cases hx:h<x
   · simp [hx]
   · simp [hx,ih]
theorem BTo9 (h:Int) (ts:Prs):putK (Lit.int .i64 h) (.d (bo true)) (entP ts)=entP (putP h ts):=by
 rw [putK,BTq9,BTp9];rfl
theorem BSw9 (h:Int) (l:Prs):(insQ h l).length=l.length+1:=by
 induction l with
 |nil=>rfl
 |cons x r ih=>simp only [insQ];split<;>simp [ih]
theorem BRh9 (h:Int) (ts:Prs):(putP h ts).length≤ts.length+1:=by
 rw [putP,BSw9]
 exact Nat.succ_le_succ (Zdu _ _)
theorem BSx9 (k h:Int) (l:Prs):hasP k (insQ h l)=(h==k||hasP k l):=by
 induction l with
 |nil=>rfl
 | cons x r ih=>
   simp only [insQ]
   split
   · rfl
   · simp only [hasP,List.any_cons] at ih ⊢
     rw [ih]
     cases h==k<;>cases x==k<;>simp
theorem BRi9 (k h:Int) (l:Prs):hasP k (putP h l)=(h==k||hasP k l):=by
 rw [putP,BSx9]
 by_cases e:h=k
 · simp [e]
 · simp only [beq_eq_false_iff_ne.2 e,Bool.false_or,hasP,List.any_filter]
   congr 1
   funext x
   by_cases hx:x=k
   · subst hx;simp [Ne.symm e]
   · simp [hx]
theorem BBs9:Tryz.prog.underlying 108=some (.map 3 4):=by kernel_rfl
theorem zero4 (w:World):(zeroValue 4).run prog w= .ok (.bool false) w:=by rfl
theorem BPs9 (S:Pr) (w:World):RV S w [] none (.d (bo false)) (.bool false):= .d (.s _)
noncomputable def prM:MHook PrsG:=fun o s g K=>match o.op with
 | .makeMap t none=>some (NoP g∧t=108∧∀d,K {tm:=putA s.tm o.dst (mapA d),hp:=s.hp,pv:=pvPut s.pv o.dst} (some (d, [])))
 | .lookup t m x false=>some (t=108∧∃(d:Nat) (ts:Prs) (k:Int) (v:Bool),g=some (d,ts)∧evalA s.tm m=mapA d∧evalA s.tm x= .d (i64 k)∧InI k∧v=hasP k ts∧
     K {tm:=putA s.tm o.dst (.d (bo v)),hp:=s.hp,pv:=pvPut s.pv o.dst} g)
 | .mapUpdate t m x v=>some (t=108∧∃(d:Nat) (ts ts':Prs) (k:Int),g=some (d,ts)∧evalA s.tm m=mapA d∧evalA s.tm x= .d (i64 k)∧evalA s.tm v= .d (bo true)∧InI k∧ts.length<1000000∧ts'=putP k ts∧
     K {tm:=putA s.tm o.dst (.d (.s undef)),hp:=s.hp,pv:=pvPut s.pv o.dst} (some (d,ts')))
 |_=>none
theorem BYr9 {d:Nat} {ts:Prs}:(⟨d,3,entP ts⟩:MapC)∈prF (some (d,ts)):=by simp [prF]
abbrev EvP (N:Nat) (w0:World) (lent:List Nat):Env prog:=Env.mapped prog none N w0 lent prF
theorem CDa9 (N:Nat) (w0:World) (lent:List Nat):MOk (EvP N w0 lent) prM:=by
 intro o s g K p hp h
 unfold prM at hp
 split at hp
 · rename_i t ho
   cases hp
   obtain ⟨⟨rfl⟩,rfl,hk⟩:=h
   refine ⟨_,ANi9 (g:=none) (mk:=fun d=>some (d, [])) (k:=3) ho (fun d=>rfl), ?_⟩
   rintro s' b' ⟨d,rfl,rfl⟩
   exact hk d
 · rename_i t m x ho
   cases hp
   obtain ⟨rfl,d,ts,k,_,rfl,hm,hx,hi,rfl,hk⟩:=h
   refine ⟨_,ARm9 (g:=some (d,ts)) (c:=⟨d,3,entP ts⟩) (z:= .d (bo false)) ho BYr9 hm (key:= .int .i64 k) (by rw [hx];rfl) ATq9 BBs9 (key3 hi) zero4 BPs9 (by rfl), ?_⟩
   rintro s' b' ⟨rfl,rfl⟩
   simp only [Bool.false_eq_true,if_false,CAm9] at hk ⊢
   exact hk
 · rename_i t m x v ho
   cases hp
   obtain ⟨rfl,d,ts,_,k,rfl,hm,hx,hv,hi,hl,rfl,hk⟩:=h
   refine ⟨_,AJg9 (g:=some (d,ts)) (g':=some (d,putP k ts)) (l1:= []) (l2:= []) (c:=⟨d,3,entP ts⟩) ho rfl hm (key:= .int .i64 k) (by rw [hx];rfl) ATq9 BBs9 (key3 hi) (by simp [entP,maxLen];omega) (by rw [hv];rfl) ?_, ?_⟩
   · rw [hv];simp only [prF,List.nil_append]
     rw [show (Zab (bo true)).view=Zab (bo true) from rfl,BTo9]
   · rintro s' b' ⟨rfl,rfl⟩
     exact hk
 · cases hp
def TTm:List (Nat×(List AV→(AV→Prop)→Prop)):= [(4000004,cNone),(4000008,cNone),(4000014,cNone),(4000026,cNone),(35,cNew),(37,cFind),(53,BGi9),(56,cAddU)]
theorem BVf9:AAb9 prog TTm:=Zai (ABx9 _) (Zai (ABx9 _) (Zai (ABx9 _) (Zai (ABx9 _) (Zai BFu9 (Zai AUn9 (Zai AZt9 (Zai BUx9 Zal)))))))
def UTm:List (Nat×(List AV→List Blk→(AV→List Blk→Prop)→Prop)):= [(54,lendC AWp9)]
theorem CBr9:AAk9 prog UTm:=Zbw (AFl9 AUj9) Zah
noncomputable def wlTm (wl:WLT PrsG):WLT PrsG:=wlM prog ⟨TTm, [],fun _ _ _ _ _=>False,fun _ _ _=>False,false⟩ prM wl
theorem BNh9 {N:Nat} {w0:World} {lent:List Nat} {wl:WLT PrsG} (hwl:∀c tm hp b K,wl c tm hp b K→W (EvP N w0 lent) c ⟨tm,hp,b⟩ (fun e s=>K e s.tm s.hp s.b)):∀c tm hp b K,wlTm wl c tm hp b K→W (EvP N w0 lent) c ⟨tm,hp,b⟩ (fun e s=>K e s.tm s.hp s.b):=
 BQh9 (Ev:=EvP N w0 lent) mixed (CX.Ok.ofWl (Ev:=EvP N w0 lent) BVf9 Zah fun _ _ _ _ _ h=>h.elim) (CDa9 N w0 lent) hwl
theorem ANz9 {N:Nat} {w0:World} {lent:List Nat} {wl:WLT PrsG} (hwl:∀c tm hp b K,wl c tm hp b K→W (EvP N w0 lent) c ⟨tm,hp,b⟩ (fun e s=>K e s.tm s.hp s.b)):CX.Ok (EvP N w0 lent) ⟨TTm,UTm,wlTm wl,fun _ _ _=>False,false⟩:=
 CX.Ok.ofWl (Ev:=EvP N w0 lent) BVf9 CBr9 (BNh9 hwl)
def wlNil:WLT PrsG:=fun _ _ _ _ _=>False
noncomputable def lpT1:Code:=sub [1,1,1,1,0,1,2,3] (code f14)
noncomputable def lpT2:Code:=sub [1,1,1,1,1,1,0,1,2,3] (code f14)
noncomputable def lpT4:Code:=sub [1,1,1,1,1,1,1,1,0,1,2,3,1,1,0,2,1,1,1,2,3] (code f14)
noncomputable def lpT3:Code:=sub [1,1,1,1,1,1,1,1,0,1,2,3] (code f14)
def tmT (s:SideT) (d:Nat) (x:AV):List AV:= [.bad, .bad, .bad, .bad, .bad, .ptr 0 0, .ptr 1 0, .bad, .bad, .bad, .ptr 2 0, .rptr (sideD s), .bad,mapA d, .bad, .bad,x]
def tmT1 (s:SideT) (d:Nat) (l:List AskT) (i:Int):List AV:=tmT s d .bad++Zaq 26 .bad++ [.d (.sl 3 (rowsA l)), .d (i64 l.length), .d (i64 i)]++Zaq 88 .bad
def tmT2 (s:SideT) (d:Nat) (xs:List (List Dv)) (l:List UseT) (i:Int):List AV:=tmT s d (.own 61 4 xs)++Zaq 37 .bad++ [.d (.sl 4 (rowsU l)), .d (i64 l.length), .d (i64 i)]++Zaq 77 .bad
def tmT3 (s:SideT) (d:Nat) (i:Int):List AV:=tmT s d .bad++Zaq 77 .bad++ [.d (.sl 31 (rowsN s.ns)), .d (i64 s.ns.length), .d (i64 i)]++Zaq 37 .bad
def tmT4 (s:SideT) (d:Nat) (i:Int) (l:List GraT) (j:Int):List AV:=tmT s d .bad++Zaq 7 .bad++ [.ptr 3 0]++Zaq 69 .bad++ [.d (.sl 31 (rowsN s.ns)), .d (i64 s.ns.length), .d (i64 i)]++Zaq 11 .bad++ [.d (.sl 5 (rowsG l)), .d (i64 l.length), .d (i64 j)]++Zaq 23 .bad
section
variable (K:Exit→List AV→List Blk→PrsG→Prop)
theorem rT1 (s:SideT) (ly:LayT) (t:TabT) (d:Nat) (ts:Prs) (l:List AskT) (i:Int):wpc prog ⟨TTm,UTm,wlTm wlNil,fun _ _ _=>False,false⟩ 100 lpT1 (tmT1 s d l i) [layB ly,tabB t,resB] (some (d,ts)) (maskK 3 [5,6,10,11,13,43,44,45] K)=(BIf (decide (i<((Zaa l:Nat):Int))) (BIf (true&&decide (0≤i)) (∃(x0:Int) (x1:Int) (x2:Int),(rowsA l)[Zav i]? =some [i64 x0,i64 x1,i64 x2]∧108=108∧∃(d5:Nat) (ts6:Prs) (ts7:Prs) (k8:Int),some (d,ts)=some (d5,ts6)∧Zab (Zdc (Zbm (some d)))=Zab (Zdc (Zbm (some d5)))∧Zab (i64 x2)=Zab (i64 k8)∧Zab (bo true)=Zab (bo true)∧InI k8∧Zaa ts6<1000000∧ts7=putP k8 ts6∧K .normal (bds 5 (Zak 0 0::Zak 1 0::bds 3 (Zak 2 0::Zag (Qz2 s)::Zad::Zab (Zdc (Zbm (some d)))::bds 29 (Zab (Zaf 3 (rowsA l))::Zab (i64 ((Zaa l:Nat):Int))::Zab (i64 (Zae .i64 (i+1)))::bds 88 [])))) (Qz19 ly t) (some (d5,ts7))) False) (K (Zbv 0) (bds 5 (Zak 0 0::Zak 1 0::bds 3 (Zak 2 0::Zag (Qz2 s)::Zad::Zab (Zdc (Zbm (some d)))::bds 29 (Zab (Zaf 3 (rowsA l))::Zab (i64 ((Zaa l:Nat):Int))::Zab (i64 i)::bds 88 [])))) (Qz19 ly t) (some (d,ts)))):=by kernel_rfl
theorem rT2 (s:SideT) (ly:LayT) (t:TabT) (d:Nat) (ts:Prs) (xs:List (List Dv)) (l:List UseT) (i:Int):wpc prog ⟨TTm,UTm,wlTm wlNil,fun _ _ _=>False,false⟩ 100 lpT2 (tmT2 s d xs l i) [layB ly,tabB t,resB] (some (d,ts)) (maskK 3 [5,6,10,11,13,16,54,55,56] K)=(BIf (decide (i<((Zaa l:Nat):Int))) (BIf (true&&decide (0≤i)) (∃(x0:Int) (x1:Int) (x2:Int) (x3:Int),(rowsU l)[Zav i]? =some [i64 x0,i64 x1,i64 x2,i64 x3]∧108=108∧∃(d6:Nat) (ts7:Prs) (ts8:Prs) (k9:Int),some (d,ts)=some (d6,ts7)∧Zab (Zdc (Zbm (some d)))=Zab (Zdc (Zbm (some d6)))∧Zab (i64 x2)=Zab (i64 k9)∧Zab (bo true)=Zab (bo true)∧InI k9∧Zaa ts7<1000000∧ts8=putP k9 ts7∧∃(s10:SideT) (pe11:Int) (q12:NearT) (e13:Bool), [Zag (Qz2 s),Zab (i64 x2)]= [Zag (Qz2 s10),Zab (i64 pe11)]∧(Zaa (Zas s10)≤9223372036854775807∧q12=nearO (sFind s10 pe11)∧e13=Option.isSome (sFind s10 pe11))∧∃(s14:SideT) (n15:NearT) (q16:List GraT), [Zag (Qz2 s),Zao (Qz1 q12)]= [Zag (Qz2 s14),Zao (Qz1 n15)]∧(Zaa (Zbn n15)<1000000∧q16=ABj9 s14 n15)∧∃(l17:List GraT) (u18:UseT) (q19:Int), [Zab (Zaf 5 (rowsG q16)),Zat (Fn.func 55) [] [Zag [i64 x0,i64 x1,i64 x2,i64 x3]]]= [Zab (Zaf 5 (rowsG l17)),Zat (Fn.func 55) [] [Zag (Qz15 u18)]]∧(Zaa l17≤9223372036854775807∧q19=idxS (fun (x20:GraT)=>GraT.sl x20==UseT.sl u18&&GraT.of x20==UseT.of u18) l17)∧BIf (decide (q19≥(0:Int))) (BIf (true&&decide (0≤q19)) (∃(x21:Int) (x22:Int) (x23:Int) (x24:Int) (x25:Int),(rowsG q16)[Zav q19]? =some (Qz48 x21 x22 x23 x24 x25)∧BIf (true&&decide ((Zaa xs+1)*32≤140737488355328)) (K .normal (bds 5 (Zak 0 0::Zak 1 0::bds 3 (Zak 2 0::Zag (Qz2 s)::Zad::Zab (Zdc (Zbm (some d)))::Zad::Zad::AV.own 61 4 (xs++ [[i64 x0,i64 x1,i64 x2,i64 x24]])::bds 37 (Zab (Zaf 4 (rowsU l))::Zab (i64 ((Zaa l:Nat):Int))::Zab (i64 (Zae .i64 (i+1)))::bds 77 [])))) (Qz19 ly t) (some (d6,ts8))) False) False) (K .normal (bds 5 (Zak 0 0::Zak 1 0::bds 3 (Zak 2 0::Zag (Qz2 s)::Zad::Zab (Zdc (Zbm (some d)))::Zad::Zad::AV.own 61 4 xs::bds 37 (Zab (Zaf 4 (rowsU l))::Zab (i64 ((Zaa l:Nat):Int))::Zab (i64 (Zae .i64 (i+1)))::bds 77 [])))) (Qz19 ly t) (some (d6,ts8)))) False) (K (Zbv 2) (bds 5 (Zak 0 0::Zak 1 0::bds 3 (Zak 2 0::Zag (Qz2 s)::Zad::Zab (Zdc (Zbm (some d)))::Zad::Zad::AV.own 61 4 xs::bds 37 (Zab (Zaf 4 (rowsU l))::Zab (i64 ((Zaa l:Nat):Int))::Zab (i64 i)::bds 77 [])))) (Qz19 ly t) (some (d,ts)))):=by kernel_rfl
theorem rT4 (s:SideT) (ly:LayT) (t:TabT) (n:NearT) (d:Nat) (ts:Prs) (i:Int) (l:List GraT) (j:Int):wpc prog ⟨TTm,UTm,wlTm wlNil,fun _ _ _=>False,false⟩ 100 lpT4 (tmT4 s d i l j) [layB ly,tabB t,resB,nearB n] (some (d,ts)) (maskK 4 [5,6,10,11,13,24,94,95,96,108,109,110] K)=(BIf (decide (j<((Zaa l:Nat):Int))) (BIf (true&&decide (0≤j)) (∃(x0:Int) (x1:Int) (x2:Int) (x3:Int) (x4:Int),(rowsG l)[Zav j]? =some (Qz48 x0 x1 x2 x3 x4)∧∃(t7:TabT) (z8:TabT) (ly9:LayT) (u10:UseT) (e11:Int), [Zao (Qz3 t),Zao (Qz5 ly),Zao [Zab (i64 x0),Zab (i64 x1),Zab (i64 (NearT.fm n)),Zab (i64 x3)]]= [Zao (Qz3 t7),Zao (Qz5 ly9),Zao (Qz10 u10)]∧((Zaa (Zbj t7)<10000∧Zaa (Zbl t7)<10000∧Zaa (Zbo t7)<10000)∧z8=addSU t7 ly9 u10∧e11=refEU t7 ly9 u10)∧BIf (e11==(0:Int)) (K .normal (bds 5 (Zak 0 0::Zak 1 0::bds 3 (Zak 2 0::Zag (Qz2 s)::Zad::Zab (Zdc (Zbm (some d)))::bds 10 (Zak 3 0::bds 69 (Zab (Zaf 31 (rowsN (Zas s)))::Zab (i64 ((Zaa (Zas s):Nat):Int))::Zab (i64 i)::bds 11 (Zab (Zaf 5 (rowsG l))::Zab (i64 ((Zaa l:Nat):Int))::Zab (i64 (Zae .i64 (j+1)))::bds 23 [])))))) (Qz21 ly z8 n) (some (d,ts))) (K .normal (bds 5 (Zak 0 0::Zak 1 0::bds 3 (Zak 2 0::Zag (Qz2 s)::Zad::Zab (Zdc (Zbm (some d)))::bds 10 (Zak 3 0::bds 69 (Zab (Zaf 31 (rowsN (Zas s)))::Zab (i64 ((Zaa (Zas s):Nat):Int))::Zab (i64 i)::bds 11 (Zab (Zaf 5 (rowsG l))::Zab (i64 ((Zaa l:Nat):Int))::Zab (i64 (Zae .i64 (j+1)))::bds 23 [])))))) (Qz21 ly t n) (some (d,ts)))) False) (K (Zbv 6) (bds 5 (Zak 0 0::Zak 1 0::bds 3 (Zak 2 0::Zag (Qz2 s)::Zad::Zab (Zdc (Zbm (some d)))::bds 10 (Zak 3 0::bds 69 (Zab (Zaf 31 (rowsN (Zas s)))::Zab (i64 ((Zaa (Zas s):Nat):Int))::Zab (i64 i)::bds 11 (Zab (Zaf 5 (rowsG l))::Zab (i64 ((Zaa l:Nat):Int))::Zab (i64 j)::bds 23 [])))))) (Qz21 ly t n) (some (d,ts)))):=by kernel_rfl
end
theorem WR.scanB {α:Type} {P:Program} {Ev:Env P} {X:CX Ev.β} {lp:Code} {Q:Exit→St Ev.β→Prop} {k L:Nat} (keep:List Nat) (hm:P.follows .mixedOrders=true) (hX:X.Ok) (xs:List α) (tmOf:Nat→List AV) (hpOf:Nat→List Blk) (bOf:Nat→Ev.β) (hL:∀i,(hpOf i).length=L) (id:Nat)
   (hr:∀(i:Nat) (x:α),i<xs.length→xs[i]? =some x→∀K:Exit→List AV→List Blk→Ev.β→Prop,K .normal (tmOf (i+1)) (hpOf (i+1)) (bOf (i+1))→wpc P X k lp (tmOf i) (hpOf i) (bOf i) (maskK L keep K))
   (he:∀K:Exit→List AV→List Blk→Ev.β→Prop,K (.exit id) (tmOf xs.length) (hpOf xs.length) (bOf xs.length)→wpc P X k lp (tmOf xs.length) (hpOf xs.length) (bOf xs.length) (maskK L keep K))
   (h1:Q (.exit id) ⟨tmOf xs.length,hpOf xs.length,bOf xs.length⟩):
   ∀(m i:Nat),i+m=xs.length→WR Ev lp (m+1) ⟨tmOf i,hpOf i,bOf i⟩ Q
 | 0,i,hi=>by
   have e:i=xs.length:=by omega
   subst e
   exact WR.ofMask keep hm hX (k:=k) (by rw [hL];exact he _ h1)
 | m+1,i,hi=>by
   have hlt:i<xs.length:=by omega
   refine WR.ofMask keep hm hX (k:=k) (by
     rw [hL]
     refine hr i xs[i] hlt (Zba hlt) _ ?_
     exact WR.scanB keep hm hX xs tmOf hpOf bOf hL id hr he h1 m (i+1) (by omega))
def AGt9 {α:Type} (f:α→Int) (l:List α) (ts:Prs):Prs:=l.foldl (fun ts a=>putP (f a) ts) ts
theorem AHy9 {α:Type} (f:α→Int):∀(l:List α) (ts:Prs),(AGt9 f l ts).length≤ts.length+l.length
 | [],ts=>Zau _
 | a::l,ts=>by
   have:=AHy9 f l (putP (f a) ts)
   have h2:=BRh9 (f a) ts
   simp only [AGt9,List.foldl_cons,Zei] at this ⊢
   omega
theorem ANd9 {α:Type} (f:α→Int) {l:List α} {i:Nat} {a:α} (ts:Prs) (h:l[i]? =some a):AGt9 f (l.take (i+1)) ts=putP (f a) (AGt9 f (l.take i) ts):=AFq9 _ _ h
theorem ALf9 {α:Type} (f:α→Int) (k:Int):∀(l:List α) (ts:Prs),hasP k (AGt9 f l ts)=(l.any (fun a=>f a==k)||hasP k ts)
 | [],ts=>rfl
 | a::l,ts=>by
   have:=ALf9 f k l (putP (f a) ts)
   simp only [AGt9,List.foldl_cons,List.any_cons] at this ⊢
   rw [this,BRi9]
   cases f a==k<;>cases l.any (fun a=>f a==k)<;>simp
theorem ASy9 {N:Nat} {w0:World} {lent:List Nat}:∀c tm hp b K,wlNil c tm hp b K→W (EvP N w0 lent) c ⟨tm,hp,b⟩ (fun e s=>K e s.tm s.hp s.b):=fun _ _ _ _ _ h=>h.elim
def tkB (ly:LayT) (t:TabT):List Blk:= [layB ly,tabB t,resB]
theorem wrT1 {N:Nat} {w0:World} {lent:List Nat} {Q:Exit→St PrsG→Prop} (s:SideT) (ly:LayT) (t:TabT) (d:Nat) (ts:Prs) (l:List AskT) (hl:ts.length+l.length<1000000) (hk:∀a∈l,InI a.pe)
   (hQ:Q (.exit 0) ⟨tmT1 s d l l.length,tkB ly t,some (d,AGt9 (fun a:AskT=>a.pe) l ts)⟩):WR (EvP N w0 lent) lpT1 (l.length+1) ⟨tmT1 s d l (0:Nat),tkB ly t,some (d,ts)⟩ Q:=by
 refine WR.scanB (Ev:=EvP N w0 lent) (X:=⟨TTm,UTm,wlTm wlNil,fun _ _ _=>False,false⟩) (k:=100) (L:=3) [5,6,10,11,13,43,44,45] mixed (ANz9 ASy9) l (fun i=>tmT1 s d l (i:Nat)) (fun _=>tkB ly t) (fun i=>(some (d,AGt9 (fun a:AskT=>a.pe) (l.take i) ts):PrsG)) (fun _=>rfl) 0 (fun i a hi ha K k1=> ?_) (fun K k1=> ?_) (by rw [Zdx];exact hQ) l.length 0 (by omega)
 · simp only [ANd9 (fun a:AskT=>a.pe) ts ha] at k1
   have hlen:=AHy9 (fun a:AskT=>a.pe) (l.take i) ts
   rw [Zdb] at hlen
   refine Eq.mpr (rT1 K s ly t d _ l i) ?_
   refine Zbg (by simp;omega) (Zbg (natI i) ⟨_,_,_,ACr9 ha,rfl,d,_,_,a.pe,rfl,rfl,rfl,rfl,hk a (Zby ha),by omega,rfl, ?_⟩)
   rw [wrapN (by omega)]
   exact k1
 · refine Eq.mpr (rT1 K s ly t d _ l l.length) ?_
   exact Zdl (by simp) k1
def ACd9 (s:SideT) (u:UseT):List UseT:=match (ABj9 s (nearO (sFind s u.pe))).find? (fun x=>x.sl==u.sl&&x.of==u.of) with
 |some g=> [⟨u.sl,u.of,u.pe,g.st⟩]
 |none=> []
theorem AMx9 (s:SideT) (u:UseT):(ACd9 s u).length≤1:=by
 unfold ACd9
 split
 · exact Zau _
 · exact Nat.zero_le _
theorem ATy9 {α γ:Type} {f:α→List γ} (hf:∀x,(f x).length≤1):∀l:List α,(l.flatMap f).length≤l.length
 | []=>Zau _
 |x::r=>by have:=hf x;have:=ATy9 hf r;simp only [List.flatMap_cons,Zcr,Zei];omega
theorem BKy9 {α γ:Type} (f:α→List γ) {l:List α} {i:Nat} {a:α} (h:l[i]? =some a):(l.take (i+1)).flatMap f=(l.take i).flatMap f++f a:=by
 rw [List.take_add_one,h,List.flatMap_append];simp
theorem wrT2 {N:Nat} {w0:World} {lent:List Nat} {Q:Exit→St PrsG→Prop} (s:SideT) (ly:LayT) (t:TabT) (d:Nat) (ts:Prs) (l:List UseT) (hs:AGj9 s) (hl:ts.length+l.length<1000000) (hk:∀a∈l,InI a.pe)
   (hQ:Q (.exit 2) ⟨tmT2 s d (rowsU (l.flatMap (ACd9 s))) l l.length,tkB ly t,some (d,AGt9 (fun a:UseT=>a.pe) l ts)⟩):WR (EvP N w0 lent) lpT2 (l.length+1) ⟨tmT2 s d (rowsU []) l (0:Nat),tkB ly t,some (d,ts)⟩ Q:=by
 refine WR.scanB (Ev:=EvP N w0 lent) (X:=⟨TTm,UTm,wlTm wlNil,fun _ _ _=>False,false⟩) (k:=100) (L:=3) [5,6,10,11,13,16,54,55,56] mixed (ANz9 ASy9) l (fun i=>tmT2 s d (rowsU ((l.take i).flatMap (ACd9 s))) l (i:Nat)) (fun _=>tkB ly t) (fun i=>(some (d,AGt9 (fun a:UseT=>a.pe) (l.take i) ts):PrsG)) (fun _=>rfl) 2 (fun i u hi hu K k1=> ?_) (fun K k1=> ?_) (by rw [Zdx];exact hQ) l.length 0 (by omega)
 · simp only [ANd9 (fun a:UseT=>a.pe) ts hu,BKy9 (ACd9 s) hu] at k1
   have hlen:=AHy9 (fun a:UseT=>a.pe) (l.take i) ts
   have hfl:=ATy9 (AMx9 s) (l.take i)
   rw [Zdb] at hlen hfl
   have hn:=BDp9 hs u.pe
   refine Eq.mpr (rT2 K s ly t d _ _ l i) ?_
   have hgl:(ABj9 s (nearO (sFind s u.pe))).length<1000000:=Zev (Zdu _ _) hn.2.1
   refine Zbg (by simp;omega) (Zbg (natI i) ⟨_,_,_,_,AEl9 hu,rfl,d,_,_,u.pe,rfl,rfl,rfl,rfl,hk u (Zby hu),by omega,rfl,s,u.pe,_,_,rfl,⟨hs.1,rfl,rfl⟩,s,nearO (sFind s u.pe),_,rfl,⟨hn.2.1,rfl⟩,ABj9 s (nearO (sFind s u.pe)),u,_,rfl,⟨by omega,rfl⟩, ?_⟩)
   rw [wrapN (by omega)]
   rcases ALx9 (fun x:GraT=>x.sl==u.sl&&x.of==u.of) (ABj9 s (nearO (sFind s u.pe))) with ⟨h1,h2⟩|⟨j,x,h1,h2,h3,_⟩
   · rw [AAy9 h1]
     refine Zdl (by decide) ?_
     rw [ACd9,h2,List.append_nil] at k1
     exact k1
   · rw [AAg9 h1]
     rw [ACd9,h3] at k1
     refine Zbg (by simp) (Zbg (natI j) ⟨_,_,_,_,_,ADc9 h2,Zbg (by rw [AAi9,Bool.true_and];exact decide_eq_true (by omega)) ?_⟩)
     have e:rowsU ((l.take i).flatMap (ACd9 s)++ [⟨u.sl,u.of,u.pe,x.st⟩])=rowsU ((l.take i).flatMap (ACd9 s))++ [[i64 u.sl,i64 u.of,i64 u.pe,i64 x.st]]:=by simp [rowsU,useR]
     rw [e] at k1
     exact k1
 · refine Eq.mpr (rT2 K s ly t d _ _ l l.length) ?_
   exact Zdl (by simp) k1
def ACb9 (ly:LayT) (n:NearT) (t:TabT) (g:GraT):TabT:=if refEU t ly ⟨g.sl,g.of,n.fm,g.st⟩=0 then addSU t ly ⟨g.sl,g.of,n.fm,g.st⟩ else t
theorem BBy9 {ly:LayT} {n:NearT} {t:TabT} {g:GraT} (h:TabOk t):TabOk (ACb9 ly n t g):=by
 unfold ACb9
 split
 · rename_i h1;exact BVb9 h1
 · exact h
theorem ATi9 {ly:LayT} {n:NearT}:∀(l:List GraT) {t:TabT},TabOk t→TabOk (l.foldl (ACb9 ly n) t)
 | [],t,h=>h
 |a::l,t,h=>ATi9 l (BBy9 h)
theorem wrT4 {N:Nat} {w0:World} {lent:List Nat} {Q:Exit→St PrsG→Prop} (s:SideT) (ly:LayT) (t:TabT) (n:NearT) (d:Nat) (ts:Prs) (i:Int) (l:List GraT) (ht:TabOk t) (hl:l.length<1000000)
   (hQ:Q (.exit 6) ⟨tmT4 s d i l l.length,tkB ly (l.foldl (ACb9 ly n) t)++ [nearB n],some (d,ts)⟩):WR (EvP N w0 lent) lpT4 (l.length+1) ⟨tmT4 s d i l (0:Nat),tkB ly t++ [nearB n],some (d,ts)⟩ Q:=by
 refine WR.scanB (Ev:=EvP N w0 lent) (X:=⟨TTm,UTm,wlTm wlNil,fun _ _ _=>False,false⟩) (k:=100) (L:=4) [5,6,10,11,13,24,94,95,96,108,109,110] mixed (ANz9 ASy9) l (fun j=>tmT4 s d i l (j:Nat)) (fun j=>tkB ly ((l.take j).foldl (ACb9 ly n) t)++ [nearB n]) (fun i=>(some (d,ts):PrsG)) (fun _=>rfl) 6 (fun j g hj hg K k1=> ?_) (fun K k1=> ?_) (by rw [Zdx];exact hQ) l.length 0 (by omega)
 · have htj:TabOk ((l.take j).foldl (ACb9 ly n) t):=ATi9 _ ht
   rw [AFq9 _ _ hg] at k1
   generalize (l.take j).foldl (ACb9 ly n) t=tj at k1 htj ⊢
   refine Eq.mpr (rT4 K s ly tj n d ts i l j) ?_
   refine Zbg (by simp;omega) (Zbg (natI j) ⟨_,_,_,_,_,ADc9 hg,tj,_,ly,⟨g.sl,g.of,n.fm,g.st⟩,_,rfl,⟨htj,rfl,rfl⟩,Zbh (fun h3=> ?_) fun h3=> ?_⟩)
   · rw [wrapN (by omega)]
     have h3':refEU tj ly ⟨g.sl,g.of,n.fm,g.st⟩=0:=by simpa using h3
     rw [ACb9,if_pos h3'] at k1
     exact k1
   · rw [wrapN (by omega)]
     have h3':¬refEU tj ly ⟨g.sl,g.of,n.fm,g.st⟩=0:=by simpa using h3
     rw [ACb9,if_neg h3'] at k1
     exact k1
 · refine Eq.mpr (rT4 K s ly _ n d ts i l l.length) ?_
   exact Zdl (by simp) k1
def wlT4:WLT PrsG:=fun cd tm hp b K=>∃(s:SideT) (ly:LayT) (t q:TabT) (n:NearT) (d:Nat) (ts:Prs) (i:Int) (l:List GraT),cd= .loop lpT4∧ABd9 [5,6,10,11,13,24,94,95,96,108,109,110] 0 tm=tmT4 s d i l 0∧hp=tkB ly t++ [nearB n]∧b=some (d,ts)∧(TabOk t∧l.length<1000000∧q=l.foldl (ACb9 ly n) t)∧K (.exit 6) (tmT4 s d i l l.length) (tkB ly q++ [nearB n]) b
theorem BWo9 {N:Nat} {w0:World} {lent:List Nat} (c:Code) (tm:List AV) (hp:List Blk) (b:PrsG) (K:Exit→List AV→List Blk→PrsG→Prop) (h:wlT4 c tm hp b K):W (EvP N w0 lent) c ⟨tm,hp,b⟩ (fun e s=>K e s.tm s.hp s.b):=by
 obtain ⟨s,ly,t,_,n,d,ts,i,l,rfl,htm,rfl,rfl,⟨ht,hl,rfl⟩,hK⟩:=h
 refine W.cast (htm▸AAe9 _ tm 0) (Zce _) ?_
 exact W.rounds (wrT4 (Q:=fun e s=>K e s.tm s.hp s.b) s ly t n d ts i l ht hl hK)
section
variable (K:Exit→List AV→List Blk→PrsG→Prop)
theorem rT3 (s:SideT) (ly:LayT) (t:TabT) (d:Nat) (ts:Prs) (i:Int):wpc prog ⟨TTm,UTm,wlTm wlT4,fun _ _ _=>False,false⟩ 100 lpT3 (tmT3 s d i) [layB ly,tabB t,resB] (some (d,ts)) (maskK 3 [5,6,10,11,13,94,95,96] K)=(BIf (decide (i<((Zaa (Zas s):Nat):Int))) (BIf (true&&decide (0≤i)) (∃(x0:Int) (x1:Int) (x2:Int) (x3:Int) (x4:Int) (x5:Int) (x6:Int) (x7:Int) (x8:Int) (x9:Int) (x10:Int) (x11:Int) (xs12:List (List Dv)) (xs13:List (List Dv)) (xs14:List (List Dv)) (xs15:List (List Dv)) (b16:Bool) (xs17:List (List Dv)) (xs18:List (List Dv)) (xs19:List (List Dv)) (x20:Int) (x21:Int) (x22:Int) (x23:Int) (x24:Int) (x25:Int) (x26:Int) (x27:Int) (xs28:List (List Dv)) (xs29:List (List Dv)) (b30:Bool),(rowsN (Zas s))[Zav i]? =some [i64 x0,i64 x1,i64 x2,i64 x3,i64 x4,i64 x5,i64 x6,i64 x7,i64 x8,i64 x9,i64 x10,i64 x11,Zaf 4 xs12,Zaf 5 xs13,Zaf 3 xs14,Zaf 4 xs15,bo b16,Zaf 8 xs17,Zaf 8 xs18,Zaf 1 xs19,i64 x20,i64 x21,u64 x22,i64 x23,i64 x24,i64 x25,i64 x26,i64 x27,Zaf 1 xs28,Zaf 1 xs29,bo b30]∧108=108∧∃(d33:Nat) (ts34:Prs) (k35:Int) (v36:Bool),some (d,ts)=some (d33,ts34)∧Zab (Zdc (Zbm (some d)))=Zab (Zdc (Zbm (some d33)))∧Zab (i64 x1)=Zab (i64 k35)∧InI k35∧v36=hasP k35 ts34∧BIf (!v36) (K .normal (bds 5 (Zak 0 0::Zak 1 0::bds 3 (Zak 2 0::Zag (Qz2 s)::Zad::Zab (Zdc (Zbm (some d)))::bds 80 (Zab (Zaf 31 (rowsN (Zas s)))::Zab (i64 ((Zaa (Zas s):Nat):Int))::Zab (i64 (Zae .i64 (i+1)))::bds 37 [])))) (Qz19 ly t) (some (d,ts))) (∃(s37:SideT) (n38:NearT) (q39:List GraT), [Zag (Qz2 s),Zao [Zab (i64 x0),Zab (i64 x1),Zab (i64 x2),Zab (i64 x3),Zab (i64 x4),Zab (i64 x5),Zab (i64 x6),Zab (i64 x7),Zab (i64 x8),Zab (i64 x9),Zab (i64 x10),Zab (i64 x11),Zab (Zaf 4 xs12),Zab (Zaf 5 xs13),Zab (Zaf 3 xs14),Zab (Zaf 4 xs15),Zab (bo b16),Zab (Zaf 8 xs17),Zab (Zaf 8 xs18),Zab (Zaf 1 xs19),Zab (i64 x20),Zab (i64 x21),Zab (u64 x22),Zab (i64 x23),Zab (i64 x24),Zab (i64 x25),Zab (i64 x26),Zab (i64 x27),Zab (Zaf 1 xs28),Zab (Zaf 1 xs29),Zab (bo b30)]]= [Zag (Qz2 s37),Zao (Qz1 n38)]∧(Zaa (Zbn n38)<1000000∧q39=ABj9 s37 n38)∧∃(s40:SideT) (ly41:LayT) (t42:TabT) (q43:TabT) (n44:NearT) (d45:Nat) (ts46:Prs) (i47:Int) (l48:List GraT),Zaz lpT4=Zaz lpT4∧(bds 5 (Zak 0 0::Zak 1 0::bds 3 (Zak 2 0::Zag (Qz2 s)::Zad::Zab (Zdc (Zbm (some d)))::bds 10 (Zak 3 0::bds 69 (Zab (Zaf 31 (rowsN (Zas s)))::Zab (i64 ((Zaa (Zas s):Nat):Int))::Zab (i64 i)::bds 11 (Zab (Zaf 5 (rowsG q39))::Zab (i64 ((Zaa (rowsG q39):Nat):Int))::Zab (i64 0)::bds 23 []))))))=(bds 5 (Zak 0 0::Zak 1 0::bds 3 (Zak 2 0::Zag (Qz2 s40)::Zad::Zab (Zdc (Zbm (some d45)))::bds 10 (Zak 3 0::bds 69 (Zab (Zaf 31 (rowsN (Zas s40)))::Zab (i64 ((Zaa (Zas s40):Nat):Int))::Zab (i64 i47)::bds 11 (Zab (Zaf 5 (rowsG l48))::Zab (i64 ((Zaa l48:Nat):Int))::Zab (i64 0)::bds 23 []))))))∧ [Blk.mk (Qz5 ly) false false 0,Blk.mk (Qz3 t) false false 0,Blk.mk Qz6 false false 0,Blk.mk [Zab (i64 x0),Zab (i64 x1),Zab (i64 x2),Zab (i64 x3),Zab (i64 x4),Zab (i64 x5),Zab (i64 x6),Zab (i64 x7),Zab (i64 x8),Zab (i64 x9),Zab (i64 x10),Zab (i64 x11),Zab (Zaf 4 xs12),Zab (Zaf 5 xs13),Zab (Zaf 3 xs14),Zab (Zaf 4 xs15),Zab (bo b16),Zab (Zaf 8 xs17),Zab (Zaf 8 xs18),Zab (Zaf 1 xs19),Zab (i64 x20),Zab (i64 x21),Zab (u64 x22),Zab (i64 x23),Zab (i64 x24),Zab (i64 x25),Zab (i64 x26),Zab (i64 x27),Zab (Zaf 1 xs28),Zab (Zaf 1 xs29),Zab (bo b30)] false false 0]=(Qz21 ly41 t42 n44)∧some (d,ts)=some (d45,ts46)∧((Zaa (Zbj t42)<10000∧Zaa (Zbl t42)<10000∧Zaa (Zbo t42)<10000)∧Zaa l48<1000000∧q43=List.foldl (ACb9 ly41 n44) t42 l48)∧K .normal (bds 5 (Zak 0 0::Zak 1 0::bds 3 (Zak 2 0::Zag (Qz2 s40)::Zad::Zab (Zdc (Zbm (some d45)))::bds 80 (Zab (Zaf 31 (rowsN (Zas s40)))::Zab (i64 ((Zaa (Zas s40):Nat):Int))::Zab (i64 (Zae .i64 (i47+1)))::bds 37 [])))) (Qz19 ly41 q43) (some (d,ts)))) False) (K (Zbv 4) (bds 5 (Zak 0 0::Zak 1 0::bds 3 (Zak 2 0::Zag (Qz2 s)::Zad::Zab (Zdc (Zbm (some d)))::bds 80 (Zab (Zaf 31 (rowsN (Zas s)))::Zab (i64 ((Zaa (Zas s):Nat):Int))::Zab (i64 i)::bds 37 [])))) (Qz19 ly t) (some (d,ts)))):=by kernel_rfl
end
def takeN (s:SideT) (ly:LayT) (ts:Prs) (t:TabT) (n:NearT):TabT:=if hasP n.fm ts=true then (ABj9 s n).foldl (ACb9 ly n) t else t
theorem BQw9 {s:SideT} {ly:LayT} {ts:Prs} {t:TabT} {n:NearT} (h:TabOk t):TabOk (takeN s ly ts t n):=by
 unfold takeN
 split
 · exact ATi9 _ h
 · exact h
theorem AVf9 {s:SideT} {ly:LayT} {ts:Prs}:∀(l:List NearT) {t:TabT},TabOk t→TabOk (l.foldl (takeN s ly ts) t)
 | [],t,h=>h
 |a::l,t,h=>AVf9 l (BQw9 h)
theorem wrT3 {N:Nat} {w0:World} {lent:List Nat} {Q:Exit→St PrsG→Prop} (s:SideT) (ly:LayT) (t:TabT) (d:Nat) (ts:Prs) (hs:AGj9 s) (ht:TabOk t) (hl:s.ns.length<1000000) (hk:∀n∈s.ns,InI n.fm)
   (hQ:Q (.exit 4) ⟨tmT3 s d s.ns.length,tkB ly (s.ns.foldl (takeN s ly ts) t),some (d,ts)⟩):WR (EvP N w0 lent) lpT3 (s.ns.length+1) ⟨tmT3 s d (0:Nat),tkB ly t,some (d,ts)⟩ Q:=by
 refine WR.scanB (Ev:=EvP N w0 lent) (X:=⟨TTm,UTm,wlTm wlT4,fun _ _ _=>False,false⟩) (k:=100) (L:=3) [5,6,10,11,13,94,95,96] mixed (ANz9 BWo9) s.ns (fun i=>tmT3 s d (i:Nat)) (fun i=>tkB ly ((s.ns.take i).foldl (takeN s ly ts) t)) (fun i=>(some (d,ts):PrsG)) (fun _=>rfl) 4 (fun i n hi hn K k1=> ?_) (fun K k1=> ?_) (by rw [Zdx];exact hQ) s.ns.length 0 (by omega)
 · have hti:TabOk ((s.ns.take i).foldl (takeN s ly ts) t):=AVf9 _ ht
   rw [AFq9 _ _ hn] at k1
   generalize (s.ns.take i).foldl (takeN s ly ts) t=ti at k1 hti ⊢
   have hnl:=hs.2 n (Zby hn)
   refine Eq.mpr (rT3 K s ly ti d ts i) ?_
   refine Zbg (by simp;omega) (Zbg (natI i) ⟨_,_,_,_,_,_,_,_,_,_,_,_,_,_,_,_,_,_,_,_,_,_,_,_,_,_,_,_,_,_,_,AEm9 hn,rfl,d,ts,n.fm,_,rfl,rfl,rfl,hk n (Zby hn),rfl,Zbh (fun h1=> ?_) fun h1=> ?_⟩)
   · rw [wrapN (by omega)]
     rw [Zcq] at h1
     rw [takeN,h1,if_neg (by decide)] at k1
     exact k1
   · rw [Bool.not_eq_false'] at h1
     rw [takeN,h1,if_pos rfl] at k1
     have hgl:(ABj9 s n).length<1000000:=Zev (Zdu _ _) hnl.2.1
     refine ⟨s,n,_,rfl,⟨hnl.2.1,rfl⟩,s,ly,ti,_,n,d,ts,i,ABj9 s n,rfl, ?_,rfl,rfl,⟨hti,hgl,rfl⟩, ?_⟩
     · rw [AAh9]
     · rw [wrapN (by omega)]
       exact k1
 · refine Eq.mpr (rT3 K s ly _ d ts s.ns.length) ?_
   exact Zdl (by simp) k1
def wlTk1:WLT PrsG:=fun cd tm hp b K=>∃(s:SideT) (ly:LayT) (t:TabT) (d:Nat) (ts q:Prs) (l:List AskT),cd= .loop lpT1∧ABd9 [5,6,10,11,13,43,44,45] 0 tm=tmT1 s d l 0∧hp=tkB ly t∧b=some (d,ts)∧(ts.length+l.length<1000000∧(∀a∈l,InI a.pe)∧q=AGt9 (fun a:AskT=>a.pe) l ts)∧K (.exit 0) (tmT1 s d l l.length) (tkB ly t) (some (d,q))
def tmT2n (s:SideT) (d:Nat) (l:List UseT) (i:Int):List AV:=tmT s d (.d (.s (.slice none 0 0)))++Zaq 37 .bad++ [.d (.sl 4 (rowsU l)), .d (i64 l.length), .d (i64 i)]++Zaq 77 .bad
def wlTk2:WLT PrsG:=fun cd tm hp b K=>∃(s:SideT) (ly:LayT) (t:TabT) (d:Nat) (ts q:Prs) (l z:List UseT),cd= .loop lpT2∧ABd9 [5,6,10,11,13,16,54,55,56] 0 tm=tmT2n s d l 0∧hp=tkB ly t∧b=some (d,ts)∧(AGj9 s∧ts.length+l.length<1000000∧(∀a∈l,InI a.pe)∧q=AGt9 (fun a:UseT=>a.pe) l ts∧z=l.flatMap (ACd9 s))∧K (.exit 2) (tmT2 s d (rowsU z) l l.length) (tkB ly t) (some (d,q))
def wlTk3:WLT PrsG:=fun cd tm hp b K=>∃(s:SideT) (ly:LayT) (us:List UseT) (gs:List GraT) (ak:List AskT) (q:TabT) (d:Nat) (ts:Prs),cd= .loop lpT3∧ABd9 [5,6,10,11,13,94,95,96] 0 tm=tmT3 s d 0∧hp=tkB ly ⟨us,gs,ak⟩∧b=some (d,ts)∧(AGj9 s∧TabOk ⟨us,gs,ak⟩∧s.ns.length<1000000∧(∀n∈s.ns,InI n.fm)∧q=s.ns.foldl (takeN s ly ts) ⟨us,gs,ak⟩)∧K (.exit 4) (tmT3 s d s.ns.length) (tkB ly q) (some (d,ts))
def wlTk:WLT PrsG:=fun cd tm hp b K=>match cidO cd with
 |7=>wlTk1 cd tm hp b K
 |13=>wlTk2 cd tm hp b K
 |25=>wlTk3 cd tm hp b K
 |_=>False
theorem BWn9 {N:Nat} {w0:World} {lent:List Nat} (c:Code) (tm:List AV) (hp:List Blk) (b:PrsG) (K:Exit→List AV→List Blk→PrsG→Prop) (h:wlTk c tm hp b K):W (EvP N w0 lent) c ⟨tm,hp,b⟩ (fun e s=>K e s.tm s.hp s.b):=by
 unfold wlTk at h
 split at h
 · obtain ⟨s,ly,t,d,ts,_,l,rfl,htm,rfl,rfl,⟨hl,hk,rfl⟩,hK⟩:=h
   refine W.cast (htm▸AAe9 _ tm 0) (Zce _) ?_
   exact W.rounds (wrT1 (Q:=fun e s=>K e s.tm s.hp s.b) s ly t d ts l hl hk hK)
 · obtain ⟨s,ly,t,d,ts,_,l,_,rfl,htm,rfl,rfl,⟨hs,hl,hk,rfl,rfl⟩,hK⟩:=h
   refine W.cast (htm▸AAe9 _ tm 0) (Zce _) ?_
   refine W.cast (tm':=tmT2 s d (rowsU []) l 0) (LeL.at [_,_,_,_,_,_,_,_,_,_,_,_,_,_,_,_] _ (LeA.nilOwn rfl)) (Zce _) ?_
   exact W.rounds (wrT2 (Q:=fun e s=>K e s.tm s.hp s.b) s ly t d ts l hs hl hk hK)
 · obtain ⟨s,ly,us,gs,ak,_,d,ts,rfl,htm,rfl,rfl,⟨hs,ht,hl,hk,rfl⟩,hK⟩:=h
   refine W.cast (htm▸AAe9 _ tm 0) (Zce _) ?_
   exact W.rounds (wrT3 (Q:=fun e s=>K e s.tm s.hp s.b) s ly ⟨us,gs,ak⟩ d ts hs ht hl hk hK)
 · exact h.elim
section
variable (y:ACv9 PrsG) (R:AV→PrsG→Prop)
theorem BXl9 (ly:LayT) (t:TabT) (me:Int) (l:List NearT) (fr:Int):wpFn prog ⟨TTm,UTm,wlTm wlTk,y,false⟩ 100 f14 [layA ly,tabA t, .d (i64 me), .d (.sl 31 (rowsN l)), .d (i64 fr)] none R=(∃(ly0:LayT) (t1:TabT) (me2:Int) (l3:List NearT) (fr4:Int) (s5:SideT) (q6:Bool),(Qz17 ly t me l fr)=(Qz17 ly0 t1 me2 l3 fr4)∧((Zaa (Zbj t1)<10000∧Zaa (Zbl t1)<10000∧Zaa (Zbo t1)<10000)∧Zaa l3<1000000∧(∀(x:NearT),x∈l3→Zaa (Zbp x)<1000000∧Zaa (Zbn x)<1000000∧Zaa (Zcc x)<1000000)∧q6=newS ly0 t1 me2 l3 fr4∧s5=sideS ly0 me2 l3 fr4)∧BIf q6 (NoP none∧108=108∧∀(d:Nat),∃(s7:SideT) (ly8:LayT) (t9:TabT) (d10:Nat) (ts11:Prs) (q12:Prs) (l13:List AskT),Zaz lpT1=Zaz lpT1∧(bds 5 (Zak 0 0::Zak 1 0::bds 3 (Zak 2 0::Zag (Qz2 s5)::Zad::Zab (Zdc (Zbm (some d)))::bds 29 (Zab (Zaf 3 (rowsA (Zbo t)))::Zab (i64 ((Zaa (rowsA (Zbo t)):Nat):Int))::Zab (i64 0)::bds 88 []))))=(bds 5 (Zak 0 0::Zak 1 0::bds 3 (Zak 2 0::Zag (Qz2 s7)::Zad::Zab (Zdc (Zbm (some d10)))::bds 29 (Zab (Zaf 3 (rowsA l13))::Zab (i64 ((Zaa l13:Nat):Int))::Zab (i64 0)::bds 88 []))))∧(Qz19 ly t)=(Qz19 ly8 t9)∧some (d, [])=some (d10,ts11)∧(Zaa ts11+Zaa l13<1000000∧(∀(a:AskT),a∈l13→InI (AskT.pe a))∧q12=AGt9 (fun (a14:AskT)=>AskT.pe a14) l13 ts11)∧∃(s15:SideT) (ly16:LayT) (t17:TabT) (d18:Nat) (ts19:Prs) (q20:Prs) (l21:List UseT) (z22:List UseT),Zaz lpT2=Zaz lpT2∧(bds 5 (Zak 0 0::Zak 1 0::bds 3 (Zak 2 0::Zag (Qz2 s7)::Zad::Zab (Zdc (Zbm (some d10)))::Zad::Zad::Zab (Zdc (.slice none 0 0))::bds 37 (Zab (Zaf 4 (rowsU (Zbj t9)))::Zab (i64 ((Zaa (rowsU (Zbj t9)):Nat):Int))::Zab (i64 0)::bds 77 []))))=(bds 5 (Zak 0 0::Zak 1 0::bds 3 (Zak 2 0::Zag (Qz2 s15)::Zad::Zab (Zdc (Zbm (some d18)))::Zad::Zad::Zab (Zdc (.slice none 0 0))::bds 37 (Zab (Zaf 4 (rowsU l21))::Zab (i64 ((Zaa l21:Nat):Int))::Zab (i64 0)::bds 77 []))))∧(Qz19 ly8 t9)=(Qz19 ly16 t17)∧some (d10,q12)=some (d18,ts19)∧((Zaa (Zas s15)≤9223372036854775807∧∀(x:NearT),x∈Zas s15→Zaa (Zbp x)<1000000∧Zaa (Zbn x)<1000000∧Zaa (Zcc x)<1000000)∧Zaa ts19+Zaa l21<1000000∧(∀(a:UseT),a∈l21→InI (UseT.pe a))∧q20=AGt9 (fun (a23:UseT)=>UseT.pe a23) l21 ts19∧z22=List.flatMap (ACd9 s15) l21)∧∃(s24:SideT) (ly25:LayT) (us26:List UseT) (gs27:List GraT) (ak28:List AskT) (q29:TabT) (d30:Nat) (ts31:Prs),Zaz lpT3=Zaz lpT3∧(bds 5 (Zak 0 0::Zak 1 0::bds 3 (Zak 2 0::Zag (Qz2 s15)::Zad::Zab (Zdc (Zbm (some d18)))::bds 80 (Zab (Zaf 31 (rowsN (Zas s15)))::Zab (i64 ((Zaa (rowsN (Zas s15)):Nat):Int))::Zab (i64 0)::bds 37 []))))=(bds 5 (Zak 0 0::Zak 1 0::bds 3 (Zak 2 0::Zag (Qz2 s24)::Zad::Zab (Zdc (Zbm (some d30)))::bds 80 (Zab (Zaf 31 (rowsN (Zas s24)))::Zab (i64 ((Zaa (Zas s24):Nat):Int))::Zab (i64 0)::bds 37 []))))∧ [Blk.mk (Qz5 ly16) false false 0,Blk.mk [Zab (Zaf 4 (rowsU z22)),Zab (Zaf 5 (rowsG (Zbl t17))),Zab (Zaf 3 (rowsA (Zbo t17)))] false false 0,Blk.mk Qz6 false false 0]= [Blk.mk (Qz5 ly25) false false 0,Blk.mk [Zab (Zaf 4 (rowsU (Zbj (TabT.mk us26 gs27 ak28)))),Zab (Zaf 5 (rowsG (Zbl (TabT.mk us26 gs27 ak28)))),Zab (Zaf 3 (rowsA (Zbo (TabT.mk us26 gs27 ak28))))] false false 0,Blk.mk Qz6 false false 0]∧some (d18,q20)=some (d30,ts31)∧((Zaa (Zas s24)≤9223372036854775807∧∀(x:NearT),x∈Zas s24→Zaa (Zbp x)<1000000∧Zaa (Zbn x)<1000000∧Zaa (Zcc x)<1000000)∧(Zaa (Zbj (TabT.mk us26 gs27 ak28))<10000∧Zaa (Zbl (TabT.mk us26 gs27 ak28))<10000∧Zaa (Zbo (TabT.mk us26 gs27 ak28))<10000)∧Zaa (Zas s24)<1000000∧(∀(n:NearT),n∈Zas s24→InI (NearT.fm n))∧q29=List.foldl (takeN s24 ly25 ts31) (TabT.mk us26 gs27 ak28) (Zas s24))∧R (.agg (Qz3 q29)) (some (d30,ts31))) (R (.agg (Qz3 t)) none)):=by kernel_rfl
end
theorem AFy9 {α:Type} {ok:α→Bool} {sl:α→Int}:∀ {l:List α} {last:Int} {ts:Cnt},(ABa9 ok sl last l ts).1=true→(∀x∈l,ok x=true)∧(∀x∈l,last<sl x)∧l.Pairwise (fun a b=>sl a<sl b)
 | [],last,ts,h=>⟨by simp,by simp,List.Pairwise.nil⟩
 | x::r,last,ts,h=>by
   unfold ABa9 at h
   split at h
   · cases h
   · rename_i h1
     split at h
     · cases h
     · rename_i h2
       obtain ⟨a1,a2,a3⟩:=AFy9 h
       refine ⟨fun y hy=> ?_,fun y hy=> ?_,Zen.2 ⟨a2,a3⟩⟩
       · rcases Zbq.1 hy with rfl|hy
         · simpa using h1
         · exact a1 y hy
       · rcases Zbq.1 hy with rfl|hy
         · omega
         · have:=a2 y hy;omega
theorem AFw9 {t:TabT} {l:LayT} (h:ACy9 t l=true):((∀x∈t.us,useOk x l=true)∧t.us.Pairwise (fun a b=>a.sl<b.sl))∧((∀x∈t.gs,graOk x l=true)∧t.gs.Pairwise (fun a b=>a.sl<b.sl))∧((∀x∈t.ak,askOk x l=true)∧t.ak.Pairwise (fun a b=>a.sl<b.sl))∧
   okC (AEk9 l t.ak (ADa9 l t.gs (ABz9 l t.us []).2).2).2=true:=by
 unfold ACy9 at h
 split at h<;>try (cases h;done)
 split at h<;>try (cases h;done)
 split at h<;>try (cases h;done)
 split at h<;>try (cases h;done)
 split at h<;>try (cases h;done)
 split at h<;>try (cases h;done)
 split at h<;>try (cases h;done)
 rename_i h1
 split at h<;>try (cases h;done)
 rename_i h2
 split at h<;>try (cases h;done)
 rename_i h3
 simp only [Zcq,Bool.not_eq_false] at h1 h2 h3
 have a1:=AFy9 (α:=UseT) (show (ABa9 _ _ _ _ _).1=true from h1)
 have a2:=AFy9 (α:=GraT) (show (ABa9 _ _ _ _ _).1=true from h2)
 have a3:=AFy9 (α:=AskT) (show (ABa9 _ _ _ _ _).1=true from h3)
 exact ⟨⟨a1.1,a1.2.2⟩,⟨a2.1,a2.2.2⟩,⟨a3.1,a3.2.2⟩,h⟩
theorem AVr9 {sl of pe:Int} {l:LayT} (h:ABr9 sl of pe l=true) (hn:l.no≤60):InI pe:=by
 simp only [ABr9,Zaj,decide_eq_true_eq] at h
 exact ⟨by omega,by omega⟩
theorem BDo9 {ly:LayT} {me fr:Int} (hn:ly.no≤60):∀ {l:List NearT} {o:Option NearT},(ABe9 o l).any (badN ly me fr)=false→∀n∈l,0≤n.fm∧n.fm<ly.no∧n.fm≠me∧0≤n.fr∧n.fr≤fr
 | [],o,h,n,hm=>by cases hm
 | x::r,o,h,n,hm=>by
   simp only [ABe9,List.any_cons,Bool.or_eq_false_iff] at h
   obtain ⟨h1,h2⟩:=h
   rcases Zbq.1 hm with rfl|hm
   · simp only [badN,Bool.or_eq_false_iff,decide_eq_false_iff_not,beq_eq_false_iff_ne] at h1
     omega
   · exact BDo9 hn h2 n hm
def BJo9 (t:TabT):Prs:=AGt9 (fun a:UseT=>a.pe) t.us (AGt9 (fun a:AskT=>a.pe) t.ak [])
def takeS (ly:LayT) (t:TabT) (me:Int) (l:List NearT) (fr:Int):TabT:=
 if newS ly t me l fr=true then (sideS ly me l fr).ns.foldl (takeN (sideS ly me l fr) ly (BJo9 t)) ⟨t.us.flatMap (ACd9 (sideS ly me l fr)),t.gs,t.ak⟩ else t
theorem CDd9 (ly:LayT) (t:TabT) (me:Int) (l:List NearT) (fr:Int) (ht:TabOk t) (hl:l.length<1000000) (hx:∀x∈l,AFb9 x):
   PCall prog 14 [layA ly,tabA t, .d (i64 me), .d (.sl 31 (rowsN l)), .d (i64 fr)] (tabA (takeS ly t me l fr)):=by
 refine MCall.toP (f:=prF) (g:=none) rfl ?_
 have key:MCall prog prF 14 [layA ly,tabA t, .d (i64 me), .d (.sl 31 (rowsN l)), .d (i64 fr)] none fun x _=>x=tabA (takeS ly t me l fr):=by
   refine MCall.ofFn (n:=100) (u:=false) (wlTm wlTk) mixed BVf9 CBr9 (fun N w0=>BNh9 BWn9) func14 (by rfl) (by rfl) ?_
   rw [BXl9]
   refine ⟨ly,t,me,l,fr,_,_,rfl,⟨ht,hl,hx,rfl,rfl⟩,Zbh (fun h1=> ?_) fun h1=> ?_⟩
   · have hvt:=ADq9 h1
     have hv:=ABc9 hvt
     have hva:=AFw9 hvt
     have s2:=AOe9 (ly:=ly) (me:=me) (fr:=fr) hl hx
     have hnl:(sideS ly me l fr).ns.length<1000000:=by simpa [sideS] using hl
     have ha:∀a∈t.ak,InI a.pe:=fun a h=>AVr9 (show ABr9 a.sl a.of a.pe ly=true from hva.2.2.1.1 a h) hv.1.2
     have hu:∀u∈t.us,InI u.pe:=fun u h=>AVr9 (by have:=hva.1.1 u h;simp only [useOk,Zaj] at this;exact this.1) hv.1.2
     have hbad:(ABe9 none l).any (badN ly me fr)=false:=by
       rw [newS,Zaj,Zaj,Zaj,Zcq] at h1
       exact h1.2.2.2
     have hn:∀n∈(sideS ly me l fr).ns,InI n.fm:=fun n h=>by
       simp only [sideS,Zbb] at h
       obtain ⟨x,hx,rfl⟩:=h
       have:=BDo9 hv.1.2 hbad x hx
       exact ⟨by simp only [filN,toldN];omega,by simp only [filN,toldN];omega⟩
     have hfl:=ATy9 (AMx9 (sideS ly me l fr)) t.us
     have hp1:=AHy9 (fun a:AskT=>a.pe) t.ak []
     obtain ⟨t1,t2,t3⟩:=ht
     rw [List.length_nil] at hp1
     rw [takeS,if_pos h1]
     refine ⟨⟨rfl⟩,rfl,fun d=>⟨sideS ly me l fr,ly,t,d, [],_,t.ak,rfl, ?_,rfl,rfl,⟨by rw [List.length_nil];omega,ha,rfl⟩,sideS ly me l fr,ly,t,d,_,_,t.us,_,rfl, ?_,rfl,rfl,⟨s2,by omega,hu,rfl,rfl⟩,sideS ly me l fr,ly,t.us.flatMap (ACd9 (sideS ly me l fr)),t.gs,t.ak,_,d,_,rfl, ?_,rfl,rfl,⟨s2,⟨by simp only;omega,t2,t3⟩,hnl,hn,rfl⟩,rfl⟩⟩
     · rw [AAx9]
     · rw [AAi9]
     · rw [AFk9]
   · have h1':¬newS ly t me l fr=true:=by rw [h1];decide
     rw [takeS,if_neg h1']
     rfl
 exact key
def cTake (args:List AV) (K:AV→Prop):Prop:=∃(ly:LayT) (t q:TabT) (me:Int) (l:List NearT) (fr:Int),args= [layA ly,tabA t, .d (i64 me), .d (.sl 31 (rowsN l)), .d (i64 fr)]∧(TabOk t∧l.length<1000000∧(∀x∈l,AFb9 x)∧q=takeS ly t me l fr)∧K (tabA q)
theorem BFp9:∀args K,cTake args K→∃x,PCall prog 14 args x∧K x:=by
 rintro _ K ⟨ly,t,_,me,l,fr,rfl,⟨ht,hl,hx,rfl⟩,hk⟩;exact ⟨_,CDd9 ly t me l fr ht hl hx,hk⟩
noncomputable def lpTr:Code:=sub [1,1,2,3] (code f89)
def tmTr (s:SideT) (n i:Int):List AV:= [.yl, .rptr [.pt (sideD s)], .bad, .d (i64 n)]++Zaq 8 .bad++ [.d (i64 n), .d (i64 i)]++Zaq 36 .bad
theorem BQo9 (s:SideT):wpFn prog ⟨[], [],wl,y,false⟩ 100 f42 [.rptr (sideD s)] b R=(R (Zat (Fn.func 89) [] [Zag [Zdn [i64 (LayT.no (Zcn s)),i64 (Zds (Zcn s)),i64 (SideT.me s),Zaf 31 (rowsN (Zas s)),i64 (SideT.fr s)]]]) b):=by kernel_rfl
theorem rTr (s:SideT) (n i:Int):wpc prog ⟨[], [],wl,y,false⟩ 100 lpTr (tmTr s n i) [] b (maskK 0 [0,1,3,12,13] K)=(BIf (decide (i<n)) (BIf (decide (n=(0:Int))||false) False (BIf (decide (Zds (Zcn s)=(0:Int))||false) False (BIf (decide (Zds (Zcn s)=(0:Int))||false) False (y b [Zao [Zab (i64 (Int.tmod (Int.tmod (Zae .i64 (Zae .i64 (Zae .i64 ((17:Int)*SideT.me s)+Zae .i64 ((5:Int)*SideT.fr s))+i)) n) (Zds (Zcn s)))),Zab (i64 (Zae .i64 (Int.tdiv (Int.tmod (Zae .i64 (Zae .i64 (Zae .i64 ((17:Int)*SideT.me s)+Zae .i64 ((5:Int)*SideT.fr s))+i)) n) (Zds (Zcn s)))))]] fun (cont0:Bool) (b1:β)=>BIf (!cont0) (K .ret (AV.yl::Zag [Zdn (Qz2 s)]::Zad::Zab (i64 n)::bds 8 (Zab (i64 n)::Zab (i64 i)::bds 36 [])) [] b1) (K .normal (AV.yl::Zag [Zdn (Qz2 s)]::Zad::Zab (i64 n)::bds 8 (Zab (i64 n)::Zab (i64 (Zae .i64 (i+1)))::bds 36 [])) [] b1))))) (K (Zbv 0) (AV.yl::Zag [Zdn (Qz2 s)]::Zad::Zab (i64 n)::bds 8 (Zab (i64 n)::Zab (i64 i)::bds 36 [])) [] b)):=by kernel_rfl
theorem trH1 (s:SideT):wpc prog ⟨[], [],wl,y,false⟩ 100 (sub [0] (code f89)) (ACe9 f89 [.yl, .rptr [.pt (sideD s)]]) [] b K=(K .normal (AV.yl::Zag [Zdn (Qz2 s)]::Zad::Zab (i64 (Zae .i64 ((16:Int)*Zds (Zcn s))))::Zad::Zad::Zab (Zdn (Qz2 s))::Zab (Zdn (Qz2 s))::Zag (Qz2 s)::Zag [i64 (Zds (Zcn s)),i64 (SideT.me s),Zaf 31 (rowsN (Zas s)),i64 (SideT.fr s)]::Zab (i64 (Zds (Zcn s)))::Zab (i64 (Zae .i64 ((16:Int)*Zds (Zcn s))))::bds 38 []) [] b):=by kernel_rfl
theorem trH2 (s:SideT) (n:Int):wpc prog ⟨[], [],wl,y,false⟩ 100 (sub [1,0] (code f89)) ([.yl, .rptr [.pt (sideD s)], .bad, .d (i64 n)]++Zaq 46 .bad) [] b K=(K .normal (AV.yl::Zag [Zdn (Qz2 s)]::Zad::Zab (i64 n)::bds 8 (Zab (i64 n)::Zab (i64 0)::bds 36 [])) [] b):=by kernel_rfl
theorem BQq9:code f89= .seq (sub [0] (code f89)) (.seq (sub [1,0] (code f89)) (.block 0 (.loop lpTr))):=by kernel_rfl
def triC (s:SideT) (k:Int):Int:=Int.tmod (Zae Zay (Zae Zay (Zae Zay (17*s.me)+Zae Zay (5*s.fr))+k)) (Zae Zay (16*s.lay.da))
def triSl (s:SideT) (k:Int):Int:=Int.tmod (triC s k) s.lay.da
def triOf (s:SideT) (k:Int):Int:=Zae Zay (Int.tdiv (triC s k) s.lay.da)
def APu9 (s:SideT) (k:Nat):List AV:= [cellA (triSl s (k:Int)) (triOf s (k:Int))]
theorem wrTr {Ev:Env prog} {b0:Ev.β→Prop} (s:SideT) (hd:1≤s.lay.da∧s.lay.da≤60):∀(m k:Nat) (b:Ev.β),((k+m:Nat):Int)=16*s.lay.da→YList Ev.Y ((List.range' k m).map (APu9 s)) b b0→
   WR Ev lpTr (m+1) ⟨tmTr s (Zae Zay (16*s.lay.da)) (k:Nat), [],b⟩ (fun e s=>(e= .exit 0∨e= .ret)∧b0 s.b)
 | 0,k,b,hk,hY=>by
   refine WR.ofMask [0,1,3,12,13] mixed (CX.Ok.of (u:=false) Zal Zah) (k:=100) ?_
   refine Eq.mpr (rTr _ _ _ _ s _ k) ?_
   have e:Zae Zay (16*s.lay.da)=16*s.lay.da:=AAt9 (by omega) (by omega)
   rw [e]
   exact Zdl (by simp;omega) ⟨.inl rfl,hY⟩
 | m+1,k,b,hk,hY=>by
   refine WR.ofMask [0,1,3,12,13] mixed (CX.Ok.of (u:=false) Zal Zah) (k:=100) ?_
   refine Eq.mpr (rTr _ _ _ _ s _ k) ?_
   have e:Zae Zay (16*s.lay.da)=16*s.lay.da:=AAt9 (by omega) (by omega)
   simp only [List.range'_succ,Zdv,YList] at hY
   refine Zbg (by rw [e];simp;omega) (Zdl (by rw [e];simp;omega) (Zdl (by simp;omega) (Zdl (by simp;omega) ?_)))
   refine Ev.Ymono hY fun c b' h=> ?_
   cases c with
   |false=>exact ⟨.inr rfl,h⟩
   | true=>
     show WR Ev lpTr _ _ _
     have e2:Zae Zay ((k:Int)+1)=((k+1:Nat):Int):=wrapN (by omega)
     rw [e2]
     exact wrTr s hd m (k+1) b' (by omega) h
theorem icTr (s:SideT) (hd:1≤s.lay.da∧s.lay.da≤60) (m:Nat) (hm:(m:Int)=16*s.lay.da):ICall prog 89 [.yl, .rptr [.pt (sideD s)]] (fun Y b Q=>YList Y ((List.range' 0 m).map (APu9 s)) b Q):=by
 refine ICall.ofW (c:=code f89) func89 (by rfl) (by rfl) fun Ev b Q hQ=> ?_
 rw [BQq9]
 have e:Zae Zay (16*s.lay.da)=16*s.lay.da:=AAt9 (by omega) (by omega)
 have hX:CX.Ok Ev ⟨[], [],wlW Ev,Ev.Y,false⟩:=CX.Ok.of Zal Zah
 refine W.seq (AAu9 (X:=⟨[], [],wlW Ev,Ev.Y,false⟩) mixed hX (n:=100) ((trH1 ..).symm▸ ?_) (fun e tm hp b h=>h))
 refine W.cast (AAe9 [0,1,3] _ 0) (Zce _) ?_
 refine W.seq (AAu9 (X:=⟨[], [],wlW Ev,Ev.Y,false⟩) mixed hX (n:=100) ((trH2 (wlW Ev) Ev.Y b _ s (Zae Zay (16*s.lay.da))).symm▸ ?_) (fun e tm hp b h=>h))
 refine W.block (W.mono (W.rounds (wrTr (b0:=Q) s hd m 0 b (by omega) hQ)) fun e s h=> ?_)
 obtain ⟨rfl|rfl,h⟩:=h
 · exact ⟨.inr rfl, [],rfl,h⟩
 · exact ⟨.inl rfl, [],rfl,h⟩
theorem BYx9 (s:SideT):PCall prog 42 [.rptr (sideD s)] (.fn (.func 89) [] [.rptr [.pt (sideD s)]]):=by
 refine PCall.ofFn (n:=100) (u:=false) mixed Zal Zah func42 (by rfl) (by rfl) fun Ev bb=> ?_
 rw [BQo9];rfl
def CAy9 (args:List AV) (K:AV→Prop):Prop:=∃(s:SideT),args= [.rptr (sideD s)]∧K (.fn (.func 89) [] [.rptr [.pt (sideD s)]])
theorem BLy9:∀args K,CAy9 args K→∃x,PCall prog 42 args x∧K x:=by
 rintro _ K ⟨s,rfl,h⟩;exact ⟨_,BYx9 s,h⟩
def tblN (us:List UseT) (gs:List GraT):List Dv:= [.sl 4 (rowsU us), .sl 5 (rowsG gs), .s (.slice none 0 0)]
def TP1:List (Nat×(List AV→(AV→Prop)→Prop)):= [(39,semC BOk9)]
theorem CEo9:AAb9 prog TP1:=Zai (BXv9 BFw9) Zal
def posC (s:SideT) (us:List UseT) (gs:List GraT) (n:NearT):List Dv:= [.pt [.pt (sideD s)], .pt (tblN us gs), .pt (nearR n)]
abbrev Qz11 (v0:List UseT) (v1:List GraT):List AV:= [Zab (Zaf 4 (rowsU v0)),Zab (Zaf 5 (rowsG v1)),Zab (Zdc (.slice none 0 0))]
theorem BYu9 (s:SideT) (us:List UseT) (gs:List GraT) (n:NearT) (sl of:Int):wpFn prog ⟨TP1, [],wl,y,false⟩ 100 f38 [cellA sl of, .rptr [.pt (sideD s)], .rptr (tblN us gs), .rptr (nearR n)] b R=(∃(args0:List AV),SemVs [Zab (Zdn (Qz2 s)),Zao (Qz11 us gs),Zao (Qz1 n),Zao [Zab (i64 sl),Zab (i64 of)]] args0∧∃(s1:SideT) (t2:TabT) (n3:NearT) (sl4:Int) (of5:Int) (q6:Bool),args0= [Zag (Qz2 s1),Zao (Qz3 t2),Zao (Qz1 n3),Zao [Zab (i64 sl4),Zab (i64 of5)]]∧((Zaa (Zas s1)≤9223372036854775807∧(∀(x:NearT),x∈Zas s1→Zaa (Zbp x)≤9223372036854775807∧Zaa (Zbn x)≤9223372036854775807∧Zaa (Zcc x)≤9223372036854775807)∧layOk (Zcn s1)=true)∧(Zaa (Zbj t2)<10000∧Zaa (Zbl t2)<10000∧Zaa (Zbo t2)<10000)∧(Zaa (Zbp n3)<10000∧Zaa (Zbn n3)<10000)∧q6=possS s1 t2 n3 sl4 of5)∧R (.d (bo q6)) b):=by kernel_rfl
def AskOk (s:SideT) (us:List UseT) (gs:List GraT) (n:NearT):Prop:=AIz9 s∧(us.length<10000∧gs.length<10000)∧n.us.length<10000∧n.gs.length<10000
theorem CDi9 (s:SideT) (us:List UseT) (gs:List GraT) (n:NearT) (sl of:Int) (h:AskOk s us gs n):
   PCall prog 38 [cellA sl of, .rptr [.pt (sideD s)], .rptr (tblN us gs), .rptr (nearR n)] (.d (bo (possS s ⟨us,gs, []⟩ n sl of))):=by
 refine PCall.ofFn (n:=100) (u:=false) mixed CEo9 Zah func38 (by rfl) (by rfl) fun Ev bb=> ?_
 rw [BYu9]
 obtain ⟨h1,h2,h3⟩:=h
 have hle:LeV (Zao [Zab (Zaf 4 (rowsU us)),Zab (Zaf 5 (rowsG gs)),Zab (Zdc (Value.slice none 0 0))]) (tabA ⟨us,gs, []⟩):=
   LeV.aggs (.cons .rfl (.cons .rfl (.cons (.nil rfl) .nil)))
 have hpt:SemV (Zab (Zdn (sideD s))) (.rptr (sideD s)):=fun S w m yv v h=>RV.ofPt h
 exact ⟨[.rptr (sideD s),tabA ⟨us,gs, []⟩,nearA n,cellA sl of], .cons hpt (.cons (SemV.ofLeV hle) (.cons SemV.rfl (.cons SemV.rfl .nil))),s,⟨us,gs, []⟩,n,sl,of,_,rfl,⟨h1,⟨h2.1,h2.2,by simp⟩,h3,rfl⟩,rfl⟩
def cPos1 (args:List AV) (K:AV→Prop):Prop:=∃(s:SideT) (us:List UseT) (gs:List GraT) (n:NearT) (sl of:Int) (q:Bool),args= [cellA sl of, .rptr [.pt (sideD s)], .rptr (tblN us gs), .rptr (nearR n)]∧(AskOk s us gs n∧q=possS s ⟨us,gs, []⟩ n sl of)∧K (.d (bo q))
theorem AUc9:∀args K,cPos1 args K→∃x,PCall prog 38 args x∧K x:=by
 rintro _ K ⟨s,us,gs,n,sl,of,_,rfl,⟨h,rfl⟩,hk⟩;exact ⟨_,CDi9 s us gs n sl of h,hk⟩
def TP2:List (Nat×(List AV→(AV→Prop)→Prop)):= [(38,cPos1)]
theorem CEn9:AAb9 prog TP2:=Zai AUc9 Zal
abbrev Qz4 (v0:NearT):= [i64 (NearT.fr v0),i64 (NearT.fm v0),i64 (NearT.x2 v0),i64 (NearT.x3 v0),i64 (NearT.x4 v0),i64 (NearT.x5 v0),i64 (NearT.x6 v0),i64 (NearT.x7 v0),i64 (NearT.x8 v0),i64 (NearT.x9 v0),i64 (NearT.x10 v0),i64 (NearT.x11 v0),Zaf 4 (rowsU (Zbp v0)),Zaf 5 (rowsG (Zbn v0)),Zaf 3 (rowsA (Zcc v0)),Zaf 4 (NearT.s15 v0),bo (NearT.b16 v0),Zaf 8 (NearT.s17 v0),Zaf 8 (NearT.s18 v0),Zaf 1 (NearT.s19 v0),i64 (NearT.x20 v0),i64 (NearT.x21 v0),u64 (NearT.x22 v0),i64 (NearT.x23 v0),i64 (NearT.x24 v0),i64 (NearT.x25 v0),i64 (NearT.x26 v0),i64 (NearT.x27 v0),Zaf 1 (NearT.s28 v0),Zaf 1 (NearT.s29 v0),bo (NearT.b30 v0)]
abbrev Qz20 (v0:Int) (v1:Int) (v2:SideT) (v3:List UseT) (v4:List GraT) (v5:NearT):List AV:= [Zao [Zab (i64 v0),Zab (i64 v1)],Zag [Zdn (Qz2 v2)],Zag [Zaf 4 (rowsU v3),Zaf 5 (rowsG v4),Zdc (.slice none 0 0)],Zag (Qz4 v5)]
theorem BYt9 (s:SideT) (us:List UseT) (gs:List GraT) (n:NearT) (x:AskT) (pe:Int):wpFn prog ⟨TP2, [],wl,y,false⟩ 100 f41 [askA x, .rptr [i64 pe], .rptr [.fn (.func 38) (posC s us gs n)]] b R=(BIf (AskT.pe x==pe) (∃(s0:SideT) (us1:List UseT) (gs2:List GraT) (n3:NearT) (sl4:Int) (of5:Int) (q6:Bool), [Zao [Zab (i64 (Zde x)),Zab (i64 (AskT.of x))],Zag [Zdn (Qz2 s)],Zag [Zaf 4 (rowsU us),Zaf 5 (rowsG gs),Zdc (.slice none 0 0)],Zag (Qz4 n)]=(Qz20 sl4 of5 s0 us1 gs2 n3)∧(((Zaa (Zas s0)≤9223372036854775807∧(∀(x:NearT),x∈Zas s0→Zaa (Zbp x)≤9223372036854775807∧Zaa (Zbn x)≤9223372036854775807∧Zaa (Zcc x)≤9223372036854775807)∧layOk (Zcn s0)=true)∧(Zaa us1<10000∧Zaa gs2<10000)∧Zaa (Zbp n3)<10000∧Zaa (Zbn n3)<10000)∧q6=possS s0 (TabT.mk us1 gs2 []) n3 sl4 of5)∧R (.d (bo q6)) b) (R (.d (bo false)) b)):=by kernel_rfl
def keepA (s:SideT) (us:List UseT) (gs:List GraT) (n:NearT) (pe:Int) (x:AskT):Bool:=x.pe==pe&&possS s ⟨us,gs, []⟩ n x.sl x.of
theorem CDh9 (s:SideT) (us:List UseT) (gs:List GraT) (n:NearT) (x:AskT) (pe:Int) (h:AskOk s us gs n):
   PCall prog 41 [askA x, .rptr [i64 pe], .rptr [.fn (.func 38) (posC s us gs n)]] (.d (bo (keepA s us gs n pe x))):=by
 refine PCall.ofFn (n:=100) (u:=false) mixed CEn9 Zah func41 (by rfl) (by rfl) fun Ev bb=> ?_
 rw [BYt9]
 refine Zbh (fun h1=>⟨s,us,gs,n,x.sl,x.of,_,rfl,⟨h,rfl⟩, ?_⟩) fun h1=> ?_
 · rw [keepA,show (x.pe==pe)=true from h1];rfl
 · rw [keepA,show (x.pe==pe)=false from h1];rfl
def cPos2 (args:List AV) (K:AV→Prop):Prop:=∃(s:SideT) (us:List UseT) (gs:List GraT) (n:NearT) (x:AskT) (pe:Int) (q:Bool),args= [askA x, .rptr [i64 pe], .rptr [.fn (.func 38) (posC s us gs n)]]∧(AskOk s us gs n∧q=keepA s us gs n pe x)∧K (.d (bo q))
theorem BUn9:∀args K,cPos2 args K→∃x,PCall prog 41 args x∧K x:=by
 rintro _ K ⟨s,us,gs,n,x,pe,_,rfl,⟨h,rfl⟩,hk⟩;exact ⟨_,CDh9 s us gs n x pe h,hk⟩
noncomputable def lpOA:Code:=sub [1,1,0,1,2,3] (code f40)
def fnOA (s:SideT) (us:List UseT) (gs:List GraT) (n:NearT) (pe:Int):AV:= .fn (.func 41) [] [.rptr [i64 pe], .rptr [.fn (.func 38) (posC s us gs n)]]
def tmOA (f x:AV) (l:List AskT) (i:Int):List AV:= [.bad,f, .bad, .bad, .bad,x, .bad, .bad, .d (.sl 3 (rowsA l)), .d (i64 l.length), .d (i64 i)]++Zaq 12 .bad
def TOA:List (Nat×(List AV→(AV→Prop)→Prop)):= [(41,cPos2)]
theorem BMw9:AAb9 prog TOA:=Zai BUn9 Zal
abbrev Qz12 (v0:SideT) (v1:List UseT) (v2:List GraT) (v3:NearT):= [Zdn [Zdn (Qz2 v0)],Zdn [Zaf 4 (rowsU v1),Zaf 5 (rowsG v2),Zdc (.slice none 0 0)],Zdn (Qz4 v3)]
theorem rOA0 (s:SideT) (us:List UseT) (gs:List GraT) (n:NearT) (pe:Int) (l:List AskT) (i:Int):wpc prog ⟨TOA,GCA,wl,y,false⟩ 100 lpOA (tmOA (fnOA s us gs n pe) (.d (.s (.slice none 0 0))) l i) [] b (maskT [1,5,8,9,10] K)=(BIf (decide (i<((Zaa l:Nat):Int))) (BIf (true&&decide (0≤i)) (∃(x0:Int) (x1:Int) (x2:Int),(rowsA l)[Zav i]? =some [i64 x0,i64 x1,i64 x2]∧∃(s5:SideT) (us6:List UseT) (gs7:List GraT) (n8:NearT) (x9:AskT) (pe10:Int) (q11:Bool), [Zao (Qz27 x0 x1 x2),Zag [i64 pe],Zag [Zco (Fn.func 38) (Qz12 s us gs n)]]= [Zao (Qz13 x9),Zag [i64 pe10],Zag [Zco (Fn.func 38) (Qz12 s5 us6 gs7 n8)]]∧(((Zaa (Zas s5)≤9223372036854775807∧(∀(x:NearT),x∈Zas s5→Zaa (Zbp x)≤9223372036854775807∧Zaa (Zbn x)≤9223372036854775807∧Zaa (Zcc x)≤9223372036854775807)∧layOk (Zcn s5)=true)∧(Zaa us6<10000∧Zaa gs7<10000)∧Zaa (Zbp n8)<10000∧Zaa (Zbn n8)<10000)∧q11=keepA s5 us6 gs7 n8 pe10 x9)∧BIf q11 (K .normal (Zad::Zat (Fn.func 41) [] [Zag [i64 pe],Zag [Zco (Fn.func 38) (Qz12 s us gs n)]]::bds 3 (Zbu 1 0 1 3::Zad::Zad::Zab (Zaf 3 (rowsA l))::Zab (i64 ((Zaa l:Nat):Int))::Zab (i64 (Zae .i64 (i+1)))::bds 12 [])) [Blk.mk (Qz27 x0 x1 x2) false false 0,Blk.mk (Qz27 x0 x1 x2) false true 0] b) (K .normal (Zad::Zat (Fn.func 41) [] [Zag [i64 pe],Zag [Zco (Fn.func 38) (Qz12 s us gs n)]]::bds 3 (Zab (Zdc (.slice none 0 0))::Zad::Zad::Zab (Zaf 3 (rowsA l))::Zab (i64 ((Zaa l:Nat):Int))::Zab (i64 (Zae .i64 (i+1)))::bds 12 [])) [Blk.mk (Qz27 x0 x1 x2) false false 0] b)) False) (K (Zbv 0) (Zad::Zat (Fn.func 41) [] [Zag [i64 pe],Zag [Zco (Fn.func 38) (Qz12 s us gs n)]]::bds 3 (Zab (Zdc (.slice none 0 0))::Zad::Zad::Zab (Zaf 3 (rowsA l))::Zab (i64 ((Zaa l:Nat):Int))::Zab (i64 i)::bds 12 [])) [] b)):=by kernel_rfl
theorem rOAn (s:SideT) (us:List UseT) (gs:List GraT) (n:NearT) (pe:Int) (l:List AskT) (i:Int):wpc prog ⟨TOA,GCA,wl,y,false⟩ 100 lpOA (tmOA (fnOA s us gs n pe) (.d (.s (.slice none 0 0))) l i) [] b (maskK 0 [1,5,8,9,10] K)=(BIf (decide (i<((Zaa l:Nat):Int))) (BIf (true&&decide (0≤i)) (∃(x0:Int) (x1:Int) (x2:Int),(rowsA l)[Zav i]? =some [i64 x0,i64 x1,i64 x2]∧∃(s5:SideT) (us6:List UseT) (gs7:List GraT) (n8:NearT) (x9:AskT) (pe10:Int) (q11:Bool), [Zao (Qz27 x0 x1 x2),Zag [i64 pe],Zag [Zco (Fn.func 38) (Qz12 s us gs n)]]= [Zao (Qz13 x9),Zag [i64 pe10],Zag [Zco (Fn.func 38) (Qz12 s5 us6 gs7 n8)]]∧(((Zaa (Zas s5)≤9223372036854775807∧(∀(x:NearT),x∈Zas s5→Zaa (Zbp x)≤9223372036854775807∧Zaa (Zbn x)≤9223372036854775807∧Zaa (Zcc x)≤9223372036854775807)∧layOk (Zcn s5)=true)∧(Zaa us6<10000∧Zaa gs7<10000)∧Zaa (Zbp n8)<10000∧Zaa (Zbn n8)<10000)∧q11=keepA s5 us6 gs7 n8 pe10 x9)∧BIf q11 (K .normal (Zad::Zat (Fn.func 41) [] [Zag [i64 pe],Zag [Zco (Fn.func 38) (Qz12 s us gs n)]]::bds 6 (Zab (Zaf 3 (rowsA l))::Zab (i64 ((Zaa l:Nat):Int))::Zab (i64 (Zae .i64 (i+1)))::bds 12 [])) [] b) (K .normal (Zad::Zat (Fn.func 41) [] [Zag [i64 pe],Zag [Zco (Fn.func 38) (Qz12 s us gs n)]]::bds 3 (Zab (Zdc (.slice none 0 0))::Zad::Zad::Zab (Zaf 3 (rowsA l))::Zab (i64 ((Zaa l:Nat):Int))::Zab (i64 (Zae .i64 (i+1)))::bds 12 [])) [] b)) False) (K (Zbv 0) (Zad::Zat (Fn.func 41) [] [Zag [i64 pe],Zag [Zco (Fn.func 38) (Qz12 s us gs n)]]::bds 3 (Zab (Zdc (.slice none 0 0))::Zad::Zad::Zab (Zaf 3 (rowsA l))::Zab (i64 ((Zaa l:Nat):Int))::Zab (i64 i)::bds 12 [])) [] b)):=by kernel_rfl
theorem rOA1 (s:SideT) (us:List UseT) (gs:List GraT) (n:NearT) (pe:Int) (l:List AskT) (i:Int) (v m:Nat) (c0 cs:List AV):wpc prog ⟨TOA,GCA,wl,y,false⟩ 100 lpOA (tmOA (fnOA s us gs n pe) (.gref 1 v m 3) l i) [junkB c0,growB v cs] b (maskK 2 [1,5,8,9,10] K)=(BIf (decide (i<((Zaa l:Nat):Int))) (BIf (true&&decide (0≤i)) (∃(x0:Int) (x1:Int) (x2:Int),(rowsA l)[Zav i]? =some [i64 x0,i64 x1,i64 x2]∧∃(s5:SideT) (us6:List UseT) (gs7:List GraT) (n8:NearT) (x9:AskT) (pe10:Int) (q11:Bool), [Zao (Qz27 x0 x1 x2),Zag [i64 pe],Zag [Zco (Fn.func 38) (Qz12 s us gs n)]]= [Zao (Qz13 x9),Zag [i64 pe10],Zag [Zco (Fn.func 38) (Qz12 s5 us6 gs7 n8)]]∧(((Zaa (Zas s5)≤9223372036854775807∧(∀(x:NearT),x∈Zas s5→Zaa (Zbp x)≤9223372036854775807∧Zaa (Zbn x)≤9223372036854775807∧Zaa (Zcc x)≤9223372036854775807)∧layOk (Zcn s5)=true)∧(Zaa us6<10000∧Zaa gs7<10000)∧Zaa (Zbp n8)<10000∧Zaa (Zbn n8)<10000)∧q11=keepA s5 us6 gs7 n8 pe10 x9)∧BIf q11 (v=v∧BIf (decide ((m+1)*24≤140737488355328)) (BIf (Zcb [Blk.mk c0 false false 0,Blk.mk (cs++(Qz27 x0 x1 x2)) false true (v+1)] fun (blk12:Blk)=>lows 2 blk12.1) (K .normal (Zad::Zat (Fn.func 41) [] [Zag [i64 pe],Zag [Zco (Fn.func 38) (Qz12 s us gs n)]]::bds 3 (Zbu 1 (v+1) (m+1) 3::Zad::Zad::Zab (Zaf 3 (rowsA l))::Zab (i64 ((Zaa l:Nat):Int))::Zab (i64 (Zae .i64 (i+1)))::bds 12 [])) [Blk.mk c0 false false 0,Blk.mk (cs++(Qz27 x0 x1 x2)) false true (v+1)] b) False) False) (BIf (Zcb [Blk.mk c0 false false 0,Blk.mk cs false true v] fun (blk13:Blk)=>lows 2 blk13.1) (K .normal (Zad::Zat (Fn.func 41) [] [Zag [i64 pe],Zag [Zco (Fn.func 38) (Qz12 s us gs n)]]::bds 3 (Zbu 1 v m 3::Zad::Zad::Zab (Zaf 3 (rowsA l))::Zab (i64 ((Zaa l:Nat):Int))::Zab (i64 (Zae .i64 (i+1)))::bds 12 [])) [Blk.mk c0 false false 0,Blk.mk cs false true v] b) False)) False) (BIf (Zcb [Blk.mk c0 false false 0,Blk.mk cs false true v] fun (blk14:Blk)=>lows 2 blk14.1) (K (Zbv 0) (Zad::Zat (Fn.func 41) [] [Zag [i64 pe],Zag [Zco (Fn.func 38) (Qz12 s us gs n)]]::bds 3 (Zbu 1 v m 3::Zad::Zad::Zab (Zaf 3 (rowsA l))::Zab (i64 ((Zaa l:Nat):Int))::Zab (i64 i)::bds 12 [])) [Blk.mk c0 false false 0,Blk.mk cs false true v] b) False)):=by kernel_rfl
def junk3:Blk:=⟨[.bad, .bad, .bad],false,false,0⟩
def oaA (q:List AskT):AV:=if q.isEmpty then .d (.s (.slice none 0 0)) else .gref 1 (q.length - 1) q.length 3
def oaB (q:List AskT):List Blk:=if q.isEmpty then [] else [junk3,growB (q.length - 1) (flatA (rowsA q))]
theorem APa9 {α:Type} (p:α→Bool) {l:List α} {i:Nat} {a:α} (h:l[i]? =some a):(l.take (i+1)).filter p=(l.take i).filter p++(if p a=true then [a] else []):=by
 rw [List.take_add_one,h,List.filter_append]
 simp only [Option.toList_some,List.filter_cons,List.filter_nil]
theorem wrOA1 {Ev:Env prog} {b:Ev.β} {Q:Exit→St Ev.β→Prop} (s:SideT) (us:List UseT) (gs:List GraT) (n:NearT) (pe:Int) (l:List AskT) (h:AskOk s us gs n) (hl:l.length<1000000) (j0:Nat) (hj0:(l.take j0).filter (keepA s us gs n pe)≠ []) (hj:j0≤l.length)
   (hQ:Q (.exit 0) ⟨tmOA (fnOA s us gs n pe) (.gref 1 ((l.filter (keepA s us gs n pe)).length - 1) (l.filter (keepA s us gs n pe)).length 3) l l.length, [junk3,growB ((l.filter (keepA s us gs n pe)).length - 1) (flatA (rowsA (l.filter (keepA s us gs n pe))))],b⟩):
   WR Ev lpOA (l.length - j0+1) ⟨tmOA (fnOA s us gs n pe) (.gref 1 (((l.take j0).filter (keepA s us gs n pe)).length - 1) ((l.take j0).filter (keepA s us gs n pe)).length 3) l (j0:Nat), [junk3,growB (((l.take j0).filter (keepA s us gs n pe)).length - 1) (flatA (rowsA ((l.take j0).filter (keepA s us gs n pe))))],b⟩ Q:=by
 have low:∀(v:Nat) (z:List AskT),Zcb [junk3,growB v (flatA (rowsA z))] (fun blk=>lows 2 blk.1)=true:=fun v z=>by
   simp only [List.all_cons,List.all_nil,Bool.and_true,Zaj]
   exact ⟨rfl,ACt9 2 _⟩
 have hne:∀j,j0≤j→0<((l.take j).filter (keepA s us gs n pe)).length:=fun j hj=>by
   have h1:(l.take j0).Sublist (l.take j):=by rw [←Nat.min_eq_left hj,←List.take_take];exact List.take_sublist _ _
   have h2:=(h1.filter (keepA s us gs n pe)).length_le
   have h3:=List.length_pos_iff.2 hj0
   omega
 refine WR.scanG (X:=⟨TOA,GCA,wlW Ev,Ev.Y,false⟩) (k:=100) (L:=2) [1,5,8,9,10] mixed (CX.Ok.of BMw9 AUx9) l (fun _=>false) (fun j=>tmOA (fnOA s us gs n pe) (.gref 1 (((l.take j).filter (keepA s us gs n pe)).length - 1) ((l.take j).filter (keepA s us gs n pe)).length 3) l (j:Nat)) (fun j=> [junk3,growB (((l.take j).filter (keepA s us gs n pe)).length - 1) (flatA (rowsA ((l.take j).filter (keepA s us gs n pe))))]) (fun _=>rfl) 0 j0 (fun j a hsj hjl ha K _ k2=> ?_) (fun K k1=> ?_) (fun _=>by rw [Zdx];exact hQ) (fun h=>by simp at h) (l.length - j0) j0 (by omega) (Zau _) rfl
 · have hk:=k2 rfl
   have hpos:=hne j hsj
   have hle:((l.take j).filter (keepA s us gs n pe)).length≤j:=Nat.le_trans (Zdu _ _) (List.length_take_le _ _)
   rw [APa9 _ ha] at hk
   generalize (l.take j).filter (keepA s us gs n pe)=z at hk hpos hle ⊢
   refine Eq.mpr (rOA1 _ _ _ K s us gs n pe l j (z.length - 1) z.length [.bad, .bad, .bad] _) ?_
   refine Zbg (by simp;omega) (Zbg (natI j) ⟨_,_,_,ACr9 ha,s,us,gs,n,a,pe,_,rfl,⟨h,rfl⟩,Zbh (fun h1=>⟨rfl,Zbg (by simp;omega) ?_⟩) fun h1=> ?_⟩)
   · rw [if_pos h1] at hk
     have e:flatA (rowsA (z++ [a]))=flatA (rowsA z)++ [Zab (i64 a.sl),Zab (i64 a.of),Zab (i64 a.pe)]:=by
       have f:∀l:List AskT,flatA (rowsA l)=flatA (l.map askR):=fun _=>rfl
       rw [f,f,ATz9];rfl
     have el:(z++ [a]).length=z.length+1:=by simp
     have ev:z.length+1 - 1=z.length - 1+1:=by omega
     have hl2:=low (z.length - 1+1) (z++ [a])
     rw [e] at hl2
     rw [el,ev,e] at hk
     rw [wrapN (by omega)]
     exact Zbg hl2 hk
   · have h1':¬keepA s us gs n pe a=true:=by rw [h1];decide
     rw [if_neg h1',List.append_nil] at hk
     rw [wrapN (by omega)]
     exact Zbg (low _ z) hk
 · refine Eq.mpr (rOA1 _ _ _ K s us gs n pe l l.length _ _ [.bad, .bad, .bad] _) ?_
   exact Zdl (by simp) (Zbg (low _ _) k1)
theorem wrOA {Ev:Env prog} {b:Ev.β} {Q:Exit→St Ev.β→Prop} (s:SideT) (us:List UseT) (gs:List GraT) (n:NearT) (pe:Int) (l:List AskT) (h:AskOk s us gs n) (hl:l.length<1000000)
   (hQ:Q (.exit 0) ⟨tmOA (fnOA s us gs n pe) (oaA (l.filter (keepA s us gs n pe))) l l.length,oaB (l.filter (keepA s us gs n pe)),b⟩):
   ∀(m i:Nat),i+m=l.length→(l.take i).filter (keepA s us gs n pe)= []→WR Ev lpOA (m+1) ⟨tmOA (fnOA s us gs n pe) (.d (.s (.slice none 0 0))) l (i:Nat), [],b⟩ Q
 | 0,i,hi,hf=>by
   have e:i=l.length:=by omega
   subst e
   rw [Zdx] at hf
   rw [hf] at hQ
   refine WR.ofMask (X:=⟨TOA,GCA,wlW Ev,Ev.Y,false⟩) (k:=100) [1,5,8,9,10] mixed (CX.Ok.of BMw9 AUx9) ?_
   refine Eq.mpr (rOAn _ _ _ _ s us gs n pe l l.length) ?_
   exact Zdl (by simp) hQ
 | m+1,i,hi,hf=>by
   have hil:i<l.length:=by omega
   have ha:l[i]? =some l[i]:=Zba hil
   cases hk:keepA s us gs n pe l[i] with
   | false=>
     refine WR.ofMask (X:=⟨TOA,GCA,wlW Ev,Ev.Y,false⟩) (k:=100) [1,5,8,9,10] mixed (CX.Ok.of BMw9 AUx9) ?_
     refine Eq.mpr (rOAn _ _ _ _ s us gs n pe l i) ?_
     refine Zbg (by simp;omega) (Zbg (natI i) ⟨_,_,_,ACr9 ha,s,us,gs,n,l[i],pe,_,rfl,⟨h,rfl⟩,Zdl hk ?_⟩)
     rw [wrapN (by omega)]
     exact wrOA s us gs n pe l h hl hQ m (i+1) (by omega) (by rw [APa9 _ ha,hf,hk];rfl)
   | true=>
     have hf1:(l.take (i+1)).filter (keepA s us gs n pe)= [l[i]]:=by rw [APa9 _ ha,hf,hk];rfl
     have hfl:l.filter (keepA s us gs n pe)≠ []:=fun e=>by
       have:l[i]∈l.filter (keepA s us gs n pe):=Zch.2 ⟨List.getElem_mem hil,hk⟩
       rw [e] at this;cases this
     have h1:=wrOA1 (Q:=Q) (b:=b) s us gs n pe l h hl (i+1) (by rw [hf1];simp) (by omega) (by
       have e:(l.filter (keepA s us gs n pe)).isEmpty=false:=by simpa using hfl
       rw [oaA,oaB,e] at hQ
       exact hQ)
     rw [hf1,show l.length - (i+1)=m by omega] at h1
     refine WR.ofMaskT (X:=⟨TOA,GCA,wlW Ev,Ev.Y,false⟩) (k:=100) [1,5,8,9,10] mixed (CX.Ok.of BMw9 AUx9) ?_
     refine Eq.mpr (rOA0 _ _ _ _ s us gs n pe l i) ?_
     refine Zbg (by simp;omega) (Zbg (natI i) ⟨_,_,_,ACr9 ha,s,us,gs,n,l[i],pe,_,rfl,⟨h,rfl⟩,Zbg hk ?_⟩)
     rw [wrapN (by omega)]
     exact WR.cast (LeL.refl _) (LeH.at [] [_] (.cons .bad (.cons .bad (.cons .bad .nil)))) h1
def wlOA {β:Type}:WLT β:=fun cd tm hp b K=>∃(s:SideT) (us:List UseT) (gs:List GraT) (n:NearT) (pe:Int) (l q:List AskT),cd= .loop lpOA∧ABd9 [1,5,8,9,10] 0 tm=tmOA (fnOA s us gs n pe) (.d (.s (.slice none 0 0))) l 0∧hp= []∧(AskOk s us gs n∧l.length<1000000∧q=l.filter (keepA s us gs n pe))∧BIf q.isEmpty (K (.exit 0) (tmOA (fnOA s us gs n pe) (.d (.s (.slice none 0 0))) l l.length) [] b) (K (.exit 0) (tmOA (fnOA s us gs n pe) (.gref 1 (q.length - 1) q.length 3) l l.length) [junk3,growB (q.length - 1) (flatA (rowsA q))] b)
theorem BWu9 {Ev:Env prog} (c:Code) (tm:List AV) (hp:List Blk) (b:Ev.β) (K:Exit→List AV→List Blk→Ev.β→Prop) (h:wlOA c tm hp b K):W Ev c ⟨tm,hp,b⟩ (fun e s=>K e s.tm s.hp s.b):=by
 obtain ⟨s,us,gs,n,pe,l,q,rfl,htm,rfl,⟨h,hl,rfl⟩,hK⟩:=h
 refine W.cast (htm▸AAe9 _ tm 0) (Zce _) ?_
 refine W.rounds (wrOA (Q:=fun e s=>K e s.tm s.hp s.b) s us gs n pe l h hl ?_ l.length 0 (by omega) rfl)
 rw [oaA,oaB]
 cases he:(l.filter (keepA s us gs n pe)).isEmpty with
 |true=>rw [he] at hK;exact hK
 |false=>rw [he] at hK;exact hK
theorem BSl9 (s:SideT) (us:List UseT) (gs:List GraT) (n:NearT) (pe:Int) (l:List AskT):wpFnS prog ⟨[], [],wlOA,y,false⟩ 100 f40 [.d (.sl 3 (rowsA l)),fnOA s us gs n pe] b Kr=(∃(s0:SideT) (us1:List UseT) (gs2:List GraT) (n3:NearT) (pe4:Int) (l5:List AskT) (q6:List AskT),Zaz lpOA=Zaz lpOA∧(Zad::Zat (Fn.func 41) [] [Zag [i64 pe],Zag [Zco (Fn.func 38) (Qz12 s us gs n)]]::bds 3 (Zab (Zdc (.slice none 0 0))::Zad::Zad::Zab (Zaf 3 (rowsA l))::Zab (i64 ((Zaa (rowsA l):Nat):Int))::Zab (i64 0)::bds 12 []))=(Zad::Zat (Fn.func 41) [] [Zag [i64 pe4],Zag [Zco (Fn.func 38) (Qz12 s0 us1 gs2 n3)]]::bds 3 (Zab (Zdc (.slice none 0 0))::Zad::Zad::Zab (Zaf 3 (rowsA l5))::Zab (i64 ((Zaa l5:Nat):Int))::Zab (i64 0)::bds 12 []))∧([]:List Blk)= []∧(((Zaa (Zas s0)≤9223372036854775807∧(∀(x:NearT),x∈Zas s0→Zaa (Zbp x)≤9223372036854775807∧Zaa (Zbn x)≤9223372036854775807∧Zaa (Zcc x)≤9223372036854775807)∧layOk (Zcn s0)=true)∧(Zaa us1<10000∧Zaa gs2<10000)∧Zaa (Zbp n3)<10000∧Zaa (Zbn n3)<10000)∧Zaa l5<1000000∧q6=List.filter (keepA s0 us1 gs2 n3 pe4) l5)∧BIf (List.isEmpty q6) (Kr (Zab (Zdc (.slice none 0 0))) [] b) (Kr (Zbu 1 (Zaa q6 - 1) (Zaa q6) 3) [Blk.mk [bad,bad,bad] false false 0,Blk.mk (flatA (rowsA q6)) false true (Zaa q6 - 1)] b)):=by kernel_rfl
def freeA:AV→Bool
 | .d (.s _)=>true
 | .gref .. =>true
 | .bad=>true
 |_=>false
theorem RV.free {S S':Pr} {w:World} {m:List MB} {yv:Option Nat} {x:AV} {v:Value} (hx:freeA x=true) (h:RV S w m yv x v):RV S' w m yv x v:=by
 cases h with
 | d h=>cases h with
   |s v=>exact .d (.s v)
   |sl=>cases hx
   |nil=>cases hx
   |pt=>cases hx
   |fn=>cases hx
 |gref h hv h1 hc=>exact .gref h hv h1 hc
 |bad=>exact .bad
 |_=>cases hx
theorem BKf9 {x:AV} {v:Value} (hx:freeA x=true):ownB (x,v)=none:=by
 cases x<;>first|rfl|cases hx
theorem FCall.lendS {P:Program} {f:Nat} {args args':List AV} {r:AV} {hp hp1:List Blk} (h:FCall P f args' r hp1) (hl':args.length=args'.length)
   (hs:∀(i:Nat) (c y:AV),args[i]? =some c→args'[i]? =some y→SealD hp c y) (hr:freeA r.view=true) (hc:∀blk∈hp1,blk.fro=false∧∀c∈blk.cells,freeA c=true):
   SCall P f args hp (shift hp.length r) (hp++AFz9 hp.length hp1):=by
 refine ⟨h.1,fun S X yv w m B hv vs hl hrel=> ?_⟩
 have hr0:Rel S X yv w m (B++AAa9 hp hv) hp hv:=hrel.sub (List.sublist_append_right _ _)
 have hargs:∀(i:Nat) (x:AV) (v:Value),args'[i]? =some x→vs[i]? =some v→RV (AAv9 S m) w [] none x v:=by
   intro i x v h1 h2
   have hi:i<args.length:=by rw [hl'];exact (List.getElem?_eq_some_iff.1 h1).1
   have h3:args[i]? =some args[i]:=by simp [hi]
   have hm:(args[i],v)∈args.zip vs:=List.mem_iff_getElem?.2 ⟨i,by rw [List.getElem?_zip_eq_some];exact ⟨h3,h2⟩⟩
   exact ADb9 (B:=B) hr0 (fun _ _ h=> .inl h) (hs i _ _ h3 h1) (fun g _ p hp i hi=> .inr ⟨g,p,hp,rfl,hi⟩) (hrel.rv _ (List.mem_append_left _ hm))
 have hlt:∀b i,AAv9 S m b i→b<w.heap.size:=by
   rintro b i (hb|⟨g,p,hg,rfl,hi⟩)
   · exact hrel.lt b i (.inl hb)
   · exact hrel.mLt p (Zby hg)
 have hgl:Glob (AAv9 S m) w:=fun g j v hv=>by
   obtain ⟨h1,h2,h3⟩:=hrel.gl g j v hv
   exact ⟨.inl h1,h2,h3⟩
 refine CallsIn.mono (h.2 (AAv9 S m) w vs (by rw [←hl',hl]) hargs hlt hgl) ?_
 rintro e w' ⟨v,S0,m1,hv1,rfl,hb,h1,h2,h3,h4⟩
 have hup:∀b i,S b i→(fun b i=>S b i∨(w.heap.size≤b∧S0 b i)) b i:=fun b i h=> .inl h
 have hnew:∀b i,(fun b i=>S b i∨(w.heap.size≤b∧S0 b i)) b i→S b i∨(w.heap.size≤b∧b<w'.heap.size):=fun b i h=>h.imp id fun h=>⟨h.1,h4.lt b i (.inl h.2)⟩
 have hr1:=hr0.below hb hup hnew
 have hA:∀p∈(r.view,v)::AAa9 hp1 hv1,freeA p.1=true:=by
   intro p hp
   rcases Zbq.1 hp with rfl|hp
   · exact hr
   · simp only [AAa9,List.mem_flatMap] at hp
     obtain ⟨q,hq,hpq⟩:=hp
     exact (hc q.1 (List.of_mem_zip hq).1).2 p.1 (List.of_mem_zip hpq).1
 have hno:∀p∈(r.view,v)::AAa9 hp1 hv1,ownB p=none:=fun p hp=>BKf9 (v:=p.2) (hA p hp)
 have h4':Rel (fun b i=>S b i∨(w.heap.size≤b∧S0 b i)) (fun b _=>b<w.heap.size) none w' m1 ((r.view,v)::AAa9 hp1 hv1) hp1 hv1:=by
   refine ⟨fun b i h=> ?_,fun p hp=>(h4.rv p hp).free (hA p hp),h4.pw,h4.nm,fun p hp b hbb=> ?_,h4.mnd,h4.ml,h4.hl,fun g blk p us e1 e2 e3=> ?_,hr1.gl⟩
   · rcases h with (h|h)|h
     · exact hr1.lt b i (.inl (.inl h))
     · exact h4.lt b i (.inl h.2)
     · exact h4.lt b i (.inr h)
   · rw [hno p hp] at hbb;cases hbb
   · obtain ⟨a1,a2,a3,a4,a5,a6,a9,a10⟩:=h4.bl g blk p us e1 e2 e3
     have hf:=(hc blk (Zby e1)).1
     have hpb:=h3 p (Zby e2)
     refine ⟨a1,a2,a3,a4,a5,a6,fun _ i=>⟨fun hS=> ?_,(a9 hf i).2⟩,fun h=>by rw [hf] at h;cases h⟩
     rcases hS with hS|hS
     · have:=hrel.lt p.b i (.inl hS);omega
     · exact (a9 hf i).1 hS.2
 have hM:=hr1.merge h4' (fun b i hx=>hrel.lt b i (.inr hx)) hrel.mLt h3 hr0.ownLt
 refine ⟨v,_,m++m1,hv++hv1,rfl,⟨AAj9 hb _,hup,fun b i hs=>(hnew b i hs).imp id fun hh hx=>by have:=hrel.lt b i (.inr hx);omega,fun g q hq=> .inl (by rw [List.getElem?_append_left (List.getElem?_eq_some_iff.1 hq).1];exact hq)⟩, ?_⟩
 rw [←hrel.ml,APr9]
 refine hM.perm ?_
 rw [Zdv,←AEo9,AJi9 hrel.hl]
 simp only
 refine (List.perm_middle).trans (List.Perm.cons _ ?_)
 rw [List.append_assoc]
theorem fcOA (s:SideT) (us:List UseT) (gs:List GraT) (n:NearT) (pe:Int) (l:List AskT) (h:AskOk s us gs n) (hl:l.length<1000000):
   FCall prog 40 [.d (.sl 3 (rowsA l)),fnOA s us gs n pe] (oaA (l.filter (keepA s us gs n pe))) (oaB (l.filter (keepA s us gs n pe))):=by
 refine FCall.ofFnW (n:=100) (u:=false) (fun _=>wlOA) mixed Zal Zah (fun Ev=>BWu9) func40 (by rfl) (by rfl) (by unfold oaB;split<;>rfl) fun Ev bb=> ?_
 rw [BSl9,AAx9]
 refine ⟨s,us,gs,n,pe,l,_,rfl,rfl,rfl,⟨h,hl,rfl⟩, ?_⟩
 rw [oaA,oaB]
 cases he:(l.filter (keepA s us gs n pe)).isEmpty with
 |true=>exact ⟨rfl,rfl⟩
 |false=>exact ⟨rfl,rfl⟩
def sOA (args:List AV) (hp:List Blk) (K:AV→List Blk→Prop):Prop:=AGa9 hp 200 args fun args'=>∃(s:SideT) (us:List UseT) (gs:List GraT) (n:NearT) (pe:Int) (l q:List AskT),args'= [.d (.sl 3 (rowsA l)),fnOA s us gs n pe]∧(AskOk s us gs n∧l.length<1000000∧q=l.filter (keepA s us gs n pe))∧
 BIf q.isEmpty (K (.d (.s (.slice none 0 0))) hp) (K (.gref (hp.length+1) (q.length - 1) q.length 3) (hp++ [junk3,growB (q.length - 1) (flatA (rowsA q))]))
theorem CCy9:∀args hp K,sOA args hp K→∃x hp',SCall prog 40 args hp x hp'∧K x hp':=by
 intro args hp K h
 obtain ⟨args',hl,hs,s,us,gs,n,pe,l,_,rfl,⟨ha,hll,rfl⟩,hK⟩:=ABu9 h
 have h1:=(fcOA s us gs n pe l ha hll).lendS (hp:=hp) hl hs (by unfold oaA;split<;>rfl) (by
   intro blk hb
   unfold oaB at hb
   split at hb
   · cases hb
   · rcases Zbq.1 hb with rfl|hb
     · exact ⟨rfl,by simp [junk3,freeA]⟩
     · rcases Zbq.1 hb with rfl|hb
       · refine ⟨rfl,fun c hc=> ?_⟩
         simp only [growB,flatA,Zbb,List.mem_flatten,rowsA] at hc
         obtain ⟨d,⟨row,⟨a,_,rfl⟩,hd⟩,rfl⟩:=hc
         simp only [askR,Zbq,List.not_mem_nil,or_false] at hd
         rcases hd with rfl|rfl|rfl<;>rfl
       · cases hb)
 refine ⟨_,_,h1, ?_⟩
 cases he:(l.filter (keepA s us gs n pe)).isEmpty with
 | true=>
   rw [he] at hK
   rw [oaA,oaB,he]
   simp only [if_true,shift,AFz9,List.map_nil,List.append_nil]
   exact hK
 | false=>
   rw [he] at hK
   rw [oaA,oaB,he]
   simp only [Bool.false_eq_true,if_false,shift,AFz9,Zdv,List.map_nil,AQi9,junk3,growB,AHc9,AJk9]
   exact hK
theorem BRt9 (sl of:Int):PCall prog 43 [.d (.s (.slice none 0 0)), .fn (.func 44) [] [.rptr [i64 sl,i64 of]]] (.d (bo false)):=by
 obtain ⟨x,hx,hk⟩:=ANo9 [.d (.sl 3 (rowsA [])), .fn (.func 44) [] [.rptr [i64 sl,i64 of]]] (fun x=>x= .d (bo false)) ⟨[],sl,of,_,rfl,⟨by simp,rfl⟩,rfl⟩
 subst hk
 exact hx.semArgs (.cons (SemV.ofLeV (.nil rfl)) (.cons SemV.rfl .nil))
def BOp9 (args:List AV) (K:AV→Prop):Prop:=∃(sl of:Int),args= [.d (.s (.slice none 0 0)), .fn (.func 44) [] [.rptr [i64 sl,i64 of]]]∧K (.d (bo false))
theorem BGm9:∀args K,BOp9 args K→∃x,PCall prog 43 args x∧K x:=by
 rintro _ K ⟨sl,of,rfl,hk⟩;exact ⟨_,BRt9 sl of,hk⟩
noncomputable def rfAk:Code:=sub [1,1,1,1,1,1,1,1,1,1,0,1,2] (code f12)
theorem AQo9:rfAk= .rangeFunc (.tmp 63) #[64] (AGi9 rfAk) (ASf9 rfAk):=by kernel_rfl
def tmAk (s:SideT) (k:Nat):List AV:=Zaq 8 .bad++ [.ptr 1 0, .bad, .bad, .ptr 2 0, .ptr 3 0, .bad, .ptr 4 0, .bad, .bad, .bad, .bad, .bad, .ptr 7 0, .ptr k 0]++Zaq 41 .bad++ [.fn (.func 89) [] [.rptr [.pt (sideD s)]]]++Zaq 25 .bad
def tbB (us:List UseT) (gs:List GraT):Blk:=⟨(tblN us gs).map .d,false,false,0⟩
def akB (ly:LayT) (us:List UseT) (gs:List GraT) (pe many:Int) (s:SideT) (n:NearT):List Blk:= [layB ly,tbB us gs,boxA (.d (i64 pe)),boxA (.d (i64 many)),resB,boxA (.rptr (sideD s)),nearB n,boxA (.fn (.func 38) [] [.ptr 5 0, .ptr 1 0, .ptr 6 0])]
def UAkN:List (Nat×(List AV→List Blk→(AV→List Blk→Prop)→Prop)):= [(38,lendC cPos1),(43,lendC BOp9),(1000063,fun _ _ _=>False)]
theorem BHu9:AAk9 prog UAkN:=Zbw (AFl9 AUc9) (Zbw (AFl9 BGm9) AUx9)
def UAk:List (Nat×(List AV→List Blk→(AV→List Blk→Prop)→Prop)):= [(38,lendC cPos1),(43,lendC BGl9),(1000063,fun _ _ _=>False)]
theorem CBx9:AAk9 prog UAk:=Zbw (AFl9 AUc9) (Zbw (AFl9 ANo9) AUx9)
def hpN (ly:LayT) (us:List UseT) (gs:List GraT) (pe many:Int) (s:SideT) (n:NearT):List Blk:=akB ly us gs pe many s n++ [boxA (.d (.s (.slice none 0 0)))]
def hpBc (ly:LayT) (us:List UseT) (gs:List GraT) (pe many:Int) (s:SideT) (n:NearT) (v m:Nat) (c0 cs:List AV):List Blk:=akB ly us gs pe many s n++ [boxA (.gref 10 v m 3),junkB c0,growB v cs]
def hpAc (ly:LayT) (us:List UseT) (gs:List GraT) (pe many:Int) (s:SideT) (n:NearT) (v m:Nat) (cs:List AV):List Blk:=akB ly us gs pe many s n++ [junk3,growB v cs,boxA (.gref 9 v m 3)]
theorem rAkN (ly:LayT) (us:List UseT) (gs:List GraT) (pe many:Int) (s:SideT) (n:NearT) (sl of:Int):wpcY prog ⟨[],UAkN,wl,y,false⟩ 100 #[64] (AGi9 rfAk) (ASf9 rfAk) (tmAk s 8) [cellA sl of] (hpN ly us gs pe many s n) b (takeK 9 Kh)=(BIf (decide ((0:Int)≥many)) (Kh (Zbv 0) [Blk.mk (Qz5 ly) false false 0,Blk.mk (Qz11 us gs) false false 0,cell (i64 pe),cell (i64 many),Blk.mk Qz6 false false 0,Blk.mk [Zag (Qz2 s)] false false 0,Blk.mk (Qz1 n) false false 0,Blk.mk [Zat (Fn.func 38) [] [Zak 5 0,Zak 1 0,Zak 6 0]] false false 0,cell (Zdc (.slice none 0 0))] b) (∃(s0:SideT) (us1:List UseT) (gs2:List GraT) (n3:NearT) (sl4:Int) (of5:Int) (q6:Bool),(Qz20 sl of s us gs n)=(Qz20 sl4 of5 s0 us1 gs2 n3)∧(((Zaa (Zas s0)≤9223372036854775807∧(∀(x:NearT),x∈Zas s0→Zaa (Zbp x)≤9223372036854775807∧Zaa (Zbn x)≤9223372036854775807∧Zaa (Zcc x)≤9223372036854775807)∧layOk (Zcn s0)=true)∧(Zaa us1<10000∧Zaa gs2<10000)∧Zaa (Zbp n3)<10000∧Zaa (Zbn n3)<10000)∧q6=possS s0 (TabT.mk us1 gs2 []) n3 sl4 of5)∧BIf q6 (∃(sl7:Int) (of8:Int), [Zab (Zdc (.slice none 0 0)),Zat (Fn.func 44) [] [Zag [i64 sl,i64 of]]]= [Zab (Zdc (.slice none 0 0)),Zat (Fn.func 44) [] [Zag [i64 sl7,i64 of8]]]∧False) (Kh Zfo [Blk.mk (Qz5 ly) false false 0,Blk.mk (Qz11 us gs) false false 0,cell (i64 pe),cell (i64 many),Blk.mk Qz6 false false 0,Blk.mk [Zag (Qz2 s)] false false 0,Blk.mk (Qz1 n) false false 0,Blk.mk [Zat (Fn.func 38) [] [Zak 5 0,Zak 1 0,Zak 6 0]] false false 0,cell (Zdc (.slice none 0 0))] b))):=by kernel_rfl
theorem rAkC (ly:LayT) (us:List UseT) (gs:List GraT) (pe many:Int) (s:SideT) (n:NearT) (sl of:Int):wpcY prog ⟨[],UAkN,wl,y,false⟩ 100 #[64] (AGi9 rfAk) (ASf9 rfAk) (tmAk s 8) [cellA sl of] (hpN ly us gs pe many s n) b (takeK 11 Kh)=(BIf (decide ((0:Int)≥many)) (Kh (Zbv 0) [Blk.mk (Qz5 ly) false false 0,Blk.mk (Qz11 us gs) false false 0,cell (i64 pe),cell (i64 many),Blk.mk Qz6 false false 0,Blk.mk [Zag (Qz2 s)] false false 0,Blk.mk (Qz1 n) false false 0,Blk.mk [Zat (Fn.func 38) [] [Zak 5 0,Zak 1 0,Zak 6 0]] false false 0,cell (Zdc (.slice none 0 0)),Blk.mk [Zab (i64 sl),Zab (i64 of)] false false 0] b) (∃(s0:SideT) (us1:List UseT) (gs2:List GraT) (n3:NearT) (sl4:Int) (of5:Int) (q6:Bool),(Qz20 sl of s us gs n)=(Qz20 sl4 of5 s0 us1 gs2 n3)∧(((Zaa (Zas s0)≤9223372036854775807∧(∀(x:NearT),x∈Zas s0→Zaa (Zbp x)≤9223372036854775807∧Zaa (Zbn x)≤9223372036854775807∧Zaa (Zcc x)≤9223372036854775807)∧layOk (Zcn s0)=true)∧(Zaa us1<10000∧Zaa gs2<10000)∧Zaa (Zbp n3)<10000∧Zaa (Zbn n3)<10000)∧q6=possS s0 (TabT.mk us1 gs2 []) n3 sl4 of5)∧BIf q6 (∃(sl7:Int) (of8:Int), [Zab (Zdc (.slice none 0 0)),Zat (Fn.func 44) [] [Zag [i64 sl,i64 of]]]= [Zab (Zdc (.slice none 0 0)),Zat (Fn.func 44) [] [Zag [i64 sl7,i64 of8]]]∧Kh Zfo [Blk.mk (Qz5 ly) false false 0,Blk.mk (Qz11 us gs) false false 0,cell (i64 pe),cell (i64 many),Blk.mk Qz6 false false 0,Blk.mk [Zag (Qz2 s)] false false 0,Blk.mk (Qz1 n) false false 0,Blk.mk [Zat (Fn.func 38) [] [Zak 5 0,Zak 1 0,Zak 6 0]] false false 0,Blk.mk [Zbu 10 0 1 3] false false 0,Blk.mk [Zab (i64 sl),Zab (i64 of)] false false 0,Blk.mk (Qz27 sl of pe) false true 0] b) (Kh Zfo [Blk.mk (Qz5 ly) false false 0,Blk.mk (Qz11 us gs) false false 0,cell (i64 pe),cell (i64 many),Blk.mk Qz6 false false 0,Blk.mk [Zag (Qz2 s)] false false 0,Blk.mk (Qz1 n) false false 0,Blk.mk [Zat (Fn.func 38) [] [Zak 5 0,Zak 1 0,Zak 6 0]] false false 0,cell (Zdc (.slice none 0 0)),Blk.mk [Zab (i64 sl),Zab (i64 of)] false false 0] b))):=by kernel_rfl
theorem rAkB (ly:LayT) (us:List UseT) (gs:List GraT) (pe many:Int) (s:SideT) (n:NearT) (sl of:Int) (v m:Nat) (c0 cs:List AV):wpcY prog ⟨[],UAk,wl,y,false⟩ 100 #[64] (AGi9 rfAk) (ASf9 rfAk) (tmAk s 8) [cellA sl of] (hpBc ly us gs pe many s n v m c0 cs) b (takeK 11 Kh)=(v=v∧BIf (decide ((m:Int)≥many)) (BIf (Zcb [Blk.mk (Qz5 ly) false false 0,Blk.mk (Qz11 us gs) false false 0,cell (i64 pe),cell (i64 many),Blk.mk Qz6 false false 0,Blk.mk [Zag (Qz2 s)] false false 0,Blk.mk (Qz1 n) false false 0,Blk.mk [Zat (Fn.func 38) [] [Zak 5 0,Zak 1 0,Zak 6 0]] false false 0,Blk.mk [Zbu 10 v m 3] false false 0,Blk.mk c0 false false 0,Blk.mk cs false true v] fun (blk0:Blk)=>lows 11 blk0.1) (Kh (Zbv 0) [Blk.mk (Qz5 ly) false false 0,Blk.mk (Qz11 us gs) false false 0,cell (i64 pe),cell (i64 many),Blk.mk Qz6 false false 0,Blk.mk [Zag (Qz2 s)] false false 0,Blk.mk (Qz1 n) false false 0,Blk.mk [Zat (Fn.func 38) [] [Zak 5 0,Zak 1 0,Zak 6 0]] false false 0,Blk.mk [Zbu 10 v m 3] false false 0,Blk.mk c0 false false 0,Blk.mk cs false true v] b) False) (∃(s1:SideT) (us2:List UseT) (gs3:List GraT) (n4:NearT) (sl5:Int) (of6:Int) (q7:Bool),(Qz20 sl of s us gs n)=(Qz20 sl5 of6 s1 us2 gs3 n4)∧(((Zaa (Zas s1)≤9223372036854775807∧(∀(x:NearT),x∈Zas s1→Zaa (Zbp x)≤9223372036854775807∧Zaa (Zbn x)≤9223372036854775807∧Zaa (Zcc x)≤9223372036854775807)∧layOk (Zcn s1)=true)∧(Zaa us2<10000∧Zaa gs3<10000)∧Zaa (Zbp n4)<10000∧Zaa (Zbn n4)<10000)∧q7=possS s1 (TabT.mk us2 gs3 []) n4 sl5 of6)∧BIf q7 (v=v∧∃(xs8:List (List Dv)),cs=flatA xs8∧Zaa xs8=m∧(∀(r:List Dv),r∈xs8→Zaa r=3)∧∃(l9:List AskT) (sl10:Int) (of11:Int) (q12:Bool), [Zab (Zaf 3 xs8),Zat (Fn.func 44) [] [Zag [i64 sl,i64 of]]]= [Zab (Zaf 3 (rowsA l9)),Zat (Fn.func 44) [] [Zag [i64 sl10,i64 of11]]]∧(Zaa l9≤9223372036854775807∧q12=List.any l9 fun (x13:AskT)=>Zde x13==sl10)∧BIf (!q12) (v=v∧BIf (decide ((m+1)*24≤140737488355328)) (BIf (Zcb [Blk.mk (Qz5 ly) false false 0,Blk.mk (Qz11 us gs) false false 0,cell (i64 pe),cell (i64 many),Blk.mk Qz6 false false 0,Blk.mk [Zag (Qz2 s)] false false 0,Blk.mk (Qz1 n) false false 0,Blk.mk [Zat (Fn.func 38) [] [Zak 5 0,Zak 1 0,Zak 6 0]] false false 0,Blk.mk [Zbu 10 (v+1) (m+1) 3] false false 0,Blk.mk c0 false false 0,Blk.mk (cs++(Qz27 sl of pe)) false true (v+1)] fun (blk14:Blk)=>lows 11 blk14.1) (Kh Zfo [Blk.mk (Qz5 ly) false false 0,Blk.mk (Qz11 us gs) false false 0,cell (i64 pe),cell (i64 many),Blk.mk Qz6 false false 0,Blk.mk [Zag (Qz2 s)] false false 0,Blk.mk (Qz1 n) false false 0,Blk.mk [Zat (Fn.func 38) [] [Zak 5 0,Zak 1 0,Zak 6 0]] false false 0,Blk.mk [Zbu 10 (v+1) (m+1) 3] false false 0,Blk.mk c0 false false 0,Blk.mk (cs++(Qz27 sl of pe)) false true (v+1)] b) False) False) (BIf (Zcb [Blk.mk (Qz5 ly) false false 0,Blk.mk (Qz11 us gs) false false 0,cell (i64 pe),cell (i64 many),Blk.mk Qz6 false false 0,Blk.mk [Zag (Qz2 s)] false false 0,Blk.mk (Qz1 n) false false 0,Blk.mk [Zat (Fn.func 38) [] [Zak 5 0,Zak 1 0,Zak 6 0]] false false 0,Blk.mk [Zbu 10 v m 3] false false 0,Blk.mk c0 false false 0,Blk.mk cs false true v] fun (blk15:Blk)=>lows 11 blk15.1) (Kh Zfo [Blk.mk (Qz5 ly) false false 0,Blk.mk (Qz11 us gs) false false 0,cell (i64 pe),cell (i64 many),Blk.mk Qz6 false false 0,Blk.mk [Zag (Qz2 s)] false false 0,Blk.mk (Qz1 n) false false 0,Blk.mk [Zat (Fn.func 38) [] [Zak 5 0,Zak 1 0,Zak 6 0]] false false 0,Blk.mk [Zbu 10 v m 3] false false 0,Blk.mk c0 false false 0,Blk.mk cs false true v] b) False)) (BIf (Zcb [Blk.mk (Qz5 ly) false false 0,Blk.mk (Qz11 us gs) false false 0,cell (i64 pe),cell (i64 many),Blk.mk Qz6 false false 0,Blk.mk [Zag (Qz2 s)] false false 0,Blk.mk (Qz1 n) false false 0,Blk.mk [Zat (Fn.func 38) [] [Zak 5 0,Zak 1 0,Zak 6 0]] false false 0,Blk.mk [Zbu 10 v m 3] false false 0,Blk.mk c0 false false 0,Blk.mk cs false true v] fun (blk16:Blk)=>lows 11 blk16.1) (Kh Zfo [Blk.mk (Qz5 ly) false false 0,Blk.mk (Qz11 us gs) false false 0,cell (i64 pe),cell (i64 many),Blk.mk Qz6 false false 0,Blk.mk [Zag (Qz2 s)] false false 0,Blk.mk (Qz1 n) false false 0,Blk.mk [Zat (Fn.func 38) [] [Zak 5 0,Zak 1 0,Zak 6 0]] false false 0,Blk.mk [Zbu 10 v m 3] false false 0,Blk.mk c0 false false 0,Blk.mk cs false true v] b) False))):=by kernel_rfl
theorem rAkA (ly:LayT) (us:List UseT) (gs:List GraT) (pe many:Int) (s:SideT) (n:NearT) (sl of:Int) (v m:Nat) (cs:List AV):wpcY prog ⟨[],UAk,wl,y,false⟩ 100 #[64] (AGi9 rfAk) (ASf9 rfAk) (tmAk s 10) [cellA sl of] (hpAc ly us gs pe many s n v m cs) b (takeK 11 Kh)=(v=v∧BIf (decide ((m:Int)≥many)) (BIf (Zcb [Blk.mk (Qz5 ly) false false 0,Blk.mk (Qz11 us gs) false false 0,cell (i64 pe),cell (i64 many),Blk.mk Qz6 false false 0,Blk.mk [Zag (Qz2 s)] false false 0,Blk.mk (Qz1 n) false false 0,Blk.mk [Zat (Fn.func 38) [] [Zak 5 0,Zak 1 0,Zak 6 0]] false false 0,Blk.mk [bad,bad,bad] false false 0,Blk.mk cs false true v,Blk.mk [Zbu 9 v m 3] false false 0] fun (blk0:Blk)=>lows 11 blk0.1) (Kh (Zbv 0) [Blk.mk (Qz5 ly) false false 0,Blk.mk (Qz11 us gs) false false 0,cell (i64 pe),cell (i64 many),Blk.mk Qz6 false false 0,Blk.mk [Zag (Qz2 s)] false false 0,Blk.mk (Qz1 n) false false 0,Blk.mk [Zat (Fn.func 38) [] [Zak 5 0,Zak 1 0,Zak 6 0]] false false 0,Blk.mk [bad,bad,bad] false false 0,Blk.mk cs false true v,Blk.mk [Zbu 9 v m 3] false false 0] b) False) (∃(s1:SideT) (us2:List UseT) (gs3:List GraT) (n4:NearT) (sl5:Int) (of6:Int) (q7:Bool),(Qz20 sl of s us gs n)=(Qz20 sl5 of6 s1 us2 gs3 n4)∧(((Zaa (Zas s1)≤9223372036854775807∧(∀(x:NearT),x∈Zas s1→Zaa (Zbp x)≤9223372036854775807∧Zaa (Zbn x)≤9223372036854775807∧Zaa (Zcc x)≤9223372036854775807)∧layOk (Zcn s1)=true)∧(Zaa us2<10000∧Zaa gs3<10000)∧Zaa (Zbp n4)<10000∧Zaa (Zbn n4)<10000)∧q7=possS s1 (TabT.mk us2 gs3 []) n4 sl5 of6)∧BIf q7 (v=v∧∃(xs8:List (List Dv)),cs=flatA xs8∧Zaa xs8=m∧(∀(r:List Dv),r∈xs8→Zaa r=3)∧∃(l9:List AskT) (sl10:Int) (of11:Int) (q12:Bool), [Zab (Zaf 3 xs8),Zat (Fn.func 44) [] [Zag [i64 sl,i64 of]]]= [Zab (Zaf 3 (rowsA l9)),Zat (Fn.func 44) [] [Zag [i64 sl10,i64 of11]]]∧(Zaa l9≤9223372036854775807∧q12=List.any l9 fun (x13:AskT)=>Zde x13==sl10)∧BIf (!q12) (v=v∧BIf (decide ((m+1)*24≤140737488355328)) (BIf (Zcb [Blk.mk (Qz5 ly) false false 0,Blk.mk (Qz11 us gs) false false 0,cell (i64 pe),cell (i64 many),Blk.mk Qz6 false false 0,Blk.mk [Zag (Qz2 s)] false false 0,Blk.mk (Qz1 n) false false 0,Blk.mk [Zat (Fn.func 38) [] [Zak 5 0,Zak 1 0,Zak 6 0]] false false 0,Blk.mk [bad,bad,bad] false false 0,Blk.mk (cs++(Qz27 sl of pe)) false true (v+1),Blk.mk [Zbu 9 (v+1) (m+1) 3] false false 0] fun (blk14:Blk)=>lows 11 blk14.1) (Kh Zfo [Blk.mk (Qz5 ly) false false 0,Blk.mk (Qz11 us gs) false false 0,cell (i64 pe),cell (i64 many),Blk.mk Qz6 false false 0,Blk.mk [Zag (Qz2 s)] false false 0,Blk.mk (Qz1 n) false false 0,Blk.mk [Zat (Fn.func 38) [] [Zak 5 0,Zak 1 0,Zak 6 0]] false false 0,Blk.mk [bad,bad,bad] false false 0,Blk.mk (cs++(Qz27 sl of pe)) false true (v+1),Blk.mk [Zbu 9 (v+1) (m+1) 3] false false 0] b) False) False) (BIf (Zcb [Blk.mk (Qz5 ly) false false 0,Blk.mk (Qz11 us gs) false false 0,cell (i64 pe),cell (i64 many),Blk.mk Qz6 false false 0,Blk.mk [Zag (Qz2 s)] false false 0,Blk.mk (Qz1 n) false false 0,Blk.mk [Zat (Fn.func 38) [] [Zak 5 0,Zak 1 0,Zak 6 0]] false false 0,Blk.mk [bad,bad,bad] false false 0,Blk.mk cs false true v,Blk.mk [Zbu 9 v m 3] false false 0] fun (blk15:Blk)=>lows 11 blk15.1) (Kh Zfo [Blk.mk (Qz5 ly) false false 0,Blk.mk (Qz11 us gs) false false 0,cell (i64 pe),cell (i64 many),Blk.mk Qz6 false false 0,Blk.mk [Zag (Qz2 s)] false false 0,Blk.mk (Qz1 n) false false 0,Blk.mk [Zat (Fn.func 38) [] [Zak 5 0,Zak 1 0,Zak 6 0]] false false 0,Blk.mk [bad,bad,bad] false false 0,Blk.mk cs false true v,Blk.mk [Zbu 9 v m 3] false false 0] b) False)) (BIf (Zcb [Blk.mk (Qz5 ly) false false 0,Blk.mk (Qz11 us gs) false false 0,cell (i64 pe),cell (i64 many),Blk.mk Qz6 false false 0,Blk.mk [Zag (Qz2 s)] false false 0,Blk.mk (Qz1 n) false false 0,Blk.mk [Zat (Fn.func 38) [] [Zak 5 0,Zak 1 0,Zak 6 0]] false false 0,Blk.mk [bad,bad,bad] false false 0,Blk.mk cs false true v,Blk.mk [Zbu 9 v m 3] false false 0] fun (blk16:Blk)=>lows 11 blk16.1) (Kh Zfo [Blk.mk (Qz5 ly) false false 0,Blk.mk (Qz11 us gs) false false 0,cell (i64 pe),cell (i64 many),Blk.mk Qz6 false false 0,Blk.mk [Zag (Qz2 s)] false false 0,Blk.mk (Qz1 n) false false 0,Blk.mk [Zat (Fn.func 38) [] [Zak 5 0,Zak 1 0,Zak 6 0]] false false 0,Blk.mk [bad,bad,bad] false false 0,Blk.mk cs false true v,Blk.mk [Zbu 9 v m 3] false false 0] b) False))):=by kernel_rfl
theorem YList.stepG {P:Program} {Ev:Env P} {hp:List Blk} {tm:List AV} {b:Ev.β} {Q:Exit→St Ev.β→Prop} {X:CX Ev.β} {k n:Nat} (kk:Nat) {ps:Array Tmp} {assign body:Code} {x:List AV} {xs:List (List AV)} (hm:P.follows .mixedOrders=true) (hX:X.Ok) (hl:x.length=ps.size) (hkk:hp.length≤kk)
   (h:wpcY P X k ps assign body tm x hp b (takeK kk (AYf9 Ev tm Q fun hp' b'=>YList (YBody Ev tm ps assign body n) xs (hp',b',none) (AJl9 tm Q)))):YList (YBody Ev tm ps assign body n) (x::xs) (hp,b,none) (AJl9 tm Q):=
 YList.step (n:=kk) (hn:=hkk) hm hX hl h
def AFu9 (s:SideT) (us:List UseT) (gs:List GraT) (n:NearT) (pe:Int) (z:List AskT) (k:Nat):List AskT:=
 if possS s ⟨us,gs, []⟩ n (triSl s k) (triOf s k)=true then (if (z.any fun x=>x.sl==triSl s k)=true then z else z++ [⟨triSl s k,triOf s k,pe⟩]) else z
def askGo (s:SideT) (us:List UseT) (gs:List GraT) (n:NearT) (pe many:Int):List Nat→List AskT→List AskT
 | [],z=>z
 |k::r,z=>if (z.length:Int)≥many then z else askGo s us gs n pe many r (AFu9 s us gs n pe z k)
theorem BHn9 (s:SideT) (us:List UseT) (gs:List GraT) (n:NearT) (pe many:Int):∀(ks:List Nat) (z:List AskT),z≠ []→askGo s us gs n pe many ks z≠ []
 | [],z,h=>h
 | k::r,z,h=>by
   unfold askGo
   split
   · exact h
   · refine BHn9 s us gs n pe many r _ ?_
     unfold AFu9
     split
     · split
       · exact h
       · simp
     · exact h
theorem AJw9 (z:List AskT) (sl of pe:Int):flatA (rowsA (z++ [⟨sl,of,pe⟩]))=flatA (rowsA z)++ [Zab (i64 sl),Zab (i64 of),Zab (i64 pe)]:=by
 have f:∀l:List AskT,flatA (rowsA l)=flatA (l.map askR):=fun _=>rfl
 rw [f,f,ATz9];rfl
theorem BPh9 (ly:LayT) (us:List UseT) (gs:List GraT) (pe many:Int) (s:SideT) (n:NearT):Zcb (akB ly us gs pe many s n) (fun blk=>lows 11 blk.1)=true:=by rfl
theorem BTa9 {ly:LayT} {us:List UseT} {gs:List GraT} {pe many:Int} {s:SideT} {n:NearT} {v m:Nat} {c0:List AV} {z:List AskT} (h0:lows 11 c0=true):Zcb (hpBc ly us gs pe many s n v m c0 (flatA (rowsA z))) (fun blk=>lows 11 blk.1)=true:=by
 rw [hpBc,List.all_append,BPh9,Bool.true_and]
 simp only [List.all_cons,List.all_nil,Bool.and_true,Zaj]
 exact ⟨rfl,h0,ACt9 11 _⟩
theorem BTb9 {ly:LayT} {us:List UseT} {gs:List GraT} {pe many:Int} {s:SideT} {n:NearT} {v m:Nat} {z:List AskT}:Zcb (hpAc ly us gs pe many s n v m (flatA (rowsA z))) (fun blk=>lows 11 blk.1)=true:=by
 rw [hpAc,List.all_append,BPh9,Bool.true_and]
 simp only [List.all_cons,List.all_nil,Bool.and_true,Zaj]
 exact ⟨rfl,ACt9 11 _,rfl⟩
theorem yAkB {Ev:Env prog} {b:Ev.β} {Q:Exit→St Ev.β→Prop} (ly:LayT) (us:List UseT) (gs:List GraT) (pe many:Int) (s:SideT) (n:NearT) (h:AskOk s us gs n) (c0:List AV) (h0:lows 11 c0=true):∀(ks:List Nat) (z:List AskT) (v:Nat),z.length+ks.length<1000000→
   (∀(e:Exit) (v':Nat),(e= .normal∨e= .exit 0)→Q e ⟨tmAk s 8,hpBc ly us gs pe many s n v' (askGo s us gs n pe many ks z).length c0 (flatA (rowsA (askGo s us gs n pe many ks z))),b⟩)→
   YList (YBody Ev (tmAk s 8) #[64] (AGi9 rfAk) (ASf9 rfAk) 9) (ks.map (APu9 s)) (hpBc ly us gs pe many s n v z.length c0 (flatA (rowsA z)),b,none) (AJl9 (tmAk s 8) Q)
 | [],z,v,hl,hQ=>hQ .normal v (.inl rfl)
 | k::r,z,v,hl,hQ=>by
   simp only [Zei] at hl
   refine YList.stepG 11 (X:=⟨[],UAk,wlW Ev,Ev.Y,false⟩) (k:=100) mixed (CX.Ok.of Zal CBx9) rfl (Zau _) ?_
   refine Eq.mpr (rAkB _ _ _ _ ly us gs pe many s n (triSl s k) (triOf s k) v z.length c0 (flatA (rowsA z))) ?_
   have low:∀(v m:Nat) (z:List AskT),Zcb (hpBc ly us gs pe many s n v m c0 (flatA (rowsA z))) (fun blk=>lows 11 blk.1)=true:=fun v m z=>BTa9 h0
   refine ⟨rfl,Zbh (fun h1=> ?_) fun h1=>⟨s,us,gs,n,triSl s k,triOf s k,_,rfl,⟨h,rfl⟩,Zbh (fun h2=>⟨rfl,rowsA z,rfl,AAx9 z,ANb9 z,z,triSl s k,triOf s k,_,rfl,⟨by omega,rfl⟩,Zbh (fun h3=>⟨rfl,Zbg (by simp;omega) ?_⟩) fun h3=> ?_⟩) fun h2=> ?_⟩⟩
   · have e:askGo s us gs n pe many (k::r) z=z:=by rw [askGo,if_pos (of_decide_eq_true h1)]
     rw [e] at hQ
     exact Zbg (low _ _ _) (hQ (.exit 0) v (.inr rfl))
   all_goals have hlt:=of_decide_eq_false h1
   · have h3':¬(z.any fun x=>x.sl==triSl s k)=true:=by simpa using h3
     have e:askGo s us gs n pe many (k::r) z=askGo s us gs n pe many r (z++ [⟨triSl s k,triOf s k,pe⟩]):=by rw [askGo,if_neg hlt,AFu9,if_pos h2,if_neg h3']
     rw [e] at hQ
     have hl2:=low (v+1) (z.length+1) (z++ [⟨triSl s k,triOf s k,pe⟩])
     rw [AJw9] at hl2
     have ih:=yAkB (Q:=Q) (b:=b) ly us gs pe many s n h c0 h0 r (z++ [⟨triSl s k,triOf s k,pe⟩]) (v+1) (by rw [Zcr];simp;omega) hQ
     rw [AJw9,Zcr] at ih
     exact Zbg hl2 ih
   · have h3':(z.any fun x=>x.sl==triSl s k)=true:=by simpa using h3
     have e:askGo s us gs n pe many (k::r) z=askGo s us gs n pe many r z:=by rw [askGo,if_neg hlt,AFu9,if_pos h2,if_pos h3']
     rw [e] at hQ
     exact Zbg (low _ _ _) (yAkB ly us gs pe many s n h c0 h0 r z v (by omega) hQ)
   · have h2':¬possS s ⟨us,gs, []⟩ n (triSl s k) (triOf s k)=true:=by rw [h2];decide
     have e:askGo s us gs n pe many (k::r) z=askGo s us gs n pe many r z:=by rw [askGo,if_neg hlt,AFu9,if_neg h2']
     rw [e] at hQ
     exact Zbg (low _ _ _) (yAkB ly us gs pe many s n h c0 h0 r z v (by omega) hQ)
theorem yAkA {Ev:Env prog} {b:Ev.β} {Q:Exit→St Ev.β→Prop} (ly:LayT) (us:List UseT) (gs:List GraT) (pe many:Int) (s:SideT) (n:NearT) (h:AskOk s us gs n):∀(ks:List Nat) (z:List AskT) (v:Nat),z.length+ks.length<1000000→
   (∀(e:Exit) (v':Nat),(e= .normal∨e= .exit 0)→Q e ⟨tmAk s 10,hpAc ly us gs pe many s n v' (askGo s us gs n pe many ks z).length (flatA (rowsA (askGo s us gs n pe many ks z))),b⟩)→
   YList (YBody Ev (tmAk s 10) #[64] (AGi9 rfAk) (ASf9 rfAk) 11) (ks.map (APu9 s)) (hpAc ly us gs pe many s n v z.length (flatA (rowsA z)),b,none) (AJl9 (tmAk s 10) Q)
 | [],z,v,hl,hQ=>hQ .normal v (.inl rfl)
 | k::r,z,v,hl,hQ=>by
   simp only [Zei] at hl
   refine YList.stepG 11 (X:=⟨[],UAk,wlW Ev,Ev.Y,false⟩) (k:=100) mixed (CX.Ok.of Zal CBx9) rfl (Zau _) ?_
   refine Eq.mpr (rAkA _ _ _ _ ly us gs pe many s n (triSl s k) (triOf s k) v z.length (flatA (rowsA z))) ?_
   have low:∀(v m:Nat) (z:List AskT),Zcb (hpAc ly us gs pe many s n v m (flatA (rowsA z))) (fun blk=>lows 11 blk.1)=true:=fun v m z=>BTb9
   refine ⟨rfl,Zbh (fun h1=> ?_) fun h1=>⟨s,us,gs,n,triSl s k,triOf s k,_,rfl,⟨h,rfl⟩,Zbh (fun h2=>⟨rfl,rowsA z,rfl,AAx9 z,ANb9 z,z,triSl s k,triOf s k,_,rfl,⟨by omega,rfl⟩,Zbh (fun h3=>⟨rfl,Zbg (by simp;omega) ?_⟩) fun h3=> ?_⟩) fun h2=> ?_⟩⟩
   · have e:askGo s us gs n pe many (k::r) z=z:=by rw [askGo,if_pos (of_decide_eq_true h1)]
     rw [e] at hQ
     exact Zbg (low _ _ _) (hQ (.exit 0) v (.inr rfl))
   all_goals have hlt:=of_decide_eq_false h1
   · have h3':¬(z.any fun x=>x.sl==triSl s k)=true:=by simpa using h3
     have e:askGo s us gs n pe many (k::r) z=askGo s us gs n pe many r (z++ [⟨triSl s k,triOf s k,pe⟩]):=by rw [askGo,if_neg hlt,AFu9,if_pos h2,if_neg h3']
     rw [e] at hQ
     have hl2:=low (v+1) (z.length+1) (z++ [⟨triSl s k,triOf s k,pe⟩])
     rw [AJw9] at hl2
     have ih:=yAkA (Q:=Q) (b:=b) ly us gs pe many s n h r (z++ [⟨triSl s k,triOf s k,pe⟩]) (v+1) (by rw [Zcr];simp;omega) hQ
     rw [AJw9,Zcr] at ih
     exact Zbg hl2 ih
   · have h3':(z.any fun x=>x.sl==triSl s k)=true:=by simpa using h3
     have e:askGo s us gs n pe many (k::r) z=askGo s us gs n pe many r z:=by rw [askGo,if_neg hlt,AFu9,if_pos h2,if_pos h3']
     rw [e] at hQ
     exact Zbg (low _ _ _) (yAkA ly us gs pe many s n h r z v (by omega) hQ)
   · have h2':¬possS s ⟨us,gs, []⟩ n (triSl s k) (triOf s k)=true:=by rw [h2];decide
     have e:askGo s us gs n pe many (k::r) z=askGo s us gs n pe many r z:=by rw [askGo,if_neg hlt,AFu9,if_neg h2']
     rw [e] at hQ
     exact Zbg (low _ _ _) (yAkA ly us gs pe many s n h r z v (by omega) hQ)
theorem yAkN {Ev:Env prog} {b:Ev.β} {Q:Exit→St Ev.β→Prop} (ly:LayT) (us:List UseT) (gs:List GraT) (pe many:Int) (s:SideT) (n:NearT) (h:AskOk s us gs n):∀(ks:List Nat),ks.length<900000→
   (askGo s us gs n pe many ks []= []→∀e:Exit,(e= .normal∨e= .exit 0)→Q e ⟨tmAk s 8,hpN ly us gs pe many s n,b⟩)→
   (askGo s us gs n pe many ks []≠ []→∀(e:Exit) (v':Nat) (c0:List AV),(e= .normal∨e= .exit 0)→Q e ⟨tmAk s 8,hpBc ly us gs pe many s n v' (askGo s us gs n pe many ks []).length c0 (flatA (rowsA (askGo s us gs n pe many ks []))),b⟩)→
   YList (YBody Ev (tmAk s 8) #[64] (AGi9 rfAk) (ASf9 rfAk) 9) (ks.map (APu9 s)) (hpN ly us gs pe many s n,b,none) (AJl9 (tmAk s 8) Q)
 | [],hl,h1,h2=>h1 rfl .normal (.inl rfl)
 | k::r,hl,h1,h2=>by
   simp only [Zei] at hl
   by_cases hm:(0:Int)≥many
   · have e:askGo s us gs n pe many (k::r) []= []:=by rw [askGo,if_pos (by simpa using hm)]
     refine YList.stepG 9 (X:=⟨[],UAkN,wlW Ev,Ev.Y,false⟩) (k:=100) mixed (CX.Ok.of Zal BHu9) rfl (Zau _) ?_
     refine Eq.mpr (rAkN _ _ _ _ ly us gs pe many s n (triSl s k) (triOf s k)) ?_
     exact Zbg (decide_eq_true hm) (h1 e (.exit 0) (.inr rfl))
   · have hm':¬((([]:List AskT).length:Nat):Int)≥many:=by simpa using hm
     cases hp:possS s ⟨us,gs, []⟩ n (triSl s k) (triOf s k) with
     | false=>
       have e:askGo s us gs n pe many (k::r) []=askGo s us gs n pe many r []:=by rw [askGo,if_neg hm',AFu9,hp,if_neg (by decide)]
       rw [e] at h1 h2
       refine YList.stepG 9 (X:=⟨[],UAkN,wlW Ev,Ev.Y,false⟩) (k:=100) mixed (CX.Ok.of Zal BHu9) rfl (Zau _) ?_
       refine Eq.mpr (rAkN _ _ _ _ ly us gs pe many s n (triSl s k) (triOf s k)) ?_
       exact Zdl (decide_eq_false hm) ⟨s,us,gs,n,triSl s k,triOf s k,_,rfl,⟨h,rfl⟩,Zdl hp (yAkN ly us gs pe many s n h r (by omega) h1 h2)⟩
     | true=>
       have e:askGo s us gs n pe many (k::r) []=askGo s us gs n pe many r [⟨triSl s k,triOf s k,pe⟩]:=by rw [askGo,if_neg hm',AFu9,hp,if_pos rfl];rfl
       have hne:=BHn9 s us gs n pe many r [⟨triSl s k,triOf s k,pe⟩] (by simp)
       rw [e] at h1 h2
       have hB:=yAkB (Q:=Q) (b:=b) ly us gs pe many s n h [.d (i64 (triSl s k)), .d (i64 (triOf s k))] rfl r [⟨triSl s k,triOf s k,pe⟩] 0 (by simp;omega) (fun e v' he=>h2 hne e v' _ he)
       refine YList.stepG 11 (X:=⟨[],UAkN,wlW Ev,Ev.Y,false⟩) (k:=100) mixed (CX.Ok.of Zal BHu9) rfl (show 9≤11 by decide) ?_
       refine Eq.mpr (rAkC _ _ _ _ ly us gs pe many s n (triSl s k) (triOf s k)) ?_
       exact Zdl (decide_eq_false hm) ⟨s,us,gs,n,triSl s k,triOf s k,_,rfl,⟨h,rfl⟩,Zbg hp ⟨triSl s k,triOf s k,rfl,hB⟩⟩
def triKs (ly:LayT):List Nat:=List.range' 0 (16*ly.da).toNat
def wlAk {β:Type}:WLT β:=fun cd tm hp b K=>∃(ly:LayT) (us:List UseT) (gs:List GraT) (pe many:Int) (s:SideT) (n:NearT),cd=rfAk∧(AskOk s us gs n∧s.lay=ly∧(1≤ly.da∧ly.da≤60))∧
 match hp with
 | [b0,b1,b2,b3,b4,b5,b6,b7,b8]=>∃q:List AskT,ABd9 [8,11,12,14,20,21,63] 0 tm=tmAk s 8∧ [b0,b1,b2,b3,b4,b5,b6,b7,b8]=hpN ly us gs pe many s n∧q=askGo s us gs n pe many (triKs ly) []∧
    BIf q.isEmpty (K .normal (tmAk s 8) (hpN ly us gs pe many s n) b∧K (.exit 0) (tmAk s 8) (hpN ly us gs pe many s n) b) (∀(v:Nat) (c0:List AV),K .normal (tmAk s 8) (hpBc ly us gs pe many s n v q.length c0 (flatA (rowsA q))) b∧K (.exit 0) (tmAk s 8) (hpBc ly us gs pe many s n v q.length c0 (flatA (rowsA q))) b)
 | [b0,b1,b2,b3,b4,b5,b6,b7,b8,b9,b10]=>∃(z q:List AskT) (v:Nat),ABd9 [8,11,12,14,20,21,63] 0 tm=tmAk s 10∧ [b0,b1,b2,b3,b4,b5,b6,b7,b8,b9,b10]=hpAc ly us gs pe many s n v z.length (flatA (rowsA z))∧(z.length<90000∧q=askGo s us gs n pe many (triKs ly) z)∧
    ∀(v:Nat),K .normal (tmAk s 10) (hpAc ly us gs pe many s n v q.length (flatA (rowsA q))) b∧K (.exit 0) (tmAk s 10) (hpAc ly us gs pe many s n v q.length (flatA (rowsA q))) b
 |_=>False
theorem BXg9 {Ev:Env prog} (c:Code) (tm:List AV) (hp:List Blk) (b:Ev.β) (K:Exit→List AV→List Blk→Ev.β→Prop) (h:wlAk c tm hp b K):W Ev c ⟨tm,hp,b⟩ (fun e s=>K e s.tm s.hp s.b):=by
 obtain ⟨ly,us,gs,pe,many,s,n,rfl,⟨ha,hly,hd⟩,h⟩:=h
 have hd':1≤s.lay.da∧s.lay.da≤60:=by rw [hly];exact hd
 have hic:=icTr s hd' (16*ly.da).toNat (by rw [hly];omega)
 have hkl:(triKs ly).length<1000:=by rw [triKs,List.length_range'];omega
 split at h
 · obtain ⟨_,htm,hhp,rfl,h⟩:=h
   rw [hhp]
   refine W.cast (htm▸AAe9 _ tm 0) (Zce _) ?_
   rw [AQo9]
   refine W.range (s:=⟨tmAk s 8,hpN ly us gs pe many s n,b⟩) (k:=89) (first:= []) (caps:= [.rptr [.pt (sideD s)]]) rfl rfl rfl hic ?_
   refine yAkN (Q:=fun e s=>K e s.tm s.hp s.b) ly us gs pe many s n ha (triKs ly) (by omega) (fun h0 e he=> ?_) fun h0 e v' c0 he=> ?_
   · rw [h0] at h
     rcases he with rfl|rfl
     · exact h.1
     · exact h.2
   · have h1:(askGo s us gs n pe many (triKs ly) []).isEmpty=false:=by simpa using h0
     rw [h1] at h
     have h2:=(show ∀(v:Nat) (c0:List AV),_ from h) v' c0
     rcases he with rfl|rfl
     · exact h2.1
     · exact h2.2
 · obtain ⟨z,_,v,htm,hhp,⟨hz,rfl⟩,h⟩:=h
   rw [hhp]
   refine W.cast (htm▸AAe9 _ tm 0) (Zce _) ?_
   rw [AQo9]
   refine W.range (s:=⟨tmAk s 10,hpAc ly us gs pe many s n v z.length (flatA (rowsA z)),b⟩) (k:=89) (first:= []) (caps:= [.rptr [.pt (sideD s)]]) rfl rfl rfl hic ?_
   refine yAkA (Q:=fun e s=>K e s.tm s.hp s.b) ly us gs pe many s n ha (triKs ly) z v (by omega) fun e v' he=> ?_
   have h2:=h v'
   rcases he with rfl|rfl
   · exact h2.1
   · exact h2.2
 · exact h.elim
open Go.Shelf Go.Lib Go.Sort
variable {β:Type} (y:ACv9 β) (b:β)
def SA:Type:= {a:AskT // -1000≤a.sl∧a.sl≤1000}
instance : Inhabited SA := ⟨⟨⟨0, 0, 0⟩, by decide⟩⟩
def encA (x:SA):List Value:= [.int .i64 x.1.sl, .int .i64 x.1.of, .int .i64 x.1.pe]
def cmpA (x y:SA):Int:=x.1.sl - y.1.sl
theorem ltA (x y:SA):ltOf cmpA x y=decide (x.1.sl<y.1.sl):=by
 unfold ltOf cmpA
 by_cases h:x.1.sl<y.1.sl
 · simp [h];omega
 · simp [h];omega
theorem swoA:Go.Sort.SWO (ltOf cmpA) where
 irrefl x:=by rw [ltA];simp
 trans x y z h1 h2:=by rw [ltA] at*;simp at*;omega
 ntrans x y z h1 h2:=by rw [ltA] at*;simp at*;omega
set_option maxHeartbeats 1000000 in
theorem BLf9 (a b c x y z:Int) (W:World):Calls prog 46 #[.agg #[.int .i64 a, .int .i64 b, .int .i64 c], .agg #[.int .i64 x, .int .i64 y, .int .i64 z]] W fun e w'=>e= .returned (.int .i64 (wrap64 (a - x)))∧∃q os',w'=Go.Sort.grow (W.drewN q) os':=by
 go_enter func46,Tryz.ntmps46
 go_wp2
 go_ret
 exact ⟨rfl,0,_,by rw [Go.Sort.alloc_eq_grow,Go.Sort.alloc_eq_grow,Go.Sort.grow_grow];rfl⟩
theorem BUb9 (blk off size:Nat) (w:World):CmpLays prog 46 #[] encA 3 cmpA blk off size w:=by
 intro m os dk hs x y
 have h:=BLf9 x.1.sl x.1.of x.1.pe y.1.sl y.1.of y.1.pe (sortWorldK encA 3 w blk off m dk os)
 have e:wrap64 (x.1.sl - y.1.sl)=cmpA x y:=by
   obtain ⟨a,ha⟩:=x
   obtain ⟨b,hb⟩:=y
   simp only [cmpA]
   unfold wrap64;omega
 rw [e] at h
 exact h
def valsA (zs:List SA):List Value:=zs.flatMap encA
theorem ADr9:∀zs:List SA,(valsA zs).length=zs.length*3
 | []=>rfl
 |z::zs=>by simp only [valsA,List.flatMap_cons,Zcr,Zei];have:=ADr9 zs;simp only [valsA] at this;rw [this];simp [encA];omega
theorem AVd9:∀(zs:List SA) (t:Nat),t<zs.length*3→(valsA zs)[t]? =(encA (zs[t / 3]?.getD default))[t % 3]?
 | [],t,h=>by simp at h
 | z::zs,t,h=>by
   simp only [valsA,List.flatMap_cons]
   have hl:(encA z).length=3:=rfl
   by_cases ht:t<3
   · rw [List.getElem?_append_left (by rw [hl];exact ht),Nat.div_eq_of_lt ht,Nat.mod_eq_of_lt ht];rfl
   · rw [List.getElem?_append_right (by rw [hl];omega),hl]
     have ih:=AVd9 zs (t - 3) (by simp only [Zei] at h;omega)
     simp only [valsA] at ih
     rw [ih]
     have e1:t / 3=(t - 3) / 3+1:=by omega
     have e2:(t - 3) % 3=t % 3:=by omega
     rw [e1,e2];rfl
theorem ARu9 (d:Array SA):(flatK encA 3 d).toList=valsA d.toList:=by
 apply List.ext_getElem?
 intro t
 by_cases ht:t<d.size*3
 · have h1:=get_flatK encA 3 d t ht
   rw [AVd9 d.toList t (by simpa using ht)]
   have hs:t<(flatK encA 3 d).size:=by simpa using ht
   rw [getElem!_pos (flatK encA 3 d) t hs] at h1
   rw [Array.getElem?_toList,Array.getElem?_eq_getElem hs,h1]
   have hd:t / 3<d.size:=by omega
   have e:d.toList[t / 3]?.getD default=d[t / 3]! :=by
     rw [getElem!_pos d _ hd]
     simp [hd]
   rw [e]
   have hm:t % 3<(encA d[t / 3]!).length:=by show t % 3<3;omega
   rw [getElem!_pos (encA d[t / 3]!) _ hm,Zba hm]
 · rw [List.getElem?_eq_none (by simpa using ht),List.getElem?_eq_none (by rw [ADr9];simpa using ht)]
theorem AId9 (zs:List SA):flatA (rowsA (zs.map (·.1)))=(valsA zs).map fun v=>Zab (.s v):=by
 induction zs with
 |nil=>rfl
 | cons z zs ih=>
   have f:∀l:List AskT,flatA (rowsA l)=flatA (l.map askR):=fun _=>rfl
   rw [f] at ih ⊢
   simp only [Zdv] at ih ⊢
   rw [AGd9,ih]
   simp only [valsA,List.flatMap_cons,List.map_append]
   rfl
end Go.Proofs.YthcbbmnjikhihaaGreat.Am
namespace Go.Proofs
open Go.Shelf
def Tryz.sortAsk_ren:Go.Shelf.Ren:=⟨fun|6=>45|15=>92|14=>91|28=>129|29=>130|20=>121|21=>122|22=>123|23=>124|24=>125|25=>126|26=>127|27=>128|46=>141|47=>142|48=>143|49=>144|50=>145|57=>150|n=>n,fun|22=>26|24=>63|25=>97|3=>3|39=>137|0=>0|53=>175|55=>45|4=>4|46=>168|45=>167|50=>172|5=>5|9=>9|66=>186|70=>190|76=>196|77=>197|n=>n,fun|n=>n⟩
theorem Tryz.sortAsk:Go.Proofs.SlLaysF0.n6 prog Tryz.sortAsk_ren:= {
  mixed:=by kernel_rfl
  f6:=⟨Tryz.f45.name,by decide,Tryz.func45.trans (congrArg some (by kernel_rfl))⟩
  f14:=⟨Tryz.f91.name,by decide,Tryz.func91.trans (congrArg some (by kernel_rfl))⟩
  f15:=Tryz.func92.trans (congrArg some (by kernel_rfl))
  f20:=⟨Tryz.f121.name,by decide,Tryz.func121.trans (congrArg some (by kernel_rfl))⟩
  f21:=⟨Tryz.f122.name,by decide,Tryz.func122.trans (congrArg some (by kernel_rfl))⟩
  f22:=⟨Tryz.f123.name,by decide,Tryz.func123.trans (congrArg some (by kernel_rfl))⟩
  f23:=⟨Tryz.f124.name,by decide,Tryz.func124.trans (congrArg some (by kernel_rfl))⟩
  f24:=⟨Tryz.f125.name,by decide,Tryz.func125.trans (congrArg some (by kernel_rfl))⟩
  f25:=⟨Tryz.f126.name,by decide,Tryz.func126.trans (congrArg some (by kernel_rfl))⟩
  f26:=⟨Tryz.f127.name,by decide,Tryz.func127.trans (congrArg some (by kernel_rfl))⟩
  f27:=⟨Tryz.f128.name,by decide,Tryz.func128.trans (congrArg some (by kernel_rfl))⟩
  f28:=Tryz.func129.trans (congrArg some (by kernel_rfl))
  f29:=Tryz.func130.trans (congrArg some (by kernel_rfl))
  f46:=⟨Tryz.f141.name,by decide,Tryz.func141.trans (congrArg some (by kernel_rfl))⟩
  f47:=Tryz.func142.trans (congrArg some (by kernel_rfl))
  f48:=Tryz.func143.trans (congrArg some (by kernel_rfl))
  f49:=⟨Tryz.f144.name,by decide,Tryz.func144.trans (congrArg some (by kernel_rfl))⟩
  f50:=⟨Tryz.f145.name,by decide,Tryz.func145.trans (congrArg some (by kernel_rfl))⟩
  f57:=⟨Tryz.f150.name,by decide,Tryz.func150.trans (congrArg some (by kernel_rfl))⟩
  t0:=Tryz.underlying0
  a0:=Tryz.isAgg0
  z0:=Tryz.sizeOf0
  v0:=Tryz.zeroValue0
  t3:=Tryz.underlying3
  a3:=Tryz.isAgg3
  z3:=Tryz.sizeOf3
  v3:=Tryz.zeroValue3
  t4:=Tryz.underlying4
  a4:=Tryz.isAgg4
  z4:=Tryz.sizeOf4
  v4:=Tryz.zeroValue4
  t5:=Tryz.underlying5
  a5:=Tryz.isAgg5
  z5:=Tryz.sizeOf5
  v5:=Tryz.zeroValue5
  t9:=Tryz.underlying9
  a9:=Tryz.isAgg9
  z9:=Tryz.sizeOf9
  v9:=Tryz.zeroValue9
  t22:=Tryz.underlying26
  a22:=Tryz.isAgg26
  z22:=Tryz.sizeOf26
  v22:=Tryz.zeroValue26
  t25:=Tryz.underlying97
  a25:=Tryz.isAgg97
  z25:=Tryz.sizeOf97
  v25:=Tryz.zeroValue97
  t39:=Tryz.underlying137
  a39:=Tryz.isAgg137
  z39:=Tryz.sizeOf137
  v39:=Tryz.zeroValue137
  t45:=Tryz.underlying167
  a45:=Tryz.isAgg167
  z45:=Tryz.sizeOf167
  v45:=Tryz.zeroValue167
  t46:=Tryz.underlying168
  a46:=Tryz.isAgg168
  z46:=Tryz.sizeOf168
  v46:=Tryz.zeroValue168
  t50:=Tryz.underlying172
  a50:=Tryz.isAgg172
  z50:=Tryz.sizeOf172
  v50:=Tryz.zeroValue172
  t53:=Tryz.underlying175
  a53:=Tryz.isAgg175
  z53:=Tryz.sizeOf175
  v53:=Tryz.zeroValue175
  t55:=Tryz.underlying45
  a55:=Tryz.isAgg45
  z55:=Tryz.sizeOf45
  v55:=Tryz.zeroValue45
  t66:=Tryz.underlying186
  a66:=Tryz.isAgg186
  z66:=Tryz.sizeOf186
  v66:=Tryz.zeroValue186
  t70:=Tryz.underlying190
  a70:=Tryz.isAgg190
  z70:=Tryz.sizeOf190
  v70:=Tryz.zeroValue190
  t76:=Tryz.underlying196
  a76:=Tryz.isAgg196
  z76:=Tryz.sizeOf196
  v76:=Tryz.zeroValue196
  t77:=Tryz.underlying197
  a77:=Tryz.isAgg197
  z77:=Tryz.sizeOf197
  v77:=Tryz.zeroValue197}
end Go.Proofs
namespace Go.Proofs.YthcbbmnjikhihaaGreat.Am
open Go Go.RowKit Go.Proofs Tryz
open AV renaming agg → Zao, bad → Zad, d → Zab, fn → Zat, gref → Zbu, ptr → Zak, rptr → Zag
open AskT renaming sl → Zde
open BIf renaming f → Zdl, of → Zbh, t → Zbg
open Bool renaming and_eq_true → Zaj, and_false → Zem, not_eq_true' → Zcq
open AAb9 renaming cons → Zai, nil → Zal
open Go.Code renaming loop → Zaz
open Dv renaming fn → Zco, pt → Zdn, s → Zdc, sl → Zaf
open Go.Exit renaming exit → Zbv, normal → Zfo
open Int renaming toNat → Zav
open Go.IntKind renaming i64 → Zay, wrap → Zae
open LayT renaming da → Zds
open LeH renaming refl → Zce
open LeVs renaming refl → Zfs
open List renaming all → Zcb, filter_sublist → Zes, getElem?_eq_getElem → Zba, length → Zaa, length_append → Zcr, length_cons → Zei, length_filter_le → Zdu, length_take → Zdb, map_cons → Zdv, mem_append → Zbs, mem_cons → Zbq, mem_cons_of_mem → Zbx, mem_cons_self → Zbz, mem_filter → Zch, mem_map → Zbb, mem_of_getElem? → Zby, pairwise_cons → Zen, replicate → Zaq, take_length → Zdx
open Nat renaming le_refl → Zau, lt_of_le_of_lt → Zev
open NearT renaming ak → Zcc, gs → Zbn, us → Zbp
open PairT renaming li → Zdh, se → Zej
open AAk9 renaming cons → Zbw, nil → Zah
open SideT renaming lay → Zcn, ns → Zas
open TabT renaming ak → Zbo, gs → Zbl, us → Zbj
open Go.Value renaming map → Zbm
variable {β:Type} (wl:WLT β) (y:ACv9 β) (b:β) (R:AV→β→Prop) (Kr:AV→List Blk→β→Prop) (K:Exit→List AV→List Blk→β→Prop) (Kh:Exit→List Blk→β→Prop) (Q:β→Prop)
open AV (bad)
set_option linter.unusedVariables false
set_option maxRecDepth 20000
set_option maxHeartbeats 1000000
open Go.Shelf Go.Lib Go.Sort
variable {β:Type} (wl:WLT β) (y:ACv9 β) (b:β) (R:AV→β→Prop) (K:Exit→List AV→List Blk→β→Prop) (Q:β→Prop)
theorem BCr9 {w:World} {b:Nat} {cur:Array Value} {e:TypeId} (hb:w.heap[b]? =some (.cells cur e (0,0))) (d:Array SA) (hs:d.size*3≤cur.size):
   putRowK encA 3 w b 0 d=w.setRow b (cur.toList.take 0++valsA d.toList++cur.toList.drop (0+(valsA d.toList).length)).toArray:=by
 have hv:(flatK encA 3 d).toList=valsA d.toList:=ARu9 d
 have hl:(valsA d.toList).length=d.size*3:=by rw [ADr9];simp
 have hc:putCells id 0 (flatK encA 3 d) cur=(cur.toList.take 0++valsA d.toList++cur.toList.drop (0+(valsA d.toList).length)).toArray:=by
   apply Array.ext_getElem?
   intro j
   unfold putCells
   simp only [Array.getElem?_mapIdx,List.getElem?_toArray,List.take_zero,List.nil_append]
   by_cases hj:j<d.size*3
   · rw [List.getElem?_append_left (show j<(valsA d.toList).length by omega),←hv,Array.getElem?_toList,Array.getElem?_eq_getElem (show j<(flatK encA 3 d).size by simpa using hj),Array.getElem?_eq_getElem (show j<cur.size by omega)]
     simp only [Option.map_some,size_flatK,id,Nat.sub_zero,Nat.zero_add,Nat.zero_le,true_and,if_pos hj]
     rw [getElem!_pos (flatK encA 3 d) j (by simpa using hj)]
   · rw [List.getElem?_append_right (show (valsA d.toList).length≤j by omega),List.getElem?_drop,show 0+(valsA d.toList).length+(j - (valsA d.toList).length)=j by omega,Array.getElem?_toList]
     cases hcj:cur[j]? with
     |none=>rfl
     | some x=>
       simp only [Option.map_some,size_flatK,Nat.zero_add,Nat.zero_le,true_and,if_neg hj]
 have hh:(w.heap.modify b (onCells (putCells id 0 (flatK encA 3 d))))=(w.setRow b (cur.toList.take 0++valsA d.toList++cur.toList.drop (0+(valsA d.toList).length)).toArray).heap:=by
   unfold World.setRow
   apply Array.ext_getElem?
   intro k
   simp only [Array.getElem?_modify]
   by_cases hk:b=k
   · subst hk
     simp only [if_true,hb,Option.map_some,onCells,hc]
   · simp only [hk,if_false]
 unfold putRowK putRow mapBlock
 rw [hh]
 rfl
theorem toSA:∀z:List AskT,(∀a∈z, -1000≤a.sl∧a.sl≤1000)→∃zs:List SA,zs.map (·.1)=z
 | [],_=>⟨[],rfl⟩
 | a::z,h=>by
   obtain ⟨zs,hz⟩:=toSA z fun x hx=>h x (Zbx _ hx)
   exact ⟨⟨a,h a (Zbz)⟩::zs,congrArg (a:: ·) hz⟩
def BRb9 (args:List AV) (hp:List Blk) (K:AV→List Blk→Prop):Prop:=match args with
 | [.d (.s (.slice none 0 0)), .fn (.func 46) [] []]=>K (.tup []) hp
 | [.gref g v n k, .fn (.func 46) [] []]=>∃z:List AskT,hp[g]? =some (growB v (flatA (rowsA z)))∧(k=3∧z.length=n∧n<1000000∧∀a∈z, -1000≤a.sl∧a.sl≤1000)∧∀z':List AskT,z'.Perm z→z'.Pairwise (fun a b=>a.sl≤b.sl)→K (.tup []) (hp.set g (growB v (flatA (rowsA z'))))
 |_=>False
theorem RV.s_eq {S:Pr} {w:World} {m:List MB} {yv:Option Nat} {v u:Value} (h:RV S w m yv (.d (.s v)) u):u=v:=by
 cases h with
 |d h=>cases h;rfl
theorem RV.fn0 {S:Pr} {w:World} {m:List MB} {yv:Option Nat} {k:Nat} {u:Value} (h:RV S w m yv (.fn (.func k) [] []) u):u= .func (.func k) #[] #[]:=by
 cases h with
 | fn hf hl hl' h h'=>
   rename_i fs cs
   have e1:fs=#[]:=Array.eq_empty_of_size_eq_zero (by simpa using hl.symm)
   have e2:cs=#[]:=Array.eq_empty_of_size_eq_zero (by simpa using hl'.symm)
   rw [e1,e2]
theorem ANp9 (w:World) (n:Nat):Below w.heap.size w (Sort.ahead w n):=⟨rfl,rfl,rfl,Zau _,fun _ _=>rfl⟩
theorem ASg9 (w:World) (os:Array Obj):Below w.heap.size w (grow w os):=⟨rfl,rfl,rfl,by simp [grow],fun k hk=>by simp [grow,Array.getElem?_append,hk]⟩
theorem BXx9 {g v:Nat} {z:List AskT} {hp:List Blk} (hg:hp[g]? =some (growB v (flatA (rowsA z)))) (hn:z.length<1000000) (hz:∀a∈z, -1000≤a.sl∧a.sl≤1000):∀(K:AV→List Blk→Prop),(∀z':List AskT,z'.Perm z→z'.Pairwise (fun a b=>a.sl≤b.sl)→K (.tup []) (hp.set g (growB v (flatA (rowsA z')))))→
   ∃x hp',SCall prog 45 [.gref g v z.length 3, .fn (.func 46) [] []] hp x hp'∧K x hp':=by
 intro K hK
 obtain ⟨zs,hzs⟩:=toSA z hz
 subst hzs
 let d:Array SA:=zs.toArray
 let r:Array SA:=pdq (ltOf cmpA) d 0 d.size (Lib.bitLen d.size) true true
 have hds:d.size=zs.length:=by simp [d]
 have hps:=pdq_sorts (ltOf cmpA) swoA d 0 d.size (Lib.bitLen d.size) true true (Nat.zero_le _) (Zau _) (Or.inl rfl)
 have hrs:r.size=d.size:=hps.1.1
 have hperm:r.toList.Perm zs:=by
   have h:=hps.1.2.2
   have e1:(r.extract 0 d.size)=r:=by rw [←hrs];simp
   have e2:(d.extract 0 d.size)=d:=by simp
   have h2:(r.extract 0 d.size).toList.Perm (d.extract 0 d.size).toList:=h
   rw [e1,e2] at h2
   exact h2
 have hsort:r.toList.Pairwise fun a b=>a.1.sl≤b.1.sl:=by
   rw [List.pairwise_iff_getElem]
   intro i j hi hj hij
   simp only [Array.length_toList] at hi hj
   have h:=hps.2 i j (Nat.zero_le _) hij (by omega)
   have h2:ltOf cmpA r[j]! r[i]! =false:=h
   rw [ltA,getElem!_pos r j hj,getElem!_pos r i hi] at h2
   have h3:=of_decide_eq_false h2
   simp only [Array.getElem_toList]
   omega
 have hK2:=hK (r.toList.map (·.1)) (hperm.map _) (List.pairwise_map.2 hsort)
 refine ⟨_,_,⟨enters_of func45 (by kernel_rfl) rfl, ?_⟩,hK2⟩
 intro S X yv w m B hv vs hl h
 obtain ⟨v0,v1,rfl⟩:∃v0 v1,vs= [v0,v1]:=by
   match vs,hl with
   | [a,b],_=>exact ⟨a,b,rfl⟩
 have h0:=h.rv (.gref g v (zs.map (·.1)).length 3,v0) (by simp)
 have h1:=h.rv (.fn (.func 46) [] [],v1) (by simp)
 have e1:=RV.fn0 h1
 subst e1
 obtain ⟨b,len,ver',hm,hver,hone,hcc⟩:∃b len ver',m[g]? =some ⟨b,len,true,ver'⟩∧v≤ver'∧v0.oneCell'=true∧(v=ver'→len=(zs.map (·.1)).length*3∧∃cap,v0= .slice (some ⟨b,0,none⟩) (zs.map (·.1)).length cap∧(zs.map (·.1)).length≤cap∧cap≤maxLen∧∃(cur:Array Value) (e:TypeId),w.heap[b]? =some (Obj.cells cur e (0,0))∧cur.size=cap*3):=by
   cases h0 with
   |gref a1 a2 a3 a4=>exact ⟨_,_,_,a1,a2,a3,a4⟩
 obtain ⟨blk,us,cur,e,g1,g2,g3,g4,g5,g6,g7,g8,g9,g10,g11,g12⟩:=h.block hm
 rw [hg] at g1
 cases g1
 obtain ⟨hlen,cap,hv0,hcap,_,_⟩:=hcc g5.symm
 rw [List.length_map] at hlen hv0
 subst hv0
 simp only at g3 g6 g8 g9 g10 g11
 have hvals:us=valsA zs:=by
   have hl2:us.length=zs.length*3:=by rw [g6,hlen]
   apply List.ext_getElem?
   intro j
   by_cases hj:j<zs.length*3
   · have hj1:j<us.length:=by omega
     have hj2:j<(valsA zs).length:=by rw [ADr9];omega
     rw [Zba hj1,Zba hj2]
     have hcell:(growB v (flatA (rowsA (zs.map (·.1))))).cells[j]? =some (Zab (.s (valsA zs)[j])):=by
       show (flatA (rowsA (zs.map (·.1))))[j]? =_
       rw [AId9,List.getElem?_map,Zba hj2];rfl
     have hr:=h.rv (Zab (.s (valsA zs)[j]),us[j]) (List.mem_append_right _ (List.mem_append_right _ (AJf9 hg g2 hcell (Zba hj1))))
     exact congrArg some (RV.s_eq hr)
   · rw [List.getElem?_eq_none (by omega),List.getElem?_eq_none (by rw [ADr9];omega)]
 subst hvals
 have hHK:HoldsK encA 3 w b 0 d:=by
   intro j hj
   have hj':j<(valsA zs).length:=by rw [ADr9,←hds];simpa using hj
   refine ⟨?_, ?_⟩
   · rw [Nat.zero_add]
     have hc:=AEj9 g8 g9 j (valsA zs)[j] (Zba hj')
     rw [hc,getElem!_pos (flatK encA 3 d) j hj]
     congr 1
     have e2:=ARu9 d
     show _=(flatK encA 3 d)[j]
     rw [←Array.getElem_toList]
     congr 1
     exact e2.symm
   · unfold World.frozen?
     simp only [g8]
     simp
 have hblk:b<w.heap.size:=(Array.getElem?_eq_some_iff.1 g8).1
 have hcall:=AnyQ.slices_SortFunc_eq Tryz.sortAsk 3 Tryz.isAgg63 Tryz.sizeOf63 encA (fun _=>rfl) (by intro x y hy;simp only [encA,Zbq,List.not_mem_nil,or_false] at hy;rcases hy with rfl|rfl|rfl<;>rfl) cmpA swoA 46 #[] b 0 cap d w (enters_of func46 (by kernel_rfl) rfl) (BUb9 b 0 d.size w) hHK hblk (by rw [hds];simp at hn;omega)
 refine callsIn_wide.2 ?_
 have ea:d.size=zs.length:=hds
 rw [ea] at hcall
 refine hcall.mono ?_
 rintro _ _ ⟨rfl,n,os,rfl⟩
 have hrl:(valsA r.toList).length=zs.length*3:=by rw [ADr9,Array.length_toList,hrs,hds]
 have ha:=h.below (ANp9 w n) (fun _ _ h=>h) (fun _ _ h=> .inl h)
 have hpush:Rel S X yv (Sort.ahead w n) m (((valsA r.toList).map fun v=>Zab (.s v)).zip (valsA r.toList)++(B++AAa9 hp hv)) hp hv:=by
   refine (ha.sub (List.sublist_append_right _ _)).pushAll _ fun p hp=> ?_
   obtain ⟨i,hi⟩:=List.mem_iff_getElem?.1 hp
   rw [List.getElem?_zip_eq_some,List.getElem?_map] at hi
   obtain ⟨hi1,hi2⟩:=hi
   rw [hi2] at hi1
   obtain ⟨p1,p2⟩:=p
   simp only [Option.map_some,Option.some.injEq] at hi1
   subst hi1
   exact ⟨.d (.s _),rfl⟩
 have hst:=hpush.storeBlock (g:=g) (off:=0) (cur:=cur) (e:=e) (by simp) (by
   intro u hu
   simp only [valsA,List.mem_flatMap,encA,Zbq,List.not_mem_nil,or_false] at hu
   obtain ⟨_,_,hu⟩:=hu
   rcases hu with rfl|rfl|rfl<;>rfl) hg hm g2 rfl (by
   show 0+(valsA r.toList).length≤(flatA (rowsA (zs.map (·.1)))).length
   rw [AId9,List.length_map,hrl,ADr9];omega) g8
 rw [←BCr9 (w:=Sort.ahead w n) (b:=b) g8 r (by rw [hrs,hds];omega)] at hst
 obtain ⟨hst1,hst2⟩:=hst
 have hblk2:({growB v (flatA (rowsA (zs.map (·.1)))) with cells:=(growB v (flatA (rowsA (zs.map (·.1))))).cells.take 0++((valsA r.toList).map fun v=>Zab (.s v))++(growB v (flatA (rowsA (zs.map (·.1))))).cells.drop (0+(valsA r.toList).length)}:Blk)=growB v (flatA (rowsA (r.toList.map (·.1)))):=by
   have e3:(growB v (flatA (rowsA (zs.map (·.1))))).cells.drop (0+(valsA r.toList).length)= []:=by
     show (flatA (rowsA (zs.map (·.1)))).drop _= []
     rw [AId9,List.drop_eq_nil_iff,List.length_map,hrl,ADr9];omega
   rw [e3,List.take_zero,List.nil_append,List.append_nil]
   show (⟨(valsA r.toList).map fun v=>Zab (.s v),false,true,v⟩:Blk)=⟨flatA (rowsA (r.toList.map (·.1))),false,true,v⟩
   rw [AId9 r.toList]
 rw [hblk2] at hst1
 have hgr:=hst1.below (ASg9 _ os) (fun _ _ h=>h) (fun _ _ h=> .inl h)
 refine ⟨_,S,m,_,rfl,⟨?_,fun _ _ h=>h,fun _ _ h=> .inl h,MStep.refl m⟩,hgr.cons (x:= .tup []) (.tup rfl (by intro i c v hc;simp at hc)) rfl⟩
 exact ((AAj9 (ANp9 w n) _).trans hst2).trans (AAj9 (ASg9 _ os) _)
def TAf:List (Nat×(List AV→(AV→Prop)→Prop)):= [(35,cNew),(36,cIn),(37,cFind),(42,CAy9)]
theorem CFg9:AAb9 prog TAf:=Zai BFu9 (Zai BFy9 (Zai AUn9 (Zai BLy9 Zal)))
def UAf:List (Nat×(List AV→List Blk→(AV→List Blk→Prop)→Prop)):= [(40,sOA),(45,BRb9),(1000063,fun _ _ _=>False)]
abbrev Qz41 (v0:TabT):List AV:= [Zab (Zaf 4 (rowsU (Zbj v0))),Zab (Zaf 5 (rowsG (Zbl v0))),Zab (Zdc (.slice none 0 0))]
abbrev Qz47 (v0:List AskT) (v1:Nat):=Blk.mk (flatA (rowsA v0)) false true v1
abbrev Qz55 (v0:List UseT) (v1:List GraT) (v2:List (List Dv)):List AV:= [Zab (Zaf 4 (rowsU v0)),Zab (Zaf 5 (rowsG v1)),Zab (Zaf 3 v2)]
theorem CEg9 (ly:LayT) (t:TabT) (me:Int) (l:List NearT) (pe many fr:Int):wpFn prog ⟨TAf,UAf,wlAk,y,false⟩ 100 f12 [layA ly,tabA t, .d (i64 me), .d (.sl 31 (rowsN l)), .d (i64 pe), .d (i64 many), .d (i64 fr)] b R=(∃(ly0:LayT) (t1:TabT) (me2:Int) (l3:List NearT) (fr4:Int) (s5:SideT) (q6:Bool),(Qz17 ly t me l fr)=(Qz17 ly0 t1 me2 l3 fr4)∧((Zaa (Zbj t1)<10000∧Zaa (Zbl t1)<10000∧Zaa (Zbo t1)<10000)∧Zaa l3<1000000∧(∀(x:NearT),x∈l3→Zaa (Zbp x)<1000000∧Zaa (Zbn x)<1000000∧Zaa (Zcc x)<1000000)∧q6=newS ly0 t1 me2 l3 fr4∧s5=sideS ly0 me2 l3 fr4)∧BIf q6 (∃(n7:Int) (h8:Int) (z9:Bool), [Zab (i64 many),Zab (i64 24)]= [Zab (i64 n7),Zab (i64 h8)]∧z9=inN n7 h8∧BIf (!z9) (R (.agg (Qz3 t)) b) (∃(s10:SideT) (pe11:Int) (q12:NearT) (e13:Bool), [Zag (Qz2 s5),Zab (i64 pe)]= [Zag (Qz2 s10),Zab (i64 pe11)]∧(Zaa (Zas s10)≤9223372036854775807∧q12=nearO (sFind s10 pe11)∧e13=Option.isSome (sFind s10 pe11))∧BIf (!e13) (R (.agg (Qz41 t)) b) (∃(s14:SideT) (us15:List UseT) (gs16:List GraT) (n17:NearT) (pe18:Int) (l19:List AskT) (q20:List AskT), [Zab (Zaf 3 (rowsA (Zbo t))),Zat (Fn.func 41) [] [Zag [i64 pe],Zag [Zco (Fn.func 38) [Zdn [Zdn (Qz2 s5)],Zdn [Zaf 4 (rowsU (Zbj t)),Zaf 5 (rowsG (Zbl t)),Zdc (.slice none 0 0)],Zdn (Qz4 q12)]]]]= [Zab (Zaf 3 (rowsA l19)),Zat (Fn.func 41) [] [Zag [i64 pe18],Zag [Zco (Fn.func 38) (Qz12 s14 us15 gs16 n17)]]]∧(((Zaa (Zas s14)≤9223372036854775807∧(∀(x:NearT),x∈Zas s14→Zaa (Zbp x)≤9223372036854775807∧Zaa (Zbn x)≤9223372036854775807∧Zaa (Zcc x)≤9223372036854775807)∧layOk (Zcn s14)=true)∧(Zaa us15<10000∧Zaa gs16<10000)∧Zaa (Zbp n17)<10000∧Zaa (Zbn n17)<10000)∧Zaa l19<1000000∧q20=List.filter (keepA s14 us15 gs16 n17 pe18) l19)∧BIf (List.isEmpty q20) (∃(z21:Int),(z21=if many<(0:Int) then many else (0:Int))∧BIf (decide (z21=(0:Int))) (∃(s22:SideT), [Zag (Qz2 s5)]= [Zag (Qz2 s22)]∧∃(ly23:LayT) (us24:List UseT) (gs25:List GraT) (pe26:Int) (many27:Int) (s28:SideT) (n29:NearT),rfAk=rfAk∧(((Zaa (Zas s28)≤9223372036854775807∧(∀(x:NearT),x∈Zas s28→Zaa (Zbp x)≤9223372036854775807∧Zaa (Zbn x)≤9223372036854775807∧Zaa (Zcc x)≤9223372036854775807)∧layOk (Zcn s28)=true)∧(Zaa us24<10000∧Zaa gs25<10000)∧Zaa (Zbp n29)<10000∧Zaa (Zbn n29)<10000)∧Zcn s28=ly23∧(1:Int)≤Zds ly23∧Zds ly23≤(60:Int))∧∃(q30:List AskT),(bds 8 (Zak 1 0::Zad::Zad::Zak 2 0::Zak 3 0::Zad::Zak 4 0::bds 5 (Zak 7 0::Zak 8 0::bds 41 (Zat (Fn.func 89) [] [Zag [Zdn (Qz2 s22)]]::bds 25 []))))=(bds 8 (Zak 1 0::Zad::Zad::Zak 2 0::Zak 3 0::Zad::Zak 4 0::bds 5 (Zak 7 0::Zak 8 0::bds 41 (Zat (Fn.func 89) [] [Zag [Zdn (Qz2 s28)]]::bds 25 []))))∧ [Blk.mk (Qz5 ly) false false 0,Blk.mk (Qz41 t) false false 0,cell (i64 pe),cell (i64 many),Blk.mk Qz6 false false 0,Blk.mk [Zag (Qz2 s5)] false false 0,Blk.mk (Qz1 q12) false false 0,Blk.mk [Zat (Fn.func 38) [] [Zak 5 0,Zak 1 0,Zak 6 0]] false false 0,cell (Zdc (.slice none 0 0))]= [Blk.mk (Qz5 ly23) false false 0,Blk.mk (Qz11 us24 gs25) false false 0,cell (i64 pe26),cell (i64 many27),Blk.mk Qz6 false false 0,Blk.mk [Zag (Qz2 s28)] false false 0,Blk.mk (Qz1 n29) false false 0,Blk.mk [Zat (Fn.func 38) [] [Zak 5 0,Zak 1 0,Zak 6 0]] false false 0,cell (Zdc (.slice none 0 0))]∧q30=askGo s28 us24 gs25 n29 pe26 many27 (triKs ly23) []∧BIf (List.isEmpty q30) (R (.agg (Qz11 us24 gs25)) b∧R (.agg (Qz11 us24 gs25)) b) (∀(v:Nat) (c0:List AV),(∃(z31:List AskT),some (Qz47 q30 v)=some (Qz47 z31 v)∧(3=3∧Zaa z31=Zaa q30∧Zaa q30<1000000∧∀(a:AskT),a∈z31→(-1000:Int)≤Zde a∧Zde a≤(1000:Int))∧∀(z':List AskT),List.Perm z' z31→List.Pairwise (fun (a32 b33:AskT)=>Zde a32≤Zde b33) z'→v=v∧∃(xs34:List (List Dv)),flatA (rowsA z')=flatA xs34∧Zaa xs34=Zaa q30∧(∀(r:List Dv),r∈xs34→Zaa r=3)∧R (.agg (Qz55 us24 gs25 xs34)) b)∧∃(z35:List AskT),some (Qz47 q30 v)=some (Qz47 z35 v)∧(3=3∧Zaa z35=Zaa q30∧Zaa q30<1000000∧∀(a:AskT),a∈z35→(-1000:Int)≤Zde a∧Zde a≤(1000:Int))∧∀(z':List AskT),List.Perm z' z35→List.Pairwise (fun (a36 b37:AskT)=>Zde a36≤Zde b37) z'→v=v∧∃(xs38:List (List Dv)),flatA (rowsA z')=flatA xs38∧Zaa xs38=Zaa q30∧(∀(r:List Dv),r∈xs38→Zaa r=3)∧R (.agg (Qz55 us24 gs25 xs38)) b)) False) (Zaa q20 - 1=Zaa q20 - 1∧∃(z39:Int),(z39=if many<((Zaa q20:Nat):Int) then many else ((Zaa q20:Nat):Int))∧BIf (true&&decide (0≤z39)&&decide (z39≤((Zaa q20:Nat):Int))) (Zaa q20 - 1=Zaa q20 - 1∧∃(s40:SideT), [Zag (Qz2 s5)]= [Zag (Qz2 s40)]∧∃(ly41:LayT) (us42:List UseT) (gs43:List GraT) (pe44:Int) (many45:Int) (s46:SideT) (n47:NearT),rfAk=rfAk∧(((Zaa (Zas s46)≤9223372036854775807∧(∀(x:NearT),x∈Zas s46→Zaa (Zbp x)≤9223372036854775807∧Zaa (Zbn x)≤9223372036854775807∧Zaa (Zcc x)≤9223372036854775807)∧layOk (Zcn s46)=true)∧(Zaa us42<10000∧Zaa gs43<10000)∧Zaa (Zbp n47)<10000∧Zaa (Zbn n47)<10000)∧Zcn s46=ly41∧(1:Int)≤Zds ly41∧Zds ly41≤(60:Int))∧∃(z48:List AskT) (q49:List AskT) (v50:Nat),(bds 8 (Zak 1 0::Zad::Zad::Zak 2 0::Zak 3 0::Zad::Zak 4 0::bds 5 (Zak 7 0::Zak 10 0::bds 41 (Zat (Fn.func 89) [] [Zag [Zdn (Qz2 s40)]]::bds 25 []))))=(bds 8 (Zak 1 0::Zad::Zad::Zak 2 0::Zak 3 0::Zad::Zak 4 0::bds 5 (Zak 7 0::Zak 10 0::bds 41 (Zat (Fn.func 89) [] [Zag [Zdn (Qz2 s46)]]::bds 25 []))))∧ [Blk.mk (Qz5 ly) false false 0,Blk.mk (Qz41 t) false false 0,cell (i64 pe),cell (i64 many),Blk.mk Qz6 false false 0,Blk.mk [Zag (Qz2 s5)] false false 0,Blk.mk (Qz1 q12) false false 0,Blk.mk [Zat (Fn.func 38) [] [Zak 5 0,Zak 1 0,Zak 6 0]] false false 0,Blk.mk [bad,bad,bad] false false 0,Blk.mk (List.take (Zav z39*3) (flatA (rowsA q20))) false true (Zaa q20 - 1+1),Blk.mk [Zbu 9 (Zaa q20 - 1+1) (Zav z39) 3] false false 0]= [Blk.mk (Qz5 ly41) false false 0,Blk.mk (Qz11 us42 gs43) false false 0,cell (i64 pe44),cell (i64 many45),Blk.mk Qz6 false false 0,Blk.mk [Zag (Qz2 s46)] false false 0,Blk.mk (Qz1 n47) false false 0,Blk.mk [Zat (Fn.func 38) [] [Zak 5 0,Zak 1 0,Zak 6 0]] false false 0,Blk.mk [bad,bad,bad] false false 0,Blk.mk (flatA (rowsA z48)) false true v50,Blk.mk [Zbu 9 v50 (Zaa z48) 3] false false 0]∧(Zaa z48<90000∧q49=askGo s46 us42 gs43 n47 pe44 many45 (triKs ly41) z48)∧∀(v:Nat),(∃(z51:List AskT),some (Qz47 q49 v)=some (Qz47 z51 v)∧(3=3∧Zaa z51=Zaa q49∧Zaa q49<1000000∧∀(a:AskT),a∈z51→(-1000:Int)≤Zde a∧Zde a≤(1000:Int))∧∀(z':List AskT),List.Perm z' z51→List.Pairwise (fun (a52 b53:AskT)=>Zde a52≤Zde b53) z'→v=v∧∃(xs54:List (List Dv)),flatA (rowsA z')=flatA xs54∧Zaa xs54=Zaa q49∧(∀(r:List Dv),r∈xs54→Zaa r=3)∧R (.agg (Qz55 us42 gs43 xs54)) b)∧∃(z55:List AskT),some (Qz47 q49 v)=some (Qz47 z55 v)∧(3=3∧Zaa z55=Zaa q49∧Zaa q49<1000000∧∀(a:AskT),a∈z55→(-1000:Int)≤Zde a∧Zde a≤(1000:Int))∧∀(z':List AskT),List.Perm z' z55→List.Pairwise (fun (a56 b57:AskT)=>Zde a56≤Zde b57) z'→v=v∧∃(xs58:List (List Dv)),flatA (rowsA z')=flatA xs58∧Zaa xs58=Zaa q49∧(∀(r:List Dv),r∈xs58→Zaa r=3)∧R (.agg (Qz55 us42 gs43 xs58)) b) False)))) (R (.agg (Qz3 t)) b)):=by kernel_rfl
theorem AIe9 (n:Nat):∀ {l:List AskT},l.Pairwise (fun a b=>a.sl≤b.sl)→l.filter (fun x=>decide (x.sl<((n+1:Nat):Int)))=l.filter (fun x=>decide (x.sl<(n:Int)))++l.filter (fun x=>x.sl==((n:Nat):Int))
 | [],_=>rfl
 | a::l,h=>by
   obtain ⟨h1,h2⟩:=Zen.1 h
   have ih:=AIe9 n h2
   simp only [List.filter_cons]
   by_cases c1:a.sl<(n:Int)
   · have c2:a.sl<((n+1:Nat):Int):=by omega
     have c3:¬a.sl=(n:Int):=by omega
     simp only [c1,c2,decide_true,if_true,beq_iff_eq,c3,if_false,List.cons_append,ih]
   · have e0:l.filter (fun x=>decide (x.sl<(n:Int)))= []:=by
       rw [List.filter_eq_nil_iff]
       intro x hx
       have:=h1 x hx
       simp;omega
     by_cases c3:a.sl=(n:Int)
     · have c2:a.sl<((n+1:Nat):Int):=by omega
       simp only [c1,c2,c3,decide_true,decide_false,if_true,Bool.false_eq_true,if_false,beq_self_eq_true,ih,e0,List.nil_append]
       simp [c3]
       omega
     · have c2:¬a.sl<((n+1:Nat):Int):=by omega
       simp only [c1,c2,decide_false,Bool.false_eq_true,if_false,beq_iff_eq,c3,ih]
theorem AGf9 (n:Int):∀ {l:List AskT},l.Pairwise (fun a b=>a.sl≠b.sl)→(l.filter (fun x=>x.sl==n)).length≤1
 | [],_=>by simp
 | a::l,h=>by
   obtain ⟨h1,h2⟩:=Zen.1 h
   rw [List.filter_cons]
   split
   · rename_i c
     have e0:l.filter (fun x=>x.sl==n)= []:=by
       rw [List.filter_eq_nil_iff]
       intro x hx
       have:=h1 x hx
       simp only [beq_iff_eq] at c ⊢
       omega
     simp [e0]
   · exact AGf9 n h2
theorem BRk9 {α:Type} {a b:List α} (h:a.Perm b) (hb:b.length≤1):a=b:=by
 match b,hb with
 | [],_=>exact h.eq_nil
 | [x],_=>exact List.perm_singleton.1 h
theorem AKv9 {l z:List AskT} (hp:l.Perm z) (hs:l.Pairwise (fun a b=>a.sl≤b.sl)) (hd:z.Pairwise (fun a b=>a.sl≠b.sl)) (h0:∀a∈z,0≤a.sl):∀n:Nat,l.filter (fun x=>decide (x.sl<(n:Int)))=sortA z n
 | 0=>by
   rw [sortA,List.filter_eq_nil_iff]
   intro x hx
   have:=h0 x (hp.mem_iff.1 hx)
   simp;omega
 | n+1=>by
   rw [AIe9 n hs,sortA,AKv9 hp hs hd h0 n]
   congr 1
   exact BRk9 (hp.filter _) (AGf9 _ hd)
theorem BCb9 {l z:List AskT} {n:Nat} (hp:l.Perm z) (hs:l.Pairwise (fun a b=>a.sl≤b.sl)) (hd:z.Pairwise (fun a b=>a.sl≠b.sl)) (h0:∀a∈z,0≤a.sl∧a.sl<(n:Int)):l=sortA z n:=by
 rw [←AKv9 hp hs hd (fun a h=>(h0 a h).1) n,List.filter_eq_self.2]
 intro x hx
 exact decide_eq_true (h0 x (hp.mem_iff.1 hx)).2
def AGu9 (da:Int) (z:List AskT):Prop:=(∀a∈z,0≤a.sl∧a.sl<da)∧z.Pairwise (fun a b=>a.sl≠b.sl)
theorem ATh9 (s:SideT) (k:Nat) (hd:1≤s.lay.da∧s.lay.da≤60) (hc:0≤triC s k):0≤triSl s k∧triSl s k<s.lay.da:=by
 unfold triSl
 rw [Int.tmod_eq_emod_of_nonneg hc]
 exact ⟨Int.emod_nonneg _ (by omega),Int.emod_lt_of_pos _ (by omega)⟩
theorem BHo9 {s:SideT} {us:List UseT} {gs:List GraT} {n:NearT} {pe:Int} {z:List AskT} {k:Nat} (h:AGu9 s.lay.da z) (hk:0≤triSl s k∧triSl s k<s.lay.da):AGu9 s.lay.da (AFu9 s us gs n pe z k):=by
 unfold AFu9
 split
 · split
   · exact h
   · rename_i hz
     refine ⟨fun a ha=> ?_, ?_⟩
     · rcases Zbs.1 ha with ha|ha
       · exact h.1 a ha
       · rw [List.mem_singleton] at ha;subst ha;exact hk
     · rw [List.pairwise_append]
       refine ⟨h.2,List.pairwise_singleton _ _,fun a ha b hb=> ?_⟩
       rw [List.mem_singleton] at hb;subst hb
       simp only [List.any_eq_true,beq_iff_eq,not_exists,not_and] at hz
       exact hz a ha
 · exact h
theorem AIg9 {s:SideT} {us:List UseT} {gs:List GraT} {n:NearT} {pe many:Int}:∀ {ks:List Nat} {z:List AskT},AGu9 s.lay.da z→(∀k∈ks,0≤triSl s k∧triSl s k<s.lay.da)→AGu9 s.lay.da (askGo s us gs n pe many ks z)
 | [],z,h,_=>h
 | k::r,z,h,hk=>by
   rw [askGo]
   split
   · exact h
   · exact AIg9 (BHo9 h (hk k (Zbz))) fun k' h'=>hk k' (Zbx _ h')
theorem ATo9:∀(n:Nat) {l:List Nat},l.Nodup→(∀x∈l,x<n)→l.length≤n
 | 0,l,_,h=>by
   cases l with
   |nil=>simp
   |cons a l=>exact absurd (h a (by simp)) (by omega)
 | n+1,l,hn,h=>by
   by_cases hm:n∈l
   · have h1:=ATo9 n (hn.erase n) (fun x hx=>by
       have h2:=(List.Nodup.mem_erase_iff hn).1 hx
       have h3:=h x h2.2
       have h4:=h2.1
       omega)
     rw [List.length_erase_of_mem hm] at h1
     omega
   · have h1:=ATo9 n hn (fun x hx=>by
       have h2:=h x hx
       have h3:x≠n:=fun e=>hm (e▸hx)
       omega)
     omega
theorem AGu9.len {da:Int} {z:List AskT} (h:AGu9 da z) (hd:0≤da∧da≤60):z.length≤60:=by
 have hn:(z.map fun a=>a.sl.toNat).Nodup:=by
   rw [List.Nodup,List.pairwise_map]
   refine List.Pairwise.imp_of_mem (fun {a b} ha hb hab=> ?_) h.2
   have h1:=h.1 a ha
   have h2:=h.1 b hb
   omega
 have h2:=ATo9 60 hn fun x hx=>by
   obtain ⟨a,ha,rfl⟩:=Zbb.1 hx
   have h1:=h.1 a ha
   omega
 simpa using h2
theorem BJb9:∀args hp K,BRb9 args hp K→∃x hp',SCall prog 45 args hp x hp'∧K x hp':=by
 intro args hp K h
 unfold BRb9 at h
 split at h
 · refine ⟨_,_,⟨enters_of func45 (by kernel_rfl) rfl, ?_⟩,h⟩
   intro S X yv w m B hv vs hl hr
   obtain ⟨v0,v1,rfl⟩:∃v0 v1,vs= [v0,v1]:=by
     match vs,hl with
     | [a,b],_=>exact ⟨a,b,rfl⟩
   have h0:=RV.s_eq (hr.rv (.d (.s (.slice none 0 0)),v0) (by simp))
   subst h0
   refine callsIn_wide.2 ((AnyF.slices_SortFunc_none Tryz.sortAsk none 0 v1 w).mono ?_)
   rintro _ _ ⟨rfl,rfl⟩
   refine ⟨_,S,m,hv,rfl,Gs.refl _ _ _ _ _,Rel.cons (hr.sub (List.sublist_append_right _ _)) (.tup rfl (by intro i c v hc;simp at hc)) rfl⟩
 · obtain ⟨z,hg,⟨rfl,rfl,hn,hz⟩,hK⟩:=h
   exact BXx9 hg hn hz K fun z' h1 h2=>hK z' h1 h2
 · exact h.elim
def keptA (s:SideT) (t:TabT) (n:NearT) (pe many:Int):List AskT:=(t.ak.filter (keepA s t.us t.gs n pe)).take many.toNat
def askS (ly:LayT) (t:TabT) (me:Int) (l:List NearT) (pe many fr:Int):TabT:=
 if (newS ly t me l fr&&inN many 24)=true then
   match sFind (sideS ly me l fr) pe with
   |none=>⟨t.us,t.gs, []⟩
   |some n=>⟨t.us,t.gs,sortA (askGo (sideS ly me l fr) t.us t.gs n pe many (triKs ly) (keptA (sideS ly me l fr) t n pe many)) ly.da.toNat⟩
 else t
theorem AQy9 {ly:LayT} {t:TabT} {me:Int} {l:List NearT} {fr:Int} (h:newS ly t me l fr=true):(0≤me∧me<ly.no)∧(0≤fr∧fr≤999999992):=by
 have hv:=ABc9 (ADq9 h)
 rw [newS,Zaj,Zaj,Zaj] at h
 have h1:=h.2.1
 have h2:=h.2.2.1
 simp only [inN,Zaj,decide_eq_true_eq] at h1 h2
 have e:Zae Zay (ly.no - 1)=ly.no - 1:=by simp [Zae,IntKind.bits,IntKind.signed];omega
 rw [e] at h1
 omega
theorem BBu9 {s:SideT} (k:Nat) (hk:k<1000) (hd:1≤s.lay.da∧s.lay.da≤60) (hm:0≤s.me∧s.me<60) (hf:0≤s.fr∧s.fr≤999999992):0≤triC s k:=by
 unfold triC
 have e1:Zae Zay (17*s.me)=17*s.me:=by simp [Zae,IntKind.bits,IntKind.signed];omega
 have e2:Zae Zay (5*s.fr)=5*s.fr:=by simp [Zae,IntKind.bits,IntKind.signed];omega
 have e3:Zae Zay (17*s.me+5*s.fr)=17*s.me+5*s.fr:=by simp [Zae,IntKind.bits,IntKind.signed];omega
 have e4:Zae Zay (17*s.me+5*s.fr+k)=17*s.me+5*s.fr+k:=by simp [Zae,IntKind.bits,IntKind.signed];omega
 rw [e1,e2,e3,e4]
 exact Int.tmod_nonneg _ (by omega)
def AIi9 (x:NearT):Prop:=x.us.length<10000∧x.gs.length<10000∧x.ak.length<10000
theorem AXc9 {R:AV→Prop} {us:List UseT} {gs:List GraT} {q:List AskT} {da:Int} {v:Nat} (hd:1≤da∧da≤60) (hs:AGu9 da q) (hR:R (tabA ⟨us,gs,sortA q da.toNat⟩)):
   ∃z:List AskT,some (Blk.mk (flatA (rowsA q)) false true v)=some (Blk.mk (flatA (rowsA z)) false true v)∧(3=3∧z.length=q.length∧q.length<1000000∧∀a∈z, -1000≤a.sl∧a.sl≤1000)∧∀z':List AskT,z'.Perm z→z'.Pairwise (fun a b=>a.sl≤b.sl)→v=v∧∃xs:List (List Dv),flatA (rowsA z')=flatA xs∧xs.length=q.length∧(∀r∈xs,r.length=3)∧R (.agg [.d (.sl 4 (rowsU us)), .d (.sl 5 (rowsG gs)), .d (.sl 3 xs)]):=by
 have hl:=hs.len (by omega)
 refine ⟨q,rfl,⟨rfl,rfl,by omega,fun a ha=> ?_⟩,fun z' h1 h2=>⟨rfl,rowsA z',rfl,by rw [AAx9,h1.length_eq],ANb9 z', ?_⟩⟩
 · have:=hs.1 a ha
   omega
 · have e:=BCb9 (n:=da.toNat) h1 h2 hs.2 (fun a ha=>by have:=hs.1 a ha;omega)
   rw [e]
   exact hR
theorem CEi9:AAk9 prog UAf:=Zbw CCy9 (Zbw BJb9 (Zbw (fun _ _ _ h=>h.elim) Zah))
theorem BQx9 (us:List UseT) (gs:List GraT):LeV (.agg [.d (.sl 4 (rowsU us)), .d (.sl 5 (rowsG gs)), .d (.s (.slice none 0 0))]) (tabA ⟨us,gs, []⟩):=LeV.aggs (.cons .rfl (.cons .rfl (.cons (.nil rfl) .nil)))
theorem AVj9:∀n:Nat,sortA [] n= []
 |0=>rfl
 |n+1=>by rw [sortA,AVj9 n];rfl
theorem pcAsk (ly:LayT) (t:TabT) (me:Int) (l:List NearT) (pe many fr:Int) (ht:TabOk t) (hl:l.length<1000000) (hx:∀x∈l,AIi9 x):
   PCall prog 12 [layA ly,tabA t, .d (i64 me), .d (.sl 31 (rowsN l)), .d (i64 pe), .d (i64 many), .d (i64 fr)] (tabA (askS ly t me l pe many fr)):=by
 have hx':∀x∈l,AFb9 x:=fun x h=>by have:=hx x h;exact ⟨by have:=this.1;omega,by have:=this.2.1;omega,by have:=this.2.2;omega⟩
 refine PCall.ofFnV (n:=100) (u:=false) (fun _=>wlAk) mixed CFg9 CEi9 (fun Ev=>BXg9) func12 (by rfl) (by rfl) fun Ev bb=> ?_
 rw [CEg9]
 refine ⟨ly,t,me,l,fr,_,_,rfl,⟨ht,hl,hx',rfl,rfl⟩,Zbh (fun h1=> ?_) fun h1=> ?_⟩
 · have hvt:=ADq9 h1
   have hv:=ABc9 hvt
   have hva:=AFw9 hvt
   have hin:=AQy9 h1
   have s1:=BCc9 (me:=me) (fr:=fr) hl hx' hv
   refine ⟨many,24,_,rfl,rfl,Zbh (fun h2=> ?_) fun h2=> ?_⟩
   · have h2':inN many 24=false:=by simpa using h2
     rw [askS,h2',Zem,if_neg (by decide)]
     exact .rfl
   have h2':inN many 24=true:=by simpa using h2
   have hm:0≤many∧many≤24:=by simpa [inN] using h2'
   refine ⟨sideS ly me l fr,pe,_,_,rfl,⟨s1.1,rfl,rfl⟩,Zbh (fun h3=> ?_) fun h3=> ?_⟩
   · have h3':sFind (sideS ly me l fr) pe=none:=by simpa using h3
     rw [askS,h1,h2',Bool.and_self,if_pos rfl,h3']
     exact BQx9 _ _
   have h3':(sFind (sideS ly me l fr) pe).isSome=true:=by simpa using h3
   obtain ⟨n,hn⟩:=Option.isSome_iff_exists.1 h3'
   have hnn:nearO (sFind (sideS ly me l fr) pe)=n:=by rw [hn];rfl
   have eS:askS ly t me l pe many fr=⟨t.us,t.gs,sortA (askGo (sideS ly me l fr) t.us t.gs n pe many (triKs ly) (keptA (sideS ly me l fr) t n pe many)) ly.da.toNat⟩:=by
     rw [askS,h1,h2',Bool.and_self,if_pos rfl,hn]
   rw [hnn,eS]
   have hnm:=List.mem_of_find?_eq_some hn
   have hnl:n.us.length<10000∧n.gs.length<10000:=by
     simp only [sideS,Zbb] at hnm
     obtain ⟨x,hxm,rfl⟩:=hnm
     have h4:=hx x hxm
     exact ⟨Zev (Zdu _ _) h4.1,Zev (Zdu _ _) h4.2.1⟩
   have hA:AskOk (sideS ly me l fr) t.us t.gs n:=⟨s1,⟨ht.1,ht.2.1⟩,hnl⟩
   have hset0:AGu9 ly.da t.ak:=⟨fun a ha=>by
     have h5:=hva.2.2.1.1 a ha
     simp only [askOk,ABr9,Zaj,decide_eq_true_eq] at h5
     omega,hva.2.2.1.2.imp fun h=>by omega⟩
   have hsub:∀m:Nat,AGu9 ly.da ((t.ak.filter (keepA (sideS ly me l fr) t.us t.gs n pe)).take m):=fun m=>
     ⟨fun a ha=>hset0.1 a (Zch.1 (List.mem_of_mem_take ha)).1,(hset0.2.sublist Zes).sublist (List.take_sublist _ _)⟩
   have htri:∀k∈triKs ly,0≤triSl (sideS ly me l fr) k∧triSl (sideS ly me l fr) k<(sideS ly me l fr).lay.da:=fun k hk=>by
     rw [triKs,List.mem_range'_1] at hk
     have hd:(sideS ly me l fr).lay.da=ly.da:=rfl
     exact ATh9 _ k (by rw [hd];exact hv.2) (BBu9 k (by omega) (by rw [hd];exact hv.2) ⟨hin.1.1,by have:=hin.1.2;show me<60;omega⟩ hin.2)
   refine ⟨sideS ly me l fr,t.us,t.gs,n,pe,t.ak,_,rfl,⟨hA,by have:=ht.2.2;omega,rfl⟩,Zbh (fun h4=> ?_) fun h4=> ?_⟩
   · have h4':t.ak.filter (keepA (sideS ly me l fr) t.us t.gs n pe)= []:=List.isEmpty_iff.1 h4
     have hk:keptA (sideS ly me l fr) t n pe many= []:=by rw [keptA,h4',List.take_nil]
     rw [hk]
     have hgs:=AIg9 (s:=sideS ly me l fr) (us:=t.us) (gs:=t.gs) (n:=n) (pe:=pe) (many:=many) (ks:=triKs ly) (z:= []) ⟨by simp, .nil⟩ htri
     refine ⟨_,rfl,Zbg (by rw [if_neg (by omega)];rfl) ⟨sideS ly me l fr,rfl,ly,t.us,t.gs,pe,many,sideS ly me l fr,n,rfl,⟨hA,rfl,hv.2⟩,_,rfl,rfl,rfl,Zbh (fun h5=> ?_) fun h5 v c0=> ?_⟩⟩
     · have h5':=List.isEmpty_iff.1 h5
       rw [h5',AVj9]
       exact ⟨BQx9 _ _,BQx9 _ _⟩
     · exact ⟨AXc9 (R:=fun y=>LeV y _) hv.2 hgs LeV.rfl,AXc9 (R:=fun y=>LeV y _) hv.2 hgs LeV.rfl⟩
   · have hq:(if many<((t.ak.filter (keepA (sideS ly me l fr) t.us t.gs n pe)).length:Int) then many else ((t.ak.filter (keepA (sideS ly me l fr) t.us t.gs n pe)).length:Int))=((keptA (sideS ly me l fr) t n pe many).length:Nat):=by
       rw [keptA,Zdb]
       split<;>omega
     have hgs:=AIg9 (s:=sideS ly me l fr) (us:=t.us) (gs:=t.gs) (n:=n) (pe:=pe) (many:=many) (ks:=triKs ly) (z:=keptA (sideS ly me l fr) t n pe many) (hsub _) htri
     have hlk:(keptA (sideS ly me l fr) t n pe many).length≤(t.ak.filter (keepA (sideS ly me l fr) t.us t.gs n pe)).length:=by rw [keptA,Zdb];exact Nat.min_le_right _ _
     have hlk2:(keptA (sideS ly me l fr) t n pe many).length<90000:=by
       have h6:=Zdu (keepA (sideS ly me l fr) t.us t.gs n pe) t.ak
       have h7:=ht.2.2
       omega
     have hfl:List.take (((keptA (sideS ly me l fr) t n pe many).length:Int).toNat*3) (flatA (rowsA (t.ak.filter (keepA (sideS ly me l fr) t.us t.gs n pe))))=flatA (rowsA (keptA (sideS ly me l fr) t n pe many)):=by
       have f:∀l:List AskT,flatA (rowsA l)=flatA (l.map askR):=fun _=>rfl
       rw [f,f,Int.toNat_natCast,ARv9 (k:=3) (row:=askR) (fun _=>rfl)]
       congr 2
       rw [keptA,Zdb,List.take_eq_take_iff]
       omega
     refine ⟨rfl,_,hq.symm,Zbg ?_ ⟨rfl,sideS ly me l fr,rfl,ly,t.us,t.gs,pe,many,sideS ly me l fr,n,rfl,⟨hA,rfl,hv.2⟩,keptA (sideS ly me l fr) t n pe many,_,(t.ak.filter (keepA (sideS ly me l fr) t.us t.gs n pe)).length - 1+1,rfl, ?_,⟨hlk2,rfl⟩,fun v=>⟨AXc9 (R:=fun y=>LeV y _) hv.2 hgs LeV.rfl,AXc9 (R:=fun y=>LeV y _) hv.2 hgs LeV.rfl⟩⟩⟩
     · simp only [Bool.true_and,Zaj,decide_eq_true_eq]
       omega
     · rw [hfl,Int.toNat_natCast]
 · rw [askS,h1,Bool.false_and,if_neg (by decide)]
   exact .rfl
def cAsk (args:List AV) (K:AV→Prop):Prop:=∃(ly:LayT) (t q:TabT) (me:Int) (l:List NearT) (pe many fr:Int),args= [layA ly,tabA t, .d (i64 me), .d (.sl 31 (rowsN l)), .d (i64 pe), .d (i64 many), .d (i64 fr)]∧(TabOk t∧l.length<1000000∧(∀x∈l,AIi9 x)∧q=askS ly t me l pe many fr)∧K (tabA q)
theorem BPf9:∀args K,cAsk args K→∃x,PCall prog 12 args x∧K x:=by
 rintro _ K ⟨ly,t,_,me,l,pe,many,fr,rfl,⟨ht,hl,hx,rfl⟩,hk⟩;exact ⟨_,pcAsk ly t me l pe many fr ht hl hx,hk⟩
noncomputable def lpSm0:Code:=sub [1,1,0,1,2,3] (code f15)
noncomputable def lpSm1:Code:=sub [1,1,1,0,1,2,3] (code f15)
noncomputable def lpSm2:Code:=sub [1,1,1,1,0,1,2,3] (code f15)
def tmSm0 (z:Bool) (i:Int):List AV:= [.bad, .bad, .ptr 0 0, .ptr 1 0, .d (bo z), .d (i64 i)]++Zaq 81 .bad
def tmSm1 (z:Bool) (i:Int):List AV:= [.bad, .bad, .ptr 0 0, .ptr 1 0, .d (bo z), .bad, .d (i64 i)]++Zaq 80 .bad
def tmSm2 (z:Bool) (i:Int):List AV:= [.bad, .bad, .ptr 0 0, .ptr 1 0, .d (bo z), .bad, .bad, .d (i64 i)]++Zaq 79 .bad
abbrev Qz25 (v0:TabT) (v1:TabT):= [Blk.mk (Qz3 v0) false false 0,Blk.mk (Qz3 v1) false false 0]
abbrev Qz62 (v0:Int):=Zad::Zad::Zak 0 0::Zak 1 0::Zab (bo false)::Zab (i64 v0)::bds 81 []
theorem rSm0 (t s:TabT) (i:Int):wpc prog ⟨[], [],wl,y,false⟩ 100 lpSm0 (tmSm0 false i) [tabB t,tabB s] b (maskK 2 [2,3,4,5] K)=(BIf (decide (i<((Zaa (rowsU (Zbj t)):Nat):Int))) (BIf (true&&decide (0≤i)) (∃(x0:Int) (x1:Int) (x2:Int) (x3:Int),(rowsU (Zbj t))[Zav i]? =some [i64 x0,i64 x1,i64 x2,i64 x3]∧BIf (true&&decide (0≤i)) (∃(x6:Int) (x7:Int) (x8:Int) (x9:Int),(rowsU (Zbj s))[Zav i]? =some [i64 x6,i64 x7,i64 x8,i64 x9]∧BIf (!(x0==x6&&(x1==x7&&true)&&(x2==x8&&(x3==x9&&true)))) (K .ret (Qz62 i) (Qz25 t s) b) (K .normal (Zad::Zad::Zak 0 0::Zak 1 0::Zab (bo false)::Zab (i64 (Zae .i64 (i+1)))::bds 81 []) (Qz25 t s) b)) False) False) (K (Zbv 0) (Qz62 i) (Qz25 t s) b)):=by kernel_rfl
abbrev Qz60 (v0:Int):=Zad::Zad::Zak 0 0::Zak 1 0::Zab (bo false)::Zad::Zab (i64 v0)::bds 80 []
theorem rSm1 (t s:TabT) (i:Int):wpc prog ⟨[], [],wl,y,false⟩ 100 lpSm1 (tmSm1 false i) [tabB t,tabB s] b (maskK 2 [2,3,4,6] K)=(BIf (decide (i<((Zaa (rowsG (Zbl t)):Nat):Int))) (BIf (true&&decide (0≤i)) (∃(x0:Int) (x1:Int) (x2:Int) (x3:Int) (x4:Int),(rowsG (Zbl t))[Zav i]? =some (Qz48 x0 x1 x2 x3 x4)∧BIf (true&&decide (0≤i)) (∃(x7:Int) (x8:Int) (x9:Int) (x10:Int) (x11:Int),(rowsG (Zbl s))[Zav i]? =some (Qz48 x7 x8 x9 x10 x11)∧BIf (!(x0==x7&&(x1==x8&&true)&&(x2==x9&&(x3==x10&&(x4==x11&&true))))) (K .ret (Qz60 i) (Qz25 t s) b) (K .normal (Zad::Zad::Zak 0 0::Zak 1 0::Zab (bo false)::Zad::Zab (i64 (Zae .i64 (i+1)))::bds 80 []) (Qz25 t s) b)) False) False) (K (Zbv 2) (Qz60 i) (Qz25 t s) b)):=by kernel_rfl
abbrev Qz58 (v0:Int):=Zad::Zad::Zak 0 0::Zak 1 0::Zab (bo false)::Zad::Zad::Zab (i64 v0)::bds 79 []
theorem rSm2 (t s:TabT) (i:Int):wpc prog ⟨[], [],wl,y,false⟩ 100 lpSm2 (tmSm2 false i) [tabB t,tabB s] b (maskK 2 [2,3,4,7] K)=(BIf (decide (i<((Zaa (rowsA (Zbo t)):Nat):Int))) (BIf (true&&decide (0≤i)) (∃(x0:Int) (x1:Int) (x2:Int),(rowsA (Zbo t))[Zav i]? =some [i64 x0,i64 x1,i64 x2]∧BIf (true&&decide (0≤i)) (∃(x5:Int) (x6:Int) (x7:Int),(rowsA (Zbo s))[Zav i]? =some [i64 x5,i64 x6,i64 x7]∧BIf (!(x0==x5&&(x1==x6&&true)&&(x2==x7&&true))) (K .ret (Qz58 i) (Qz25 t s) b) (K .normal (Zad::Zad::Zak 0 0::Zak 1 0::Zab (bo false)::Zad::Zad::Zab (i64 (Zae .i64 (i+1)))::bds 79 []) (Qz25 t s) b)) False) False) (K (Zbv 4) (Qz58 i) (Qz25 t s) b)):=by kernel_rfl
def smU (x y:UseT):Bool:=x.sl==y.sl&&(x.of==y.of&&true)&&(x.pe==y.pe&&(x.st==y.st&&true))
def smG (x y:GraT):Bool:=x.sl==y.sl&&(x.of==y.of&&true)&&(x.pe==y.pe&&(x.st==y.st&&(x.un==y.un&&true)))
def smA (x y:AskT):Bool:=x.sl==y.sl&&(x.of==y.of&&true)&&(x.pe==y.pe&&true)
def AGv9 {α:Type} (f:α→α→Bool):List α→List α→Bool
 | [], []=>true
 |x::r,y::s=>f x y&&AGv9 f r s
 |_,_=>false
theorem AIk9 {α:Type} (f:α→α→Bool):∀l m:List α,AGv9 f l m=(decide (l.length=m.length)&& !(l.zip m).any fun p=> !f p.1 p.2)
 | [], []=>rfl
 | [],y::s=>rfl
 |x::r, []=>rfl
 | x::r,y::s=>by
   rw [AGv9,AIk9 f r s]
   cases h:f x y<;>simp [h]
theorem BPr9 {α:Type} {l m:List α} {i:Nat} {p:α×α} (h:(l.zip m)[i]? =some p):l[i]? =some p.1∧m[i]? =some p.2:=by
 rw [List.getElem?_zip_eq_some] at h;exact h
def sameS (a b:TabT):Bool:=AGv9 smU a.us b.us&&(AGv9 smG a.gs b.gs&&AGv9 smA a.ak b.ak)
theorem wrSm0 {Ev:Env prog} {b:Ev.β} {Q:Exit→St Ev.β→Prop} (t s:TabT) (he:t.us.length=s.us.length) (hl:t.us.length<1000000) (h1:(t.us.zip s.us).any (fun p=> !smU p.1 p.2)=false→∀i:Int,Q (.exit 0) ⟨tmSm0 false i, [tabB t,tabB s],b⟩) (h2:(t.us.zip s.us).any (fun p=> !smU p.1 p.2)=true→∀i:Int,Q .ret ⟨tmSm0 false i, [tabB t,tabB s],b⟩):
   WR Ev lpSm0 (t.us.length+1) ⟨tmSm0 false (0:Nat), [tabB t,tabB s],b⟩ Q:=by
 have e:(t.us.zip s.us).length=t.us.length:=by rw [List.length_zip,←he,Nat.min_self]
 rw [←e]
 refine WR.scanL (X:=⟨[], [],wlW Ev,Ev.Y,false⟩) (k:=100) [2,3,4,5] mixed (CX.Ok.of Zal Zah) (t.us.zip s.us) (fun p=> !smU p.1 p.2) (fun i=>tmSm0 false (i:Nat)) (fun i=>tmSm0 false (i:Nat)) [tabB t,tabB s] 0 (fun i x hi hx K k1 k2=> ?_) (fun K k1=> ?_) (fun h=>h1 h _) fun h i=>h2 h _
 · obtain ⟨g1,g2⟩:=BPr9 hx
   refine Eq.mpr (rSm0 _ _ _ K t s i) ?_
   rw [AAi9]
   refine Zbg (by simp;omega) (Zbg (natI i) ⟨_,_,_,_,AEl9 g1,Zbg (natI i) ⟨_,_,_,_,AEl9 g2,Zbh (fun c=>k1 c) fun c=> ?_⟩⟩)
   rw [wrapN (by omega)]
   exact k2 c
 · refine Eq.mpr (rSm0 _ _ _ K t s _) ?_
   rw [AAi9]
   exact Zdl (by simp [e]) k1
theorem wrSm1 {Ev:Env prog} {b:Ev.β} {Q:Exit→St Ev.β→Prop} (t s:TabT) (he:t.gs.length=s.gs.length) (hl:t.gs.length<1000000) (h1:(t.gs.zip s.gs).any (fun p=> !smG p.1 p.2)=false→∀i:Int,Q (.exit 2) ⟨tmSm1 false i, [tabB t,tabB s],b⟩) (h2:(t.gs.zip s.gs).any (fun p=> !smG p.1 p.2)=true→∀i:Int,Q .ret ⟨tmSm1 false i, [tabB t,tabB s],b⟩):
   WR Ev lpSm1 (t.gs.length+1) ⟨tmSm1 false (0:Nat), [tabB t,tabB s],b⟩ Q:=by
 have e:(t.gs.zip s.gs).length=t.gs.length:=by rw [List.length_zip,←he,Nat.min_self]
 rw [←e]
 refine WR.scanL (X:=⟨[], [],wlW Ev,Ev.Y,false⟩) (k:=100) [2,3,4,6] mixed (CX.Ok.of Zal Zah) (t.gs.zip s.gs) (fun p=> !smG p.1 p.2) (fun i=>tmSm1 false (i:Nat)) (fun i=>tmSm1 false (i:Nat)) [tabB t,tabB s] 2 (fun i x hi hx K k1 k2=> ?_) (fun K k1=> ?_) (fun h=>h1 h _) fun h i=>h2 h _
 · obtain ⟨g1,g2⟩:=BPr9 hx
   refine Eq.mpr (rSm1 _ _ _ K t s i) ?_
   rw [AAh9]
   refine Zbg (by simp;omega) (Zbg (natI i) ⟨_,_,_,_,_,ADc9 g1,Zbg (natI i) ⟨_,_,_,_,_,ADc9 g2,Zbh (fun c=>k1 c) fun c=> ?_⟩⟩)
   rw [wrapN (by omega)]
   exact k2 c
 · refine Eq.mpr (rSm1 _ _ _ K t s _) ?_
   rw [AAh9]
   exact Zdl (by simp [e]) k1
theorem wrSm2 {Ev:Env prog} {b:Ev.β} {Q:Exit→St Ev.β→Prop} (t s:TabT) (he:t.ak.length=s.ak.length) (hl:t.ak.length<1000000) (h1:(t.ak.zip s.ak).any (fun p=> !smA p.1 p.2)=false→∀i:Int,Q (.exit 4) ⟨tmSm2 false i, [tabB t,tabB s],b⟩) (h2:(t.ak.zip s.ak).any (fun p=> !smA p.1 p.2)=true→∀i:Int,Q .ret ⟨tmSm2 false i, [tabB t,tabB s],b⟩):
   WR Ev lpSm2 (t.ak.length+1) ⟨tmSm2 false (0:Nat), [tabB t,tabB s],b⟩ Q:=by
 have e:(t.ak.zip s.ak).length=t.ak.length:=by rw [List.length_zip,←he,Nat.min_self]
 rw [←e]
 refine WR.scanL (X:=⟨[], [],wlW Ev,Ev.Y,false⟩) (k:=100) [2,3,4,7] mixed (CX.Ok.of Zal Zah) (t.ak.zip s.ak) (fun p=> !smA p.1 p.2) (fun i=>tmSm2 false (i:Nat)) (fun i=>tmSm2 false (i:Nat)) [tabB t,tabB s] 4 (fun i x hi hx K k1 k2=> ?_) (fun K k1=> ?_) (fun h=>h1 h _) fun h i=>h2 h _
 · obtain ⟨g1,g2⟩:=BPr9 hx
   refine Eq.mpr (rSm2 _ _ _ K t s i) ?_
   rw [AAx9]
   refine Zbg (by simp;omega) (Zbg (natI i) ⟨_,_,_,ACr9 g1,Zbg (natI i) ⟨_,_,_,ACr9 g2,Zbh (fun c=>k1 c) fun c=> ?_⟩⟩)
   rw [wrapN (by omega)]
   exact k2 c
 · refine Eq.mpr (rSm2 _ _ _ K t s _) ?_
   rw [AAx9]
   exact Zdl (by simp [e]) k1
def wlSm {β:Type}:WLT β:=fun cd tm hp b K=>match cidO cd with
 |5=>∃(t s:TabT) (q:Bool),cd= .loop lpSm0∧ABd9 [2,3,4,5] 0 tm=tmSm0 false 0∧hp= [tabB t,tabB s]∧(t.us.length=s.us.length∧t.us.length<1000000∧q=(t.us.zip s.us).any fun p=> !smU p.1 p.2)∧BIf q (∀i:Int,K .ret (tmSm0 false i) [tabB t,tabB s] b) (∀i:Int,K (.exit 0) (tmSm0 false i) [tabB t,tabB s] b)
 |10=>∃(t s:TabT) (q:Bool),cd= .loop lpSm1∧ABd9 [2,3,4,6] 0 tm=tmSm1 false 0∧hp= [tabB t,tabB s]∧(t.gs.length=s.gs.length∧t.gs.length<1000000∧q=(t.gs.zip s.gs).any fun p=> !smG p.1 p.2)∧BIf q (∀i:Int,K .ret (tmSm1 false i) [tabB t,tabB s] b) (∀i:Int,K (.exit 2) (tmSm1 false i) [tabB t,tabB s] b)
 |15=>∃(t s:TabT) (q:Bool),cd= .loop lpSm2∧ABd9 [2,3,4,7] 0 tm=tmSm2 false 0∧hp= [tabB t,tabB s]∧(t.ak.length=s.ak.length∧t.ak.length<1000000∧q=(t.ak.zip s.ak).any fun p=> !smA p.1 p.2)∧BIf q (∀i:Int,K .ret (tmSm2 false i) [tabB t,tabB s] b) (∀i:Int,K (.exit 4) (tmSm2 false i) [tabB t,tabB s] b)
 |_=>False
theorem BWp9 {Ev:Env prog} (c:Code) (tm:List AV) (hp:List Blk) (b:Ev.β) (K:Exit→List AV→List Blk→Ev.β→Prop) (h:wlSm c tm hp b K):W Ev c ⟨tm,hp,b⟩ (fun e s=>K e s.tm s.hp s.b):=by
 unfold wlSm at h
 split at h
 · obtain ⟨t,s,q,rfl,htm,rfl,⟨he,hl,hz⟩,hK⟩:=h
   refine W.cast (htm▸AAe9 _ tm 0) (Zce _) ?_
   exact W.rounds (wrSm0 (Q:=fun e s=>K e s.tm s.hp s.b) t s he hl (fun h=>by rw [hz,h] at hK;exact hK) fun h=>by rw [hz,h] at hK;exact hK)
 · obtain ⟨t,s,q,rfl,htm,rfl,⟨he,hl,hz⟩,hK⟩:=h
   refine W.cast (htm▸AAe9 _ tm 0) (Zce _) ?_
   exact W.rounds (wrSm1 (Q:=fun e s=>K e s.tm s.hp s.b) t s he hl (fun h=>by rw [hz,h] at hK;exact hK) fun h=>by rw [hz,h] at hK;exact hK)
 · obtain ⟨t,s,q,rfl,htm,rfl,⟨he,hl,hz⟩,hK⟩:=h
   refine W.cast (htm▸AAe9 _ tm 0) (Zce _) ?_
   exact W.rounds (wrSm2 (Q:=fun e s=>K e s.tm s.hp s.b) t s he hl (fun h=>by rw [hz,h] at hK;exact hK) fun h=>by rw [hz,h] at hK;exact hK)
 · exact h.elim
abbrev Qz54:=Zad::Zad::Zak 0 0::Zak 1 0::Zab (bo false)::Zad::Zad::Zab (i64 0)::bds 79 []
abbrev Qz57:=Zad::Zad::Zak 0 0::Zak 1 0::Zab (bo false)::Zad::Zab (i64 0)::bds 80 []
abbrev Qz59:=Zad::Zad::Zak 0 0::Zak 1 0::Zab (bo false)::Zab (i64 0)::bds 81 []
theorem BYa9 (t s:TabT):wpFn prog ⟨[], [],wlSm,y,false⟩ 100 f15 [tabA t,tabA s] b R=(BIf (((Zaa (rowsU (Zbj t)):Nat):Int) !=((Zaa (rowsU (Zbj s)):Nat):Int)) (R (.d (bo false)) b) (BIf (((Zaa (rowsG (Zbl t)):Nat):Int) !=((Zaa (rowsG (Zbl s)):Nat):Int)) (R (.d (bo false)) b) (BIf (((Zaa (rowsA (Zbo t)):Nat):Int) !=((Zaa (rowsA (Zbo s)):Nat):Int)) (R (.d (bo false)) b) (∃(t0:TabT) (s1:TabT) (q2:Bool),Zaz lpSm0=Zaz lpSm0∧Qz59=Qz59∧(Qz25 t s)=(Qz25 t0 s1)∧(Zaa (Zbj t0)=Zaa (Zbj s1)∧Zaa (Zbj t0)<1000000∧q2=List.any (List.zip (Zbj t0) (Zbj s1)) fun (p3:UseT×UseT)=> !smU (Prod.fst p3) (Prod.snd p3))∧BIf q2 (∀(i:Int),R (.d (bo false)) b) (∀(i:Int),∃(t4:TabT) (s5:TabT) (q6:Bool),Zaz lpSm1=Zaz lpSm1∧Qz57=Qz57∧(Qz25 t0 s1)=(Qz25 t4 s5)∧(Zaa (Zbl t4)=Zaa (Zbl s5)∧Zaa (Zbl t4)<1000000∧q6=List.any (List.zip (Zbl t4) (Zbl s5)) fun (p7:GraT×GraT)=> !smG (Prod.fst p7) (Prod.snd p7))∧BIf q6 (∀(i:Int),R (.d (bo false)) b) (∀(i:Int),∃(t8:TabT) (s9:TabT) (q10:Bool),Zaz lpSm2=Zaz lpSm2∧Qz54=Qz54∧(Qz25 t4 s5)=(Qz25 t8 s9)∧(Zaa (Zbo t8)=Zaa (Zbo s9)∧Zaa (Zbo t8)<1000000∧q10=List.any (List.zip (Zbo t8) (Zbo s9)) fun (p11:AskT×AskT)=> !smA (Prod.fst p11) (Prod.snd p11))∧BIf q10 (∀(i:Int),R (.d (bo false)) b) (∀(i:Int),R (.d (bo true)) b))))))):=by kernel_rfl
def TabLq (t:TabT):Prop:=t.us.length<1000000∧t.gs.length<1000000∧t.ak.length<1000000
theorem AJy9 {α:Type} {f:α→α→Bool} {l m:List α} (h:l.length≠m.length):AGv9 f l m=false:=by rw [AIk9,decide_eq_false h];rfl
theorem AIl9 {α:Type} {f:α→α→Bool} {l m:List α} (h:l.length=m.length):AGv9 f l m= !(l.zip m).any fun p=> !f p.1 p.2:=by rw [AIk9,decide_eq_true h];rfl
theorem AOn9 {a b:Nat} (h:((a:Int) !=(b:Int))=true):a≠b:=by
 intro e
 rw [e] at h
 simp at h
theorem APb9 {a b:Nat} (h:((a:Int) !=(b:Int))=false):a=b:=by
 have h2:(a:Int)=(b:Int):=by simpa using h
 omega
theorem CDe9 (t s:TabT) (h:TabLq t):PCall prog 15 [tabA t,tabA s] (.d (bo (sameS t s))):=by
 refine PCall.ofFnW (n:=100) (u:=false) (fun _=>wlSm) mixed Zal Zah (fun Ev=>BWp9) func15 (by rfl) (by rfl) fun Ev bb=> ?_
 rw [BYa9]
 rw [AAi9,AAi9,AAh9,AAh9,AAx9,AAx9]
 refine Zbh (fun h1=> ?_) fun h1=> ?_
 · rw [sameS,AJy9 (AOn9 h1)];rfl
 have e1:t.us.length=s.us.length:=APb9 h1
 refine Zbh (fun h2=> ?_) fun h2=> ?_
 · rw [sameS,AJy9 (f:=smG) (AOn9 h2),Bool.false_and,Zem]
 have e2:t.gs.length=s.gs.length:=APb9 h2
 refine Zbh (fun h3=> ?_) fun h3=> ?_
 · rw [sameS,AJy9 (f:=smA) (AOn9 h3),Zem,Zem]
 have e3:t.ak.length=s.ak.length:=APb9 h3
 rw [sameS,AIl9 e1,AIl9 e2,AIl9 e3]
 refine ⟨t,s,_,rfl,rfl,rfl,⟨e1,h.1,rfl⟩,Zbh (fun h4 _=> ?_) fun h4 _=>⟨t,s,_,rfl,rfl,rfl,⟨e2,h.2.1,rfl⟩,Zbh (fun h5 _=> ?_) fun h5 _=>⟨t,s,_,rfl,rfl,rfl,⟨e3,h.2.2,rfl⟩,Zbh (fun h6 _=> ?_) fun h6 _=> ?_⟩⟩⟩
 · rw [h4];rfl
 · rw [h4,h5];rfl
 · rw [h4,h5,h6];rfl
 · rw [h4,h5,h6];rfl
def cSame (args:List AV) (K:AV→Prop):Prop:=∃(t s:TabT) (q:Bool),args= [tabA t,tabA s]∧(TabLq t∧q=sameS t s)∧K (.d (bo q))
theorem BUk9:∀args K,cSame args K→∃x,PCall prog 15 args x∧K x:=by
 rintro _ K ⟨t,s,_,rfl,⟨h,rfl⟩,hk⟩;exact ⟨_,CDe9 t s h,hk⟩
theorem BXm9 {x y:UseT}:smU x y=true↔x=y:=by cases x;cases y;simp [smU,and_assoc]
theorem BXn9 {x y:GraT}:smG x y=true↔x=y:=by cases x;cases y;simp [smG,and_assoc]
theorem BXo9 {x y:AskT}:smA x y=true↔x=y:=by cases x;cases y;simp [smA,and_assoc]
theorem AFc9 {α:Type} {f:α→α→Bool} (hf:∀x,f x x=true):∀l:List α,AGv9 f l l=true
 | []=>rfl
 |x::r=>by rw [AGv9,hf,AFc9 hf r];rfl
theorem AKz9 (t:TabT):sameS t t=true:=by
 rw [sameS,AFc9 (fun x=>BXm9.2 rfl),AFc9 (fun x=>BXn9.2 rfl),AFc9 (fun x=>BXo9.2 rfl)];rfl
def cntS (l:List Int) (s:Int):Int:=((l.filter fun x=>x==s).length:Nat)
theorem BUa9 (l:List Int) (x s:Int):cntS (l++ [x]) s=if x=s then cntS l s+1 else cntS l s:=by
 unfold cntS
 rw [List.filter_append,Zcr]
 by_cases h:x=s
 · simp [h]
 · simp [h]
theorem CAu9 (l:List Int) (s:Int):0≤cntS l s∧cntS l s≤l.length:=by
 unfold cntS
 have:=Zdu (fun x=>x==s) l
 omega
theorem AOj9 {sl of pe:Int} {ly:LayT} (h:ABr9 sl of pe ly=true):0≤sl∧sl<ly.da:=by
 simp only [ABr9,Zaj,decide_eq_true_eq] at h
 omega
theorem CCu9 {x:UseT} {ly:LayT} (h:useOk x ly=true):0≤x.sl∧x.sl<ly.da:=by
 simp only [useOk,Zaj] at h
 exact AOj9 h.1
theorem CDw9 {x:GraT} {ly:LayT} (h:graOk x ly=true):0≤x.sl∧x.sl<ly.da:=by
 simp only [graOk,Zaj] at h
 exact AOj9 h.1
theorem BVa9 {x:AskT} {ly:LayT} (h:askOk x ly=true):0≤x.sl∧x.sl<ly.da:=AOj9 h
def AYa9 (t:TabT):List Int:=t.us.map (·.sl)++t.gs.map (·.sl)++t.ak.map (·.sl)
def ABq9 (t:TabT) (ly:LayT):Prop:=layOk ly=true∧(t.us.length+t.gs.length≤24∧t.ak.length≤24)∧((∀x∈t.us,useOk x ly=true)∧t.us.Pairwise (fun a b=>a.sl<b.sl))∧((∀x∈t.gs,graOk x ly=true)∧t.gs.Pairwise (fun a b=>a.sl<b.sl))∧((∀x∈t.ak,askOk x ly=true)∧t.ak.Pairwise (fun a b=>a.sl<b.sl))∧(AYa9 t).Nodup
theorem ARz9 (l:List Int) (k:Int):cntS l k=(l.count k:Nat):=by
 rw [cntS,List.count,List.countP_eq_length_filter]
theorem BKg9 {l:List Int}:l.Nodup↔∀k,cntS l k≤1:=by
 rw [List.nodup_iff_count]
 constructor
 · intro h k;rw [ARz9];have:=h k;omega
 · intro h k;have:=h k;rw [ARz9] at this;omega
theorem AVz9 {h:Int×Int} {k:Int}:∀ {l:Cnt},(∀p∈l,p.1≠h.1)→(insC h l).find? (fun p=>p.1==k)=if h.1=k then some h else l.find? (fun p=>p.1==k)
 | [],_=>by
   rw [insC,List.find?_cons]
   by_cases hk:h.1=k
   · rw [if_pos hk,show (h.1==k)=true by simpa using hk]
   · rw [if_neg hk,show (h.1==k)=false by simpa using hk]
 | x::r,hl=>by
   rw [insC]
   have ih:=AVz9 (h:=h) (k:=k) (l:=r) fun p hp=>hl p (Zbx _ hp)
   have hx:=hl x (Zbz)
   split
   · rw [List.find?_cons]
     by_cases hk:h.1=k
     · rw [if_pos hk,show (h.1==k)=true by simpa using hk]
     · rw [if_neg hk,show (h.1==k)=false by simpa using hk]
   · rw [List.find?_cons,List.find?_cons,ih]
     by_cases hk:h.1=k
     · have:¬x.1=k:=fun e=>hx (e.trans hk.symm)
       rw [if_pos hk,if_pos hk,show (x.1==k)=false by simpa using this]
     · rw [if_neg hk,if_neg hk]
theorem BRj9 (x v k:Int) (ts:Cnt):getC k (putC (x,v) ts)=if x=k then v else getC k ts:=by
 unfold getC putC
 rw [AVz9 (fun p hp=>by
   have:=(Zch.1 hp).2
   simpa using this),List.find?_filter]
 by_cases hk:x=k
 · simp [hk]
 · rw [if_neg hk,if_neg hk]
   congr 2
   congr 1
   funext p
   by_cases hp:p.1=k
   · have:¬k=x:=fun e=>hk e.symm
     simp [hp,this]
   · simp [hp]
def CntIs (ts:Cnt) (l:List Int):Prop:=∀k,getC k ts=cntS l k
theorem CntIs.inc {ts:Cnt} {l:List Int} (h:CntIs ts l) (hl:l.length<1000000) (x:Int):CntIs (incC x ts) (l++ [x]):=fun k=>by
 have hb:=CAu9 l x
 rw [incC,BRj9,BUa9,h x,h k,AAt9 (by omega) (by omega)]
 by_cases hk:x=k
 · subst hk;simp
 · simp [hk]
theorem AKt9 {α:Type} {ok:α→Bool} {sl:α→Int}:∀ {l:List α} {last:Int} {ts:Cnt},(ABa9 ok sl last l ts).1=true↔(∀x∈l,ok x=true)∧(∀x∈l,last<sl x)∧l.Pairwise (fun a b=>sl a<sl b):=by
 intro l
 induction l with
 |nil=>intro last ts;simp [ABa9]
 | cons x r ih=>
   intro last ts
   refine ⟨AFy9,fun ⟨h1,h2,h3⟩=> ?_⟩
   obtain ⟨h4,h5⟩:=Zen.1 h3
   have hx:=h2 x (Zbz)
   rw [ABa9,if_neg (by rw [h1 x (Zbz)];decide),if_neg (by omega)]
   exact ih.2 ⟨fun y hy=>h1 y (Zbx _ hy),h4,h5⟩
theorem AHv9 {α:Type} {ok:α→Bool} {sl:α→Int}:∀ {l:List α} {last:Int} {ts:Cnt} {pre:List Int},(ABa9 ok sl last l ts).1=true→CntIs ts pre→pre.length+l.length<1000000→CntIs (ABa9 ok sl last l ts).2 (pre++l.map sl)
 | [],last,ts,pre,_,h,_=>by simpa [ABa9] using h
 | x::r,last,ts,pre,h1,h,hl=>by
   unfold ABa9 at h1 ⊢
   split at h1
   · cases h1
   · rename_i c1
     rw [if_neg c1]
     split at h1
     · cases h1
     · rename_i c2
       rw [if_neg c2]
       have h2:=AHv9 (pre:=pre++ [sl x]) h1 (h.inc (by simp at hl;omega) (sl x)) (by simp at hl ⊢;omega)
       rw [List.append_assoc] at h2
       exact h2
theorem BZr9 {ts:Cnt} {l:List Int} (h:CntIs ts l):okC ts=true↔l.Nodup:=by
 rw [BKg9,okC,List.all_eq_true]
 constructor
 · intro h1 k
   rw [←h k]
   cases hf:ts.find? (fun p=>p.1==k) with
   |none=>rw [getC,hf];decide
   | some p=>
     have hm:=List.mem_of_find?_eq_some hf
     have hk:p.1=k:=by simpa using List.find?_some hf
     have:=h1 p hm
     rw [hk] at this
     simpa using this
 · intro h1 p _
   have:=h1 p.1
   rw [←h p.1] at this
   simpa using this
theorem ABt9 {t:TabT} {ly:LayT}:ACy9 t ly=true↔ABq9 t ly:=by
 have key:layOk ly=true→t.us.length+t.gs.length≤24→t.ak.length≤24→((ABz9 ly t.us []).1=true)→((ADa9 ly t.gs (ABz9 ly t.us []).2).1=true)→((AEk9 ly t.ak (ADa9 ly t.gs (ABz9 ly t.us []).2).2).1=true)→
     (okC (AEk9 ly t.ak (ADa9 ly t.gs (ABz9 ly t.us []).2).2).2=true↔(AYa9 t).Nodup):=fun _ h1 h2 a b c=>by
   have c1:=AHv9 (pre:= []) (show (ABa9 _ _ _ _ _).1=true from a) (fun k=>rfl) (by simp;omega)
   have c2:=AHv9 (show (ABa9 _ _ _ _ _).1=true from b) c1 (by simp;omega)
   have c3:=AHv9 (show (ABa9 _ _ _ _ _).1=true from c) c2 (by simp;omega)
   exact BZr9 c3
 have ly':layOk ly=true↔(1≤ly.no∧ly.no≤60)∧(1≤ly.da∧ly.da≤60):=by
   simp only [layOk,Zaj,decide_eq_true_eq]
   omega
 constructor
 · intro h
   have h1:=ABc9 h
   have h2:=AKf9 h
   have h3:=AFw9 h
   have h5:(ABz9 ly t.us []).1=true∧(ADa9 ly t.gs (ABz9 ly t.us []).2).1=true∧(AEk9 ly t.ak (ADa9 ly t.gs (ABz9 ly t.us []).2).2).1=true:=by
     unfold ACy9 at h
     split at h<;>try (cases h;done)
     split at h<;>try (cases h;done)
     split at h<;>try (cases h;done)
     split at h<;>try (cases h;done)
     split at h<;>try (cases h;done)
     split at h<;>try (cases h;done)
     split at h<;>try (cases h;done)
     rename_i h1
     split at h<;>try (cases h;done)
     rename_i h2
     split at h<;>try (cases h;done)
     rename_i h3
     simp only [Zcq,Bool.not_eq_false] at h1 h2 h3
     exact ⟨h1,h2,h3⟩
   exact ⟨ly'.2 h1,h2,h3.1,h3.2.1,h3.2.2.1,(key (ly'.2 h1) h2.1 h2.2 h5.1 h5.2.1 h5.2.2).1 h3.2.2.2⟩
 · rintro ⟨h1,⟨h2,h3⟩,⟨u1,u2⟩,⟨g1,g2⟩,⟨a1,a2⟩,h4⟩
   obtain ⟨l1,l2⟩:=ly'.1 h1
   have s1:(ABz9 ly t.us []).1=true:=AKt9.2 ⟨u1,fun x hx=>by have:=CCu9 (u1 x hx);omega,u2⟩
   have s2:(ADa9 ly t.gs (ABz9 ly t.us []).2).1=true:=AKt9.2 ⟨g1,fun x hx=>by have:=CDw9 (g1 x hx);omega,g2⟩
   have s3:(AEk9 ly t.ak (ADa9 ly t.gs (ABz9 ly t.us []).2).2).1=true:=AKt9.2 ⟨a1,fun x hx=>by have:=BVa9 (a1 x hx);omega,a2⟩
   have s4:=(key h1 h2 h3 s1 s2 s3).2 h4
   unfold ACy9
   rw [if_neg (by omega),if_neg (by omega),if_neg (by omega),if_neg (by omega),if_neg (by omega),if_neg (by omega),s1,s2,s3,s4]
   rfl
def h0:TabT:=⟨[], [], []⟩
def hb:TabT:=⟨[], [], [⟨1,4,0⟩,⟨2,4,0⟩]⟩
def ha:TabT:=⟨[], [⟨1,4,1,1,9⟩,⟨2,4,1,1,9⟩], []⟩
def hc:TabT:=⟨[⟨1,4,0,1⟩,⟨2,4,0,1⟩], [], []⟩
def hd:TabT:=⟨[], [⟨1,4,1,1,11⟩,⟨2,4,1,1,11⟩], []⟩
def hl:LayT:=⟨2,4⟩
theorem heB:askS hl h0 1 [toldN 0 h0 0] 0 2 0=hb:=by kernel_rfl
theorem heA:AEf9 hl h0 0 [toldN 1 hb 1] 1=ha:=by kernel_rfl
theorem heC:takeS hl hb 1 [toldN 0 ha 2] 2=hc:=by kernel_rfl
theorem heD:AEf9 hl ha 0 [toldN 1 hc 3] 3=hd:=by kernel_rfl
def CAz9 (args:List AV) (K:AV→Prop):Prop:=∃(t:TabT) (me fr:Int) (q:List NearT),LeVs args [.d (i64 me),tabA t, .d (i64 fr)]∧q= [toldN me t fr]∧K (.d (.sl 31 (rowsN q)))
theorem BLz9:∀args K,CAz9 args K→∃x,PCall prog 32 args x∧K x:=by
 rintro args K ⟨t,me,fr,_,hl,rfl,hk⟩
 obtain ⟨x,hx,hk⟩:=BFo9 _ _ ⟨t,me,fr,_,rfl,rfl,hk⟩
 exact ⟨x,hx.leArgsV hl,hk⟩
def cAskV (args:List AV) (K:AV→Prop):Prop:=∃(ly:LayT) (t q:TabT) (me:Int) (l:List NearT) (pe many fr:Int),LeVs args [layA ly,tabA t, .d (i64 me), .d (.sl 31 (rowsN l)), .d (i64 pe), .d (i64 many), .d (i64 fr)]∧(TabOk t∧l.length<1000000∧(∀x∈l,AIi9 x)∧q=askS ly t me l pe many fr)∧K (tabA q)
theorem BUw9:∀args K,cAskV args K→∃x,PCall prog 12 args x∧K x:=by
 rintro args K ⟨ly,t,q,me,l,pe,many,fr,hl,h,hk⟩
 obtain ⟨x,hx,hk⟩:=BPf9 _ _ ⟨ly,t,q,me,l,pe,many,fr,rfl,h,hk⟩
 exact ⟨x,hx.leArgsV hl,hk⟩
def BOn9 (args:List AV) (K:AV→Prop):Prop:=∃(ly:LayT) (t q:TabT) (me:Int) (l:List NearT) (fr:Int),LeVs args [layA ly,tabA t, .d (i64 me), .d (.sl 31 (rowsN l)), .d (i64 fr)]∧(TabOk t∧l.length<1000000∧(∀x∈l,AFb9 x)∧q=AEf9 ly t me l fr)∧K (tabA q)
theorem BGj9:∀args K,BOn9 args K→∃x,PCall prog 13 args x∧K x:=by
 rintro args K ⟨ly,t,q,me,l,fr,hl,h,hk⟩
 obtain ⟨x,hx,hk⟩:=AWt9 _ _ ⟨ly,t,q,me,l,fr,rfl,h,hk⟩
 exact ⟨x,hx.leArgsV hl,hk⟩
def CBb9 (args:List AV) (K:AV→Prop):Prop:=∃(ly:LayT) (t q:TabT) (me:Int) (l:List NearT) (fr:Int),LeVs args [layA ly,tabA t, .d (i64 me), .d (.sl 31 (rowsN l)), .d (i64 fr)]∧(TabOk t∧l.length<1000000∧(∀x∈l,AFb9 x)∧q=takeS ly t me l fr)∧K (tabA q)
theorem BMc9:∀args K,CBb9 args K→∃x,PCall prog 14 args x∧K x:=by
 rintro args K ⟨ly,t,q,me,l,fr,hl,h,hk⟩
 obtain ⟨x,hx,hk⟩:=BFp9 _ _ ⟨ly,t,q,me,l,fr,rfl,h,hk⟩
 exact ⟨x,hx.leArgsV hl,hk⟩
def CBc9 (args:List AV) (K:AV→Prop):Prop:=∃(t s:TabT) (q:Bool),LeVs args [tabA t,tabA s]∧(TabLq t∧q=sameS t s)∧K (.d (bo q))
theorem BMd9:∀args K,CBc9 args K→∃x,PCall prog 15 args x∧K x:=by
 rintro args K ⟨t,s,q,hl,h,hk⟩
 obtain ⟨x,hx,hk⟩:=BUk9 _ _ ⟨t,s,q,rfl,h,hk⟩
 exact ⟨x,hx.leArgsV hl,hk⟩
def THd:List (Nat×(List AV→(AV→Prop)→Prop)):= [(12,cAskV),(13,BOn9),(14,CBb9),(15,CBc9),(32,CAz9)]
theorem CEw9:AAb9 prog THd:=Zai BUw9 (Zai BGj9 (Zai BMc9 (Zai BMd9 (Zai BLz9 Zal))))
abbrev Qz29 (v0:TabT) (v1:List NearT):List AV:= [Zao [Zab (i64 2),Zab (i64 4)],Zao (Qz3 v0),Zab (i64 1),Zab (Zaf 31 (rowsN v1)),Zab (i64 10)]
abbrev Qz36 (v0:Int) (v1:TabT) (v2:Int):List AV:= [Zab (i64 v0),Zao (Qz3 v1),Zab (i64 v2)]
abbrev Qz46 (v0:TabT):List AV:= [Zab (i64 0),Zao (Qz3 v0),Zab (i64 9)]
theorem CAc9:wpFn prog ⟨THd, [],wl,y,false⟩ 100 f10 [] b R=(∃(t0:TabT) (me1:Int) (fr2:Int) (q3:List NearT),LeVs [Zab (i64 0),Zao Qz6,Zab (i64 0)] (Qz36 me1 t0 fr2)∧q3= [toldN me1 t0 fr2]∧∃(ly4:LayT) (t5:TabT) (q6:TabT) (me7:Int) (l8:List NearT) (pe9:Int) (many10:Int) (fr11:Int),LeVs [Zao [Zab (i64 2),Zab (i64 4)],Zao Qz6,Zab (i64 1),Zab (Zaf 31 (rowsN q3)),Zab (i64 0),Zab (i64 2),Zab (i64 0)] [Zao (Qz5 ly4),Zao (Qz3 t5),Zab (i64 me7),Zab (Zaf 31 (rowsN l8)),Zab (i64 pe9),Zab (i64 many10),Zab (i64 fr11)]∧((Zaa (Zbj t5)<10000∧Zaa (Zbl t5)<10000∧Zaa (Zbo t5)<10000)∧Zaa l8<1000000∧(∀(x:NearT),x∈l8→Zaa (Zbp x)<10000∧Zaa (Zbn x)<10000∧Zaa (Zcc x)<10000)∧q6=askS ly4 t5 me7 l8 pe9 many10 fr11)∧∃(t12:TabT) (me13:Int) (fr14:Int) (q15:List NearT),LeVs [Zab (i64 1),Zao (Qz3 q6),Zab (i64 1)] (Qz36 me13 t12 fr14)∧q15= [toldN me13 t12 fr14]∧∃(ly16:LayT) (t17:TabT) (q18:TabT) (me19:Int) (l20:List NearT) (fr21:Int),LeVs [Zao [Zab (i64 2),Zab (i64 4)],Zao Qz6,Zab (i64 0),Zab (Zaf 31 (rowsN q15)),Zab (i64 1)] (Qz17 ly16 t17 me19 l20 fr21)∧((Zaa (Zbj t17)<10000∧Zaa (Zbl t17)<10000∧Zaa (Zbo t17)<10000)∧Zaa l20<1000000∧(∀(x:NearT),x∈l20→Zaa (Zbp x)<1000000∧Zaa (Zbn x)<1000000∧Zaa (Zcc x)<1000000)∧q18=AEf9 ly16 t17 me19 l20 fr21)∧∃(t22:TabT) (me23:Int) (fr24:Int) (q25:List NearT),LeVs [Zab (i64 0),Zao (Qz3 q18),Zab (i64 2)] (Qz36 me23 t22 fr24)∧q25= [toldN me23 t22 fr24]∧∃(ly26:LayT) (t27:TabT) (q28:TabT) (me29:Int) (l30:List NearT) (fr31:Int),LeVs [Zao [Zab (i64 2),Zab (i64 4)],Zao (Qz3 q6),Zab (i64 1),Zab (Zaf 31 (rowsN q25)),Zab (i64 2)] (Qz17 ly26 t27 me29 l30 fr31)∧((Zaa (Zbj t27)<10000∧Zaa (Zbl t27)<10000∧Zaa (Zbo t27)<10000)∧Zaa l30<1000000∧(∀(x:NearT),x∈l30→Zaa (Zbp x)<1000000∧Zaa (Zbn x)<1000000∧Zaa (Zcc x)<1000000)∧q28=takeS ly26 t27 me29 l30 fr31)∧∃(t32:TabT) (me33:Int) (fr34:Int) (q35:List NearT),LeVs [Zab (i64 1),Zao (Qz3 q28),Zab (i64 3)] (Qz36 me33 t32 fr34)∧q35= [toldN me33 t32 fr34]∧∃(ly36:LayT) (t37:TabT) (q38:TabT) (me39:Int) (l40:List NearT) (fr41:Int),LeVs [Zao [Zab (i64 2),Zab (i64 4)],Zao (Qz3 q18),Zab (i64 0),Zab (Zaf 31 (rowsN q35)),Zab (i64 3)] (Qz17 ly36 t37 me39 l40 fr41)∧((Zaa (Zbj t37)<10000∧Zaa (Zbl t37)<10000∧Zaa (Zbo t37)<10000)∧Zaa l40<1000000∧(∀(x:NearT),x∈l40→Zaa (Zbp x)<1000000∧Zaa (Zbn x)<1000000∧Zaa (Zcc x)<1000000)∧q38=AEf9 ly36 t37 me39 l40 fr41)∧∃(t42:TabT) (s43:TabT) (q44:Bool),LeVs [Zao (Qz3 q6),Zao [Zab (Zdc (.slice none 0 0)),Zab (Zdc (.slice none 0 0)),AV.full 3 [[i64 1,i64 4,i64 0], [i64 2,i64 4,i64 0]]]] [Zao (Qz3 t42),Zao (Qz3 s43)]∧((Zaa (Zbj t42)<1000000∧Zaa (Zbl t42)<1000000∧Zaa (Zbo t42)<1000000)∧q44=sameS t42 s43)∧BIf q44 (∃(t45:TabT) (s46:TabT) (q47:Bool),LeVs [Zao (Qz3 q18),Zao [Zab (Zdc (.slice none 0 0)),AV.full 5 [[i64 1,i64 4,i64 1,i64 1,i64 9], [i64 2,i64 4,i64 1,i64 1,i64 9]],Zab (Zdc (.slice none 0 0))]] [Zao (Qz3 t45),Zao (Qz3 s46)]∧((Zaa (Zbj t45)<1000000∧Zaa (Zbl t45)<1000000∧Zaa (Zbo t45)<1000000)∧q47=sameS t45 s46)∧BIf q47 (∃(t48:TabT) (s49:TabT) (q50:Bool),LeVs [Zao (Qz3 q28),Zao [AV.full 4 [[i64 1,i64 4,i64 0,i64 1], [i64 2,i64 4,i64 0,i64 1]],Zab (Zdc (.slice none 0 0)),Zab (Zdc (.slice none 0 0))]] [Zao (Qz3 t48),Zao (Qz3 s49)]∧((Zaa (Zbj t48)<1000000∧Zaa (Zbl t48)<1000000∧Zaa (Zbo t48)<1000000)∧q50=sameS t48 s49)∧BIf q50 (BIf (((Zaa (rowsG (Zbl q38)):Nat):Int)==(2:Int)) (∃(x51:Int) (x52:Int) (x53:Int) (x54:Int) (x55:Int),(rowsG (Zbl q38))[0]? =some (Qz48 x51 x52 x53 x54 x55)∧BIf (x55==(11:Int)) (∃(x58:Int) (x59:Int) (x60:Int) (x61:Int) (x62:Int),(rowsG (Zbl q38))[0]? =some (Qz48 x58 x59 x60 x61 x62)∧∃(t65:TabT) (me66:Int) (fr67:Int) (q68:List NearT),LeVs (Qz46 q18) (Qz36 me66 t65 fr67)∧q68= [toldN me66 t65 fr67]∧∃(ly69:LayT) (t70:TabT) (q71:TabT) (me72:Int) (l73:List NearT) (fr74:Int),LeVs (Qz29 q28 q68) (Qz17 ly69 t70 me72 l73 fr74)∧((Zaa (Zbj t70)<10000∧Zaa (Zbl t70)<10000∧Zaa (Zbo t70)<10000)∧Zaa l73<1000000∧(∀(x:NearT),x∈l73→Zaa (Zbp x)<1000000∧Zaa (Zbn x)<1000000∧Zaa (Zcc x)<1000000)∧q71=takeS ly69 t70 me72 l73 fr74)∧BIf (x61==(1:Int)) (BIf (((Zaa (rowsU (Zbj q71)):Nat):Int)==(0:Int)) (∃(ly75:LayT) (t76:TabT) (q77:TabT) (me78:Int) (l79:List NearT) (pe80:Int) (many81:Int) (fr82:Int),LeVs [Zao [Zab (i64 2),Zab (i64 4)],Zao (Qz3 q6),Zab (i64 1),Zab (Zdc (.slice none 0 0)),Zab (i64 0),Zab (i64 2),Zab (i64 0)] [Zao (Qz5 ly75),Zao (Qz3 t76),Zab (i64 me78),Zab (Zaf 31 (rowsN l79)),Zab (i64 pe80),Zab (i64 many81),Zab (i64 fr82)]∧((Zaa (Zbj t76)<10000∧Zaa (Zbl t76)<10000∧Zaa (Zbo t76)<10000)∧Zaa l79<1000000∧(∀(x:NearT),x∈l79→Zaa (Zbp x)<10000∧Zaa (Zbn x)<10000∧Zaa (Zcc x)<10000)∧q77=askS ly75 t76 me78 l79 pe80 many81 fr82)∧R (.d (bo (((Zaa (rowsA (Zbo q77)):Nat):Int)==(0:Int)))) b) (R (.d (bo false)) b)) (R (.d (bo false)) b)) (∃(t83:TabT) (me84:Int) (fr85:Int) (q86:List NearT),LeVs (Qz46 q18) (Qz36 me84 t83 fr85)∧q86= [toldN me84 t83 fr85]∧∃(ly87:LayT) (t88:TabT) (q89:TabT) (me90:Int) (l91:List NearT) (fr92:Int),LeVs (Qz29 q28 q86) (Qz17 ly87 t88 me90 l91 fr92)∧((Zaa (Zbj t88)<10000∧Zaa (Zbl t88)<10000∧Zaa (Zbo t88)<10000)∧Zaa l91<1000000∧(∀(x:NearT),x∈l91→Zaa (Zbp x)<1000000∧Zaa (Zbn x)<1000000∧Zaa (Zcc x)<1000000)∧q89=takeS ly87 t88 me90 l91 fr92)∧R (.d (bo false)) b)) (∃(t93:TabT) (me94:Int) (fr95:Int) (q96:List NearT),LeVs (Qz46 q18) (Qz36 me94 t93 fr95)∧q96= [toldN me94 t93 fr95]∧∃(ly97:LayT) (t98:TabT) (q99:TabT) (me100:Int) (l101:List NearT) (fr102:Int),LeVs (Qz29 q28 q96) (Qz17 ly97 t98 me100 l101 fr102)∧((Zaa (Zbj t98)<10000∧Zaa (Zbl t98)<10000∧Zaa (Zbo t98)<10000)∧Zaa l101<1000000∧(∀(x:NearT),x∈l101→Zaa (Zbp x)<1000000∧Zaa (Zbn x)<1000000∧Zaa (Zcc x)<1000000)∧q99=takeS ly97 t98 me100 l101 fr102)∧R (.d (bo false)) b)) (∃(t103:TabT) (me104:Int) (fr105:Int) (q106:List NearT),LeVs (Qz46 q18) (Qz36 me104 t103 fr105)∧q106= [toldN me104 t103 fr105]∧∃(ly107:LayT) (t108:TabT) (q109:TabT) (me110:Int) (l111:List NearT) (fr112:Int),LeVs (Qz29 q28 q106) (Qz17 ly107 t108 me110 l111 fr112)∧((Zaa (Zbj t108)<10000∧Zaa (Zbl t108)<10000∧Zaa (Zbo t108)<10000)∧Zaa l111<1000000∧(∀(x:NearT),x∈l111→Zaa (Zbp x)<1000000∧Zaa (Zbn x)<1000000∧Zaa (Zcc x)<1000000)∧q109=takeS ly107 t108 me110 l111 fr112)∧R (.d (bo false)) b)) (∃(t113:TabT) (me114:Int) (fr115:Int) (q116:List NearT),LeVs (Qz46 q18) (Qz36 me114 t113 fr115)∧q116= [toldN me114 t113 fr115]∧∃(ly117:LayT) (t118:TabT) (q119:TabT) (me120:Int) (l121:List NearT) (fr122:Int),LeVs (Qz29 q28 q116) (Qz17 ly117 t118 me120 l121 fr122)∧((Zaa (Zbj t118)<10000∧Zaa (Zbl t118)<10000∧Zaa (Zbo t118)<10000)∧Zaa l121<1000000∧(∀(x:NearT),x∈l121→Zaa (Zbp x)<1000000∧Zaa (Zbn x)<1000000∧Zaa (Zcc x)<1000000)∧q119=takeS ly117 t118 me120 l121 fr122)∧R (.d (bo false)) b)) (∃(t123:TabT) (me124:Int) (fr125:Int) (q126:List NearT),LeVs (Qz46 q18) (Qz36 me124 t123 fr125)∧q126= [toldN me124 t123 fr125]∧∃(ly127:LayT) (t128:TabT) (q129:TabT) (me130:Int) (l131:List NearT) (fr132:Int),LeVs (Qz29 q28 q126) (Qz17 ly127 t128 me130 l131 fr132)∧((Zaa (Zbj t128)<10000∧Zaa (Zbl t128)<10000∧Zaa (Zbo t128)<10000)∧Zaa l131<1000000∧(∀(x:NearT),x∈l131→Zaa (Zbp x)<1000000∧Zaa (Zbn x)<1000000∧Zaa (Zcc x)<1000000)∧q129=takeS ly127 t128 me130 l131 fr132)∧R (.d (bo false)) b)):=by kernel_rfl
theorem lv0:LeV (.agg [.d (.s (.slice none 0 0)), .d (.s (.slice none 0 0)), .d (.s (.slice none 0 0))]) (tabA h0):=LeV.aggs (.cons (.nil rfl) (.cons (.nil rfl) (.cons (.nil rfl) .nil)))
theorem okH {t:TabT} (h1:t.us.length<10) (h2:t.gs.length<10) (h3:t.ak.length<10):TabOk t:=⟨by omega,by omega,by omega⟩
theorem lqH {t:TabT} (h1:t.us.length<10) (h2:t.gs.length<10) (h3:t.ak.length<10):TabLq t:=⟨by omega,by omega,by omega⟩
theorem nearH {t:TabT} (h1:t.us.length<10) (h2:t.gs.length<10) (h3:t.ak.length<10) (me fr:Int):∀x∈ [toldN me t fr],AFb9 x:=fun x hx=>by
 rw [List.mem_singleton] at hx;subst hx
 exact ⟨by simp only [toldN];omega,by simp only [toldN];omega,by simp only [toldN];omega⟩
theorem CDu9 {t:TabT} (h1:t.us.length<10) (h2:t.gs.length<10) (h3:t.ak.length<10) (me fr:Int):∀x∈ [toldN me t fr],AIi9 x:=fun x hx=>by
 rw [List.mem_singleton] at hx;subst hx
 exact ⟨by simp only [toldN];omega,by simp only [toldN];omega,by simp only [toldN];omega⟩
theorem heE2:takeS hl hc 1 [toldN 0 ha 9] 10=h0:=by kernel_rfl
theorem heF2:askS hl hb 1 [] 0 2 0=h0:=by kernel_rfl
theorem CDp9:PCall prog 10 [] (.d (bo true)):=by
 refine PCall.ofFn (n:=100) (u:=false) mixed CEw9 Zah func10 (by rfl) (by rfl) fun Ev bb=> ?_
 rw [CAc9]
 refine ⟨h0,0,0, [toldN 0 h0 0], .cons .rfl (.cons lv0 (.cons .rfl .nil)),rfl, ?_⟩
 refine ⟨hl,h0,hb,1, [toldN 0 h0 0],0,2,0, .cons .rfl (.cons lv0 (Zfs _)),⟨okH (by decide) (by decide) (by decide),by decide,CDu9 (by decide) (by decide) (by decide) _ _,heB.symm⟩, ?_⟩
 refine ⟨hb,1,1, [toldN 1 hb 1],Zfs _,rfl, ?_⟩
 refine ⟨hl,h0,ha,0, [toldN 1 hb 1],1, .cons .rfl (.cons lv0 (Zfs _)),⟨okH (by decide) (by decide) (by decide),by decide,nearH (by decide) (by decide) (by decide) _ _,heA.symm⟩, ?_⟩
 refine ⟨ha,0,2, [toldN 0 ha 2],Zfs _,rfl, ?_⟩
 refine ⟨hl,hb,hc,1, [toldN 0 ha 2],2,Zfs _,⟨okH (by decide) (by decide) (by decide),by decide,nearH (by decide) (by decide) (by decide) _ _,heC.symm⟩, ?_⟩
 refine ⟨hc,1,3, [toldN 1 hc 3],Zfs _,rfl, ?_⟩
 refine ⟨hl,ha,hd,0, [toldN 1 hc 3],3,Zfs _,⟨okH (by decide) (by decide) (by decide),by decide,nearH (by decide) (by decide) (by decide) _ _,heD.symm⟩, ?_⟩
 refine ⟨hb,hb,true, .cons .rfl (.cons (LeV.aggs (.cons (.nil rfl) (.cons (.nil rfl) (.cons .full .nil)))) .nil),⟨lqH (by decide) (by decide) (by decide),(AKz9 hb).symm⟩,Zbg rfl ?_⟩
 refine ⟨ha,ha,true, .cons .rfl (.cons (LeV.aggs (.cons (.nil rfl) (.cons .full (.cons (.nil rfl) .nil)))) .nil),⟨lqH (by decide) (by decide) (by decide),(AKz9 ha).symm⟩,Zbg rfl ?_⟩
 refine ⟨hc,hc,true, .cons .rfl (.cons (LeV.aggs (.cons .full (.cons (.nil rfl) (.cons (.nil rfl) .nil)))) .nil),⟨lqH (by decide) (by decide) (by decide),(AKz9 hc).symm⟩,Zbg rfl ?_⟩
 refine Zbg (by decide) ⟨1,4,1,1,11,rfl,Zbg (by decide) ⟨1,4,1,1,11,rfl, ?_⟩⟩
 refine ⟨ha,0,9, [toldN 0 ha 9],Zfs _,rfl, ?_⟩
 refine ⟨hl,hc,h0,1, [toldN 0 ha 9],10,Zfs _,⟨okH (by decide) (by decide) (by decide),by decide,nearH (by decide) (by decide) (by decide) _ _,heE2.symm⟩,Zbg (by decide) (Zbg rfl ?_)⟩
 exact ⟨hl,hb,h0,1, [],0,2,0, .cons .rfl (.cons .rfl (.cons .rfl (.cons (.nil rfl) (Zfs _)))),⟨okH (by decide) (by decide) (by decide),by decide,by simp,heF2.symm⟩,rfl⟩
def cHead (args:List AV) (K:AV→Prop):Prop:=args= []∧K (.d (bo true))
theorem BUt9:∀args K,cHead args K→∃x,PCall prog 10 args x∧K x:=by
 rintro _ K ⟨rfl,hk⟩;exact ⟨_,CDp9,hk⟩
theorem ADh9 {α:Type} (p:α→Bool) (g:α):∀l:List α,(insP p g l).Perm (g::l)
 | []=> .refl _
 | x::r=>by
   rw [insP]
   split
   · exact .refl _
   · exact ((ADh9 p g r).cons x).trans (List.Perm.swap g x r)
theorem AIw9 {α:Type} {sl:α→Int} {g:α}:∀ {l:List α},l.Pairwise (fun a b=>sl a<sl b)→(∀x∈l,sl x≠sl g)→(insP (fun x=>decide (sl x>sl g)) g l).Pairwise (fun a b=>sl a<sl b)
 | [],_,_=>List.pairwise_singleton _ _
 | x::r,h,hn=>by
   obtain ⟨h1,h2⟩:=Zen.1 h
   have hx:=hn x (Zbz)
   rw [insP]
   split
   · rename_i c
     have c':=of_decide_eq_true c
     refine Zen.2 ⟨fun y hy=> ?_,h⟩
     rcases Zbq.1 hy with rfl|hy
     · exact c'
     · have:=h1 y hy;omega
   · rename_i c
     have c':¬sl x>sl g:=fun e=>c (decide_eq_true e)
     refine Zen.2 ⟨fun y hy=> ?_,AIw9 h2 fun y hy=>hn y (Zbx _ hy)⟩
     rcases Zbq.1 ((ADh9 _ g r).mem_iff.1 hy) with rfl|hy
     · omega
     · exact h1 y hy
theorem AXb9 {t:TabT} {s:Int} (h:busyT t s=false):(∀x∈t.us,x.sl≠s)∧∀x∈t.gs,x.sl≠s:=by
 rw [busyT,Bool.or_eq_false_iff,List.any_eq_false,List.any_eq_false] at h
 exact ⟨fun x hx e=>h.1 x hx (by simpa using e),fun x hx e=>h.2 x hx (by simpa using e)⟩
theorem AMt9 (t:TabT) (s:Int):((AGs9 t s).map (·.sl))=(t.ak.map (·.sl)).filter (fun x=> !(x==s)):=by
 rw [AGs9,List.filter_map];rfl
theorem AVk9 {u g a:List Int} {s:Int} (h:(u++g++a).Nodup) (hu:s∉u) (hg:s∉g):(s::(u++g++a.filter fun x=> !(x==s))).Nodup:=by
 refine List.nodup_cons.2 ⟨fun hm=> ?_, ?_⟩
 · rw [Zbs,Zbs] at hm
   rcases hm with (hm|hm)|hm
   · exact hu hm
   · exact hg hm
   · have:=(Zch.1 hm).2
     simp at this
 · exact h.sublist (List.Sublist.append (List.Sublist.refl _) Zes)
theorem ABq9.addG {t:TabT} {ly:LayT} {g:GraT} (h:ABq9 t ly) (hg:graOk g ly=true) (hb:busyT t g.sl=false) (hn:t.us.length+t.gs.length<24):ABq9 ⟨t.us,insSG g t.gs,AGs9 t g.sl⟩ ly:=by
 obtain ⟨h1,⟨h2,h3⟩,h4,⟨g1,g2⟩,⟨a1,a2⟩,h5⟩:=h
 obtain ⟨b1,b2⟩:=AXb9 hb
 have hp:=ADh9 (fun x:GraT=>decide (x.sl>g.sl)) g t.gs
 refine ⟨h1,⟨?_, ?_⟩,h4,⟨fun x hx=> ?_,AIw9 (sl:=fun x:GraT=>x.sl) g2 b2⟩,⟨fun x hx=>a1 x (Zch.1 hx).1,a2.sublist Zes⟩, ?_⟩
 · have:=hp.length_eq
   simp only [Zei] at this
   show t.us.length+(insP _ g t.gs).length≤24
   omega
 · exact Nat.le_trans (Zdu _ _) h3
 · rcases Zbq.1 (hp.mem_iff.1 hx) with rfl|hx
   · exact hg
   · exact g1 x hx
 · have h6:=AVk9 (s:=g.sl) h5 (fun hm=>by obtain ⟨x,hx,he⟩:=Zbb.1 hm;exact b1 x hx he) (fun hm=>by obtain ⟨x,hx,he⟩:=Zbb.1 hm;exact b2 x hx he)
   refine List.Perm.nodup (List.Perm.symm ?_) h6
   show (t.us.map (·.sl)++(insP _ g t.gs).map (·.sl)++(AGs9 t g.sl).map (·.sl)).Perm _
   rw [AMt9]
   have h7:((insP (fun x:GraT=>decide (x.sl>g.sl)) g t.gs).map (·.sl)).Perm (g.sl::t.gs.map (·.sl)):=hp.map _
   refine ((List.Perm.append_left _ h7).append_right _).trans ?_
   rw [List.append_assoc,List.append_assoc]
   exact List.perm_middle
theorem ABq9.addU {t:TabT} {ly:LayT} {g:UseT} (h:ABq9 t ly) (hg:useOk g ly=true) (hb:busyT t g.sl=false) (hn:t.us.length+t.gs.length<24):ABq9 ⟨insSU g t.us,t.gs,AGs9 t g.sl⟩ ly:=by
 obtain ⟨h1,⟨h2,h3⟩,⟨u1,u2⟩,h4,⟨a1,a2⟩,h5⟩:=h
 obtain ⟨b1,b2⟩:=AXb9 hb
 have hp:=ADh9 (fun x:UseT=>decide (x.sl>g.sl)) g t.us
 refine ⟨h1,⟨?_, ?_⟩,⟨fun x hx=> ?_,AIw9 (sl:=fun x:UseT=>x.sl) u2 b1⟩,h4,⟨fun x hx=>a1 x (Zch.1 hx).1,a2.sublist Zes⟩, ?_⟩
 · have:=hp.length_eq
   simp only [Zei] at this
   show (insP _ g t.us).length+t.gs.length≤24
   omega
 · exact Nat.le_trans (Zdu _ _) h3
 · rcases Zbq.1 (hp.mem_iff.1 hx) with rfl|hx
   · exact hg
   · exact u1 x hx
 · have h6:=AVk9 (s:=g.sl) h5 (fun hm=>by obtain ⟨x,hx,he⟩:=Zbb.1 hm;exact b1 x hx he) (fun hm=>by obtain ⟨x,hx,he⟩:=Zbb.1 hm;exact b2 x hx he)
   refine List.Perm.nodup (List.Perm.symm ?_) h6
   show ((insP _ g t.us).map (·.sl)++t.gs.map (·.sl)++(AGs9 t g.sl).map (·.sl)).Perm _
   rw [AMt9]
   have h7:((insP (fun x:UseT=>decide (x.sl>g.sl)) g t.us).map (·.sl)).Perm (g.sl::t.us.map (·.sl)):=hp.map _
   exact (h7.append_right _).append_right _
theorem ANs9 {t:TabT} {ly:LayT} {g:GraT} (h:refEG t ly g=0):ABq9 (addSG t ly g) ly:=by
 obtain ⟨h1,h2,h3,h4⟩:=AHx9 h
 rw [addSG,if_pos h]
 exact (ABt9.1 h1).addG h2 h3 h4
theorem ANr9 {t:TabT} {ly:LayT} {g:UseT} (h:refEU t ly g=0):ABq9 (addSU t ly g) ly:=by
 obtain ⟨h1,h2,h3,h4⟩:=AHx9 h
 rw [addSU,if_pos h]
 exact (ABt9.1 h1).addU h2 h3 h4
theorem ADi9 {α β:Type} {P:β→Prop} {f:β→α→β} (hf:∀b a,P b→P (f b a)):∀(l:List α) {b:β},P b→P (l.foldl f b)
 | [],b,h=>h
 |x::r,b,h=>ADi9 hf r (hf b x h)
theorem AOv9 {s:SideT} {ly:LayT} {me fr:Int} {n:NearT} (t:TabT) (a:AskT) (h:ABq9 t ly):ABq9 (AAm9 s ly me fr n t a) ly:=by
 unfold AAm9
 split
 · exact h
 · split
   · rename_i h1;exact ANs9 h1
   · exact h
theorem AOw9 {s:SideT} {ly:LayT} {me fr:Int} {t:TabT} (h:ABq9 t ly):ABq9 (AHj9 s ly me fr t) ly:=
 ADi9 (P:=fun t=>ABq9 t ly) (fun t n h=>by
   unfold AEu9
   split
   · exact ADi9 (P:=fun t=>ABq9 t ly) (fun t a h=>AOv9 t a h) _ h
   · exact h) _ h
theorem AQb9 {s:SideT} {ly:LayT} {ts:Prs} {t:TabT} (h:ABq9 t ly):ABq9 (s.ns.foldl (takeN s ly ts) t) ly:=
 ADi9 (P:=fun t=>ABq9 t ly) (fun t n h=>by
   unfold takeN
   split
   · refine ADi9 (P:=fun t=>ABq9 t ly) (fun t a h=> ?_) _ h
     unfold ACb9
     split
     · rename_i h1;exact ANr9 h1
     · exact h
   · exact h) _ h
def LayIn (ly:LayT):Prop:=(1≤ly.no∧ly.no≤60)∧(1≤ly.da∧ly.da≤60)
theorem APe9 {ly:LayT} (h:LayIn ly) (sl of pe:Int):ABv9 sl of pe ly=ABr9 sl of pe ly:=by
 obtain ⟨h1,h2⟩:=h
 rw [ABv9,AAt9 (by omega) (by omega),AAt9 (by omega) (by omega),Bool.eq_iff_iff]
 simp only [inN,ABr9,Zaj,decide_eq_true_eq]
 omega
theorem BQn9 {ly:LayT} (h:LayIn ly) (x:UseT):useIs x ly=useOk x ly:=by
 rw [useIs,useOk,APe9 h];rfl
theorem BTg9 {ly:LayT} (h:LayIn ly) (x:GraT):graIs x ly=graOk x ly:=by
 rw [graIs,graOk,APe9 h,Bool.eq_iff_iff]
 simp only [inN,Zaj,decide_eq_true_eq]
 constructor
 · rintro ⟨h1,h2,⟨h3,h4⟩,h5⟩;exact ⟨h1,h2,h4,h5⟩
 · rintro ⟨h1,h2,h4,h5⟩;exact ⟨h1,h2,⟨h2,h4⟩,h5⟩
theorem CDy9 {ly:LayT} (h:LayIn ly) (n:NearT):(filN ly n).us=n.us.filter fun x=>useOk x ly:=by
 show n.us.filter _=_
 simp only [BQn9 h]
theorem BKz9 {ly:LayT} (h:LayIn ly) (n:NearT):(filN ly n).gs=n.gs.filter fun x=>graOk x ly:=by
 show n.gs.filter _=_
 simp only [BTg9 h]
theorem CDz9 {ly:LayT} (h:LayIn ly) (n:NearT):(filN ly n).ak=n.ak.filter fun x=>ABr9 x.sl x.of x.pe ly:=by
 show n.ak.filter _=_
 simp only [APe9 h]
theorem ATp9 {fr:Int} (h:0≤fr∧fr≤999999992) (g:GraT):BDt9 fr g=⟨g.sl,g.of,g.pe,g.st,if fr+8>g.un then fr+8 else g.un⟩:=by
 rw [BDt9,AAt9 (by omega) (by omega)]
theorem BRe9 {s:SideT} {ly:LayT} {fr:Int} (h:0≤fr∧fr≤999999992) {g:GraT} (hg:graOk g ly=true):graOk (ACs9 s fr g) ly=true:=by
 unfold ACs9
 split
 · rw [ATp9 h]
   simp only [graOk,Zaj,decide_eq_true_eq] at hg ⊢
   refine ⟨hg.1,hg.2.1, ?_, ?_⟩<;>split<;>omega
 · exact hg
theorem ALc9 (s:SideT) (fr:Int) (g:GraT):(ACs9 s fr g).sl=g.sl∧(ACs9 s fr g).of=g.of∧(ACs9 s fr g).pe=g.pe∧(ACs9 s fr g).st=g.st:=by
 unfold ACs9
 split<;>exact ⟨rfl,rfl,rfl,rfl⟩
theorem ABq9.expired {t:TabT} {ly:LayT} {s:SideT} {fr:Int} (h:ABq9 t ly) (hf:0≤fr∧fr≤999999992):ABq9 ⟨t.us,(ADn9 t fr).gs.map (ACs9 s fr),t.ak⟩ ly:=by
 obtain ⟨h1,⟨h2,h3⟩,h4,⟨g1,g2⟩,h5,h6⟩:=h
 have hsub:(ADn9 t fr).gs.Sublist t.gs:=Zes
 refine ⟨h1,⟨?_,h3⟩,h4,⟨fun x hx=> ?_, ?_⟩,h5, ?_⟩
 · have:=hsub.length_le
   simp only [List.length_map]
   omega
 · obtain ⟨y,hy,rfl⟩:=Zbb.1 hx
   exact BRe9 hf (g1 y (hsub.subset hy))
 · rw [List.pairwise_map]
   refine (g2.sublist hsub).imp fun {a b} hab=> ?_
   rw [(ALc9 s fr a).1,(ALc9 s fr b).1]
   exact hab
 · show (t.us.map (·.sl)++((ADn9 t fr).gs.map (ACs9 s fr)).map (·.sl)++t.ak.map (·.sl)).Nodup
   have e:((ADn9 t fr).gs.map (ACs9 s fr)).map (·.sl)=(ADn9 t fr).gs.map (·.sl):=by
     rw [List.map_map]
     exact List.map_congr_left fun x _=>(ALc9 s fr x).1
   rw [e]
   exact h6.sublist (List.Sublist.append (List.Sublist.append (List.Sublist.refl _) (hsub.map _)) (List.Sublist.refl _))
theorem ATs9 {ly:LayT} {t:TabT} {me:Int} {l:List NearT} {fr:Int} (h:newS ly t me l fr=true):ABq9 (AEf9 ly t me l fr) ly:=by
 rw [AEf9,if_pos h]
 exact AOw9 ((ABt9.1 (ADq9 h)).expired (AQy9 h).2)
theorem BKu9 (ly:LayT) (t:TabT) (me:Int) (l:List NearT) (fr:Int):(AEf9 ly t me l fr).us=t.us:=by
 unfold AEf9
 split
 · refine ADi9 (P:=fun q:TabT=>q.us=t.us) (fun q n hq=> ?_) _ rfl
   unfold AEu9
   split
   · refine ADi9 (P:=fun q:TabT=>q.us=t.us) (fun q a hq=> ?_) _ hq
     unfold AAm9
     split
     · exact hq
     · split
       · rename_i h1;rw [addSG,if_pos h1];exact hq
       · exact hq
   · exact hq
 · rfl
theorem BXq9 {ly:LayT} {me:Int} {l:List NearT} {fr:Int} (h:LayIn ly):∀n∈(sideS ly me l fr).ns,∀g∈n.gs,graOk g ly=true:=by
 intro n hn g hg
 simp only [sideS,Zbb] at hn
 obtain ⟨x,_,rfl⟩:=hn
 rw [BKz9 h] at hg
 exact (Zch.1 hg).2
theorem BBx9 {ly:LayT} {me:Int} {l:List NearT} {fr:Int} (h:LayIn ly) (u v:UseT) (hu:useOk u ly=true) (hv:v∈ACd9 (sideS ly me l fr) u):useOk v ly=true∧v.sl=u.sl:=by
 unfold ACd9 at hv
 split at hv
 · rename_i g hg
   rw [List.mem_singleton] at hv
   subst hv
   have hm:=(Zch.1 (List.mem_of_find?_eq_some hg)).1
   have hg2:graOk g ly=true:=by
     cases hf:sFind (sideS ly me l fr) u.pe with
     |none=>rw [hf] at hm;simp [nearO,zeroN] at hm
     | some n=>
       rw [hf] at hm
       exact BXq9 h n (List.mem_of_find?_eq_some hf) g hm
   simp only [useOk,graOk,Zaj,decide_eq_true_eq] at hu hg2 ⊢
   exact ⟨⟨hu.1,by omega,by omega⟩,trivial⟩
 · cases hv
theorem APz9 {s:SideT} (us:List UseT):((us.flatMap (ACd9 s)).map (·.sl)).Sublist (us.map (·.sl)):=by
 induction us with
 |nil=>exact List.Sublist.refl _
 | cons u r ih=>
   rw [List.flatMap_cons,List.map_append,Zdv]
   unfold ACd9
   split
   · exact ih.cons_cons _
   · exact ih.cons _
theorem ABq9.taken {t:TabT} {ly:LayT} {me:Int} {l:List NearT} {fr:Int} (h:ABq9 t ly) (hl:LayIn ly):ABq9 ⟨t.us.flatMap (ACd9 (sideS ly me l fr)),t.gs,t.ak⟩ ly:=by
 obtain ⟨h1,⟨h2,h3⟩,⟨u1,u2⟩,h4,h5,h6⟩:=h
 have hs:=APz9 (s:=sideS ly me l fr) t.us
 have hln:=hs.length_le
 simp only [List.length_map] at hln
 refine ⟨h1,⟨by show (t.us.flatMap _).length+t.gs.length≤24;omega,h3⟩,⟨fun x hx=> ?_, ?_⟩,h4,h5, ?_⟩
 · obtain ⟨u,hu,hx⟩:=List.mem_flatMap.1 hx
   exact (BBx9 hl u x (u1 u hu) hx).1
 · have h7:(t.us.map (·.sl)).Pairwise (fun a b=>a<b):=List.pairwise_map.2 u2
   exact List.pairwise_map.1 (h7.sublist hs)
 · exact h6.sublist (List.Sublist.append (List.Sublist.append hs (List.Sublist.refl _)) (List.Sublist.refl _))
theorem AXx9 {ly:LayT} {t:TabT} {me:Int} {l:List NearT} {fr:Int} (h:newS ly t me l fr=true):ABq9 (takeS ly t me l fr) ly:=by
 rw [takeS,if_pos h]
 exact AQb9 ((ABt9.1 (ADq9 h)).taken (ABc9 (ADq9 h)))
theorem AQh9 {z:List AskT} (h0:∀a∈z,0≤a.sl):∀n:Nat,(sortA z n).Perm (z.filter fun x=>decide (x.sl<(n:Int)))
 | 0=>by
   have e:(z.filter fun x=>decide (x.sl<((0:Nat):Int)))= []:=by
     rw [List.filter_eq_nil_iff]
     intro x hx
     have:=h0 x hx
     simp;omega
   rw [e];exact .refl _
 | n+1=>by
   rw [sortA]
   refine ((AQh9 h0 n).append_right _).trans ?_
   have e:∀l:List AskT,(l.filter (fun x=>decide (x.sl<(n:Int)))++l.filter (fun x=>x.sl==((n:Nat):Int))).Perm (l.filter fun x=>decide (x.sl<((n+1:Nat):Int))):=by
     intro l
     induction l with
     |nil=>exact .refl _
     | cons a l ih=>
       simp only [List.filter_cons]
       by_cases c1:a.sl<(n:Int)
       · have c2:a.sl<((n+1:Nat):Int):=by omega
         have c3:¬a.sl=(n:Int):=by omega
         simp only [c1,c2,decide_true,if_true,beq_iff_eq,c3,if_false,List.cons_append]
         exact ih.cons a
       · by_cases c3:a.sl=(n:Int)
         · have c2:a.sl<((n+1:Nat):Int):=by omega
           rw [if_neg (by simpa using c1),if_pos (by simpa using c3),if_pos (by simpa using c2)]
           exact List.perm_middle.trans (ih.cons a)
         · have c2:¬a.sl<((n+1:Nat):Int):=by omega
           simp only [c1,c2,decide_false,Bool.false_eq_true,if_false,beq_iff_eq,c3]
           exact ih
   exact e z
theorem ANa9 {z:List AskT} {da:Int} (h:AGu9 da z):(sortA z da.toNat).Perm z:=by
 have h1:=AQh9 (fun a ha=>(h.1 a ha).1) da.toNat
 rw [List.filter_eq_self.2 (fun a ha=>decide_eq_true (by have:=h.1 a ha;omega))] at h1
 exact h1
theorem CCz9 {α:Type} {R:α→α→Prop}:∀ {l:List α},l.length≤1→l.Pairwise R
 | [],_=>List.Pairwise.nil
 | [x],_=>List.pairwise_singleton _ _
 |_::_::_,h=>absurd h (by simp)
theorem AKu9 {z:List AskT} (hd:z.Pairwise (fun a b=>a.sl≠b.sl)):∀n:Nat,(sortA z n).Pairwise (fun a b=>a.sl<b.sl)∧∀a∈sortA z n,a.sl<(n:Int)
 |0=>⟨List.Pairwise.nil,fun a ha=>by cases ha⟩
 | n+1=>by
   obtain ⟨h1,h2⟩:=AKu9 hd n
   have h3:∀a∈z.filter (fun x=>x.sl==((n:Nat):Int)),a.sl=(n:Int):=fun a ha=>by
     have:=(Zch.1 ha).2
     simpa using this
   refine ⟨?_,fun a ha=> ?_⟩
   · rw [sortA,List.pairwise_append]
     refine ⟨h1, ?_,fun a ha b hb=>by have:=h2 a ha;have:=h3 b hb;omega⟩
     have h4:=AGf9 (n:Int) hd
     exact CCz9 h4
   · rw [sortA] at ha
     rcases Zbs.1 ha with ha|ha
     · have:=h2 a ha;omega
     · have:=h3 a ha;omega
theorem AXe9 {P:AskT→Prop} {s:SideT} {us:List UseT} {gs:List GraT} {n:NearT} {pe many:Int}:∀ {ks:List Nat} {z:List AskT},(∀a∈z,P a)→(∀k∈ks,possS s ⟨us,gs, []⟩ n (triSl s k) (triOf s k)=true→P ⟨triSl s k,triOf s k,pe⟩)→∀a∈askGo s us gs n pe many ks z,P a
 | [],z,h,_=>h
 | k::r,z,h,hk=>by
   rw [askGo]
   split
   · exact h
   · refine AXe9 (fun a ha=> ?_) fun k' h'=>hk k' (Zbx _ h')
     unfold AFu9 at ha
     split at ha
     · rename_i h1
       split at ha
       · exact h a ha
       · rcases Zbs.1 ha with ha|ha
         · exact h a ha
         · rw [List.mem_singleton] at ha
           subst ha
           exact hk k (Zbz) h1
     · exact h a ha
theorem AXd9 {s:SideT} {us:List UseT} {gs:List GraT} {n:NearT} {pe many:Int}:∀ {ks:List Nat} {z:List AskT},(z.length:Int)≤many→((askGo s us gs n pe many ks z).length:Int)≤many
 | [],z,h=>h
 | k::r,z,h=>by
   rw [askGo]
   split
   · exact h
   · rename_i h1
     refine AXd9 ?_
     unfold AFu9
     split
     · split
       · exact h
       · simp only [Zcr,Zei,List.length_nil];omega
     · exact h
theorem BQp9 (s:SideT) (k:Nat) (hd:1≤s.lay.da∧s.lay.da≤60) (hc:0≤triC s k):0≤triOf s k∧triOf s k<16:=by
 have h1:triC s k<16*s.lay.da:=by
   unfold triC
   rw [show Zae Zay (16*s.lay.da)=16*s.lay.da from AAt9 (by omega) (by omega)]
   exact Int.tmod_lt_of_pos _ (by omega)
 have h2:Int.tdiv (triC s k) s.lay.da=triC s k / s.lay.da:=Int.tdiv_eq_ediv_of_nonneg hc
 have h3:0≤triC s k / s.lay.da:=Int.ediv_nonneg hc (by omega)
 have h4:triC s k / s.lay.da<16:=by
   rw [Int.ediv_lt_iff_lt_mul (by omega)]
   exact h1
 unfold triOf
 rw [h2,AAt9 (by omega) (by omega)]
 exact ⟨h3,h4⟩
structure AskIs (ly:LayT) (t:TabT) (s:SideT) (n:NearT) (pe many:Int) (q:List AskT):Prop where
 ok:∀a∈q,askOk a ly=true∧possS s ⟨t.us,t.gs, []⟩ n a.sl a.of=true∧a.pe=pe
 sorted:q.Pairwise (fun a b=>a.sl<b.sl)
 len:(q.length:Int)≤many
theorem BZu9 {ly:LayT} {t:TabT} {me:Int} {l:List NearT} {fr pe:Int} {n:NearT} (h:newS ly t me l fr=true) (hf:sFind (sideS ly me l fr) pe=some n):∃x∈l,n=filN ly x∧x.fm=pe∧(0≤pe∧pe<ly.no)∧pe≠me:=by
 have hv:=ABc9 (ADq9 h)
 have hbad:(ABe9 none l).any (badN ly me fr)=false:=by
   rw [newS,Zaj,Zaj,Zaj,Zcq] at h
   exact h.2.2.2
 have h1:=List.mem_of_find?_eq_some hf
 have h2:(n.fm==pe)=true:=List.find?_some (p:=fun x:NearT=>x.fm==pe) hf
 simp only [sideS,Zbb] at h1
 obtain ⟨x,hx,rfl⟩:=h1
 have h3:x.fm=pe:=by
   have h5:(filN ly x).fm=pe:=by simpa using h2
   exact h5
 have h4:=BDo9 hv.1.2 hbad x hx
 rw [h3] at h4
 exact ⟨x,hx,rfl,h3,⟨h4.1,h4.2.1⟩,h4.2.2.1⟩
theorem BPg9 {ly:LayT} {t:TabT} {me:Int} {l:List NearT} {pe many fr:Int} (h:newS ly t me l fr=true) (hm:0≤many∧many≤24):
   (sFind (sideS ly me l fr) pe=none∧askS ly t me l pe many fr=⟨t.us,t.gs, []⟩)∨∃n q,sFind (sideS ly me l fr) pe=some n∧askS ly t me l pe many fr=⟨t.us,t.gs,q⟩∧AskIs ly t (sideS ly me l fr) n pe many q∧q=sortA (askGo (sideS ly me l fr) t.us t.gs n pe many (triKs ly) (keptA (sideS ly me l fr) t n pe many)) ly.da.toNat:=by
 have hin:inN many 24=true:=by rw [inN,decide_eq_true hm.1,decide_eq_true hm.2];rfl
 have hvt:=ADq9 h
 have hv:=ABc9 hvt
 have hva:=AFw9 hvt
 have hni:=AQy9 h
 cases hf:sFind (sideS ly me l fr) pe with
 |none=>exact .inl ⟨rfl,by rw [askS,h,hin,Bool.and_self,if_pos rfl,hf]⟩
 | some n=>
   refine .inr ⟨n,_,rfl,by rw [askS,h,hin,Bool.and_self,if_pos rfl,hf], ?_,rfl⟩
   obtain ⟨x,_,_,_,hpe,_⟩:=BZu9 h hf
   have hset0:AGu9 ly.da t.ak:=⟨fun a ha=>BVa9 (hva.2.2.1.1 a ha),hva.2.2.1.2.imp fun h=>by omega⟩
   have hk0:AGu9 ly.da (keptA (sideS ly me l fr) t n pe many):=
     ⟨fun a ha=>hset0.1 a (Zch.1 (List.mem_of_mem_take ha)).1,(hset0.2.sublist Zes).sublist (List.take_sublist _ _)⟩
   have htri:∀k∈triKs ly,(0≤triSl (sideS ly me l fr) k∧triSl (sideS ly me l fr) k<(sideS ly me l fr).lay.da)∧(0≤triOf (sideS ly me l fr) k∧triOf (sideS ly me l fr) k<16):=fun k hk=>by
     rw [triKs,List.mem_range'_1] at hk
     have hd:(sideS ly me l fr).lay.da=ly.da:=rfl
     have hn0:=BBu9 (s:=sideS ly me l fr) k (by omega) (by rw [hd];exact hv.2) ⟨hni.1.1,by have:=hni.1.2;show me<60;omega⟩ hni.2
     exact ⟨ATh9 _ k (by rw [hd];exact hv.2) hn0,BQp9 _ k (by rw [hd];exact hv.2) hn0⟩
   have hgs:AGu9 ly.da _:=AIg9 (s:=sideS ly me l fr) (us:=t.us) (gs:=t.gs) (n:=n) (pe:=pe) (many:=many) hk0 fun k hk=>(htri k hk).1
   have hp:=ANa9 hgs
   refine ⟨fun a ha=> ?_,(AKu9 hgs.2 _).1, ?_⟩
   · refine AXe9 (P:=fun a=>askOk a ly=true∧possS (sideS ly me l fr) ⟨t.us,t.gs, []⟩ n a.sl a.of=true∧a.pe=pe) (fun a ha=> ?_) (fun k hk hps=> ?_) a (hp.mem_iff.1 ha)
     · have h1:=Zch.1 (List.mem_of_mem_take ha)
       have h2:=h1.2
       rw [keepA,Zaj] at h2
       exact ⟨hva.2.2.1.1 a h1.1,h2.2,by simpa using h2.1⟩
     · obtain ⟨h1,h2⟩:=htri k hk
       refine ⟨?_,hps,rfl⟩
       show ABr9 _ _ pe ly=true
       simp only [ABr9,Zaj,decide_eq_true_eq]
       have hd:(sideS ly me l fr).lay.da=ly.da:=rfl
       rw [hd] at h1
       exact ⟨h1.1,h1.2,h2.1,h2.2,hpe.1,hpe.2⟩
   · rw [hp.length_eq]
     refine AXd9 ?_
     rw [keptA,Zdb]
     omega
theorem ASh9 (ly:LayT) (t:TabT) (me:Int) (l:List NearT) (pe many fr:Int):(askS ly t me l pe many fr).us=t.us∧(askS ly t me l pe many fr).gs=t.gs:=by
 unfold askS
 split
 · split<;>exact ⟨rfl,rfl⟩
 · exact ⟨rfl,rfl⟩
theorem BYs9 {s:SideT} {t:TabT} {n:NearT} {sl of:Int} (h:possS s ⟨t.us,t.gs, []⟩ n sl of=true):busyT t sl=false∧busyT ⟨n.us,n.gs, []⟩ sl=false∧AOz9 s.ns sl of s.me=false:=by
 unfold possS at h
 split at h
 · cases h
 · rename_i h1
   split at h
   · cases h
   · rename_i h2
     refine ⟨?_,by simpa using h2,by simpa using h⟩
     have h3:busyT t sl=busyT ⟨t.us,t.gs, []⟩ sl:=rfl
     rw [h3]
     simpa using h1
theorem ABq9.asks {t:TabT} {ly:LayT} {q:List AskT} (h:ABq9 t ly) (hok:∀a∈q,askOk a ly=true) (hs:q.Pairwise (fun a b=>a.sl<b.sl)) (hl:q.length≤24) (hb:∀a∈q,busyT t a.sl=false):ABq9 ⟨t.us,t.gs,q⟩ ly:=by
 obtain ⟨h1,⟨h2,_⟩,h4,h5,_,h6⟩:=h
 refine ⟨h1,⟨h2,hl⟩,h4,h5,⟨hok,hs⟩, ?_⟩
 show (t.us.map (·.sl)++t.gs.map (·.sl)++q.map (·.sl)).Nodup
 have h7:(t.us.map (·.sl)++t.gs.map (·.sl)).Nodup:=h6.sublist (List.sublist_append_left _ _)
 rw [List.nodup_append]
 refine ⟨h7, ?_,fun a ha b hb' hab=> ?_⟩
 · rw [List.Nodup,List.pairwise_map]
   exact hs.imp fun h=>by omega
 · obtain ⟨x,hx,rfl⟩:=Zbb.1 hb'
   obtain ⟨b1,b2⟩:=AXb9 (hb x hx)
   rcases Zbs.1 ha with ha|ha
   · obtain ⟨y,hy,rfl⟩:=Zbb.1 ha
     exact b1 y hy hab
   · obtain ⟨y,hy,rfl⟩:=Zbb.1 ha
     exact b2 y hy hab
theorem BHm9 {ly:LayT} {t:TabT} {me:Int} {l:List NearT} {pe many fr:Int} (h:newS ly t me l fr=true):ABq9 (askS ly t me l pe many fr) ly:=by
 have hvt:=ABt9.1 (ADq9 h)
 by_cases hm:0≤many∧many≤24
 · rcases BPg9 (pe:=pe) h hm with ⟨_,e⟩|⟨n,q,_,e,hq,_⟩
   · rw [e]
     exact hvt.asks (by simp) .nil (by simp) (by simp)
   · rw [e]
     exact hvt.asks (fun a ha=>(hq.ok a ha).1) hq.sorted (by have:=hq.len;omega) fun a ha=>(BYs9 (hq.ok a ha).2.1).1
 · have hin:inN many 24=false:=by
     rw [inN]
     by_cases h1:0≤many
     · rw [decide_eq_false (p:=many≤24) (by omega),Zem]
     · rw [decide_eq_false (p:=many≥0) (by omega),Bool.false_and]
   rw [askS,hin,Zem,if_neg (by decide)]
   exact hvt
def gtP (v:UseT) (me fr:Int) (n:NearT) (g:GraT):Bool:=n.fm==v.pe&&((g.sl==v.sl&&(g.of==v.of&&true))&&(g.pe==me&&(decide (g.un≥fr)&&g.st==v.st)))
def gtN (v:UseT) (me fr:Int) (n:NearT):Bool:=n.gs.any (gtP v me fr n)
def gtV (me fr:Int) (l:List NearT) (v:UseT):Bool:=l.any (gtN v me fr)
theorem ANl9 {ly:LayT} (h:LayIn ly) {n:NearT} {g:GraT} (hg:g∈(filN ly n).gs):g∈n.gs:=by
 rw [BKz9 h] at hg
 exact (Zch.1 hg).1
def AIj9 (me fr:Int) (l:List NearT) (v:UseT):Prop:=∃n∈l,∃g∈n.gs,n.fm=v.pe∧g.sl=v.sl∧g.of=v.of∧g.pe=me∧g.un≥fr∧g.st=v.st
theorem CFj9 {me fr:Int} {l:List NearT} {v:UseT}:gtV me fr l v=true↔AIj9 me fr l v:=by
 simp only [gtV,gtN,gtP,List.any_eq_true,Zaj,beq_iff_eq,decide_eq_true_eq,and_true,AIj9]
 constructor
 · rintro ⟨n,hn,g,hg,h1,⟨h2,h3⟩,h4,h5,h6⟩;exact ⟨n,hn,g,hg,h1,h2,h3,h4,h5,h6⟩
 · rintro ⟨n,hn,g,hg,h1,h2,h3,h4,h5,h6⟩;exact ⟨n,hn,g,hg,h1,⟨h2,h3⟩,h4,h5,h6⟩
theorem AQa9 {ly:LayT} {t:TabT} {me:Int} {l:List NearT} {fr:Int} (h:newS ly t me l fr=true):∀v∈(takeS ly t me l fr).us,AIj9 me fr l v:=by
 have hl:=ABc9 (ADq9 h)
 rw [takeS,if_pos h]
 have hns:∀n∈(sideS ly me l fr).ns,∃x∈l,n=filN ly x:=fun n hn=>by
   simp only [sideS,Zbb] at hn
   obtain ⟨x,hx,rfl⟩:=hn
   exact ⟨x,hx,rfl⟩
 have hg:∀n∈(sideS ly me l fr).ns,∀g∈ABj9 (sideS ly me l fr) n,AIj9 me fr l ⟨g.sl,g.of,n.fm,g.st⟩:=fun n hn g hg=>by
   obtain ⟨x,hx,rfl⟩:=hns n hn
   have h1:=Zch.1 hg
   have h2:=h1.2
   rw [Zaj] at h2
   have h3:g.pe=(sideS ly me l fr).me:=by simpa using h2.1
   have h4:g.un≥(sideS ly me l fr).fr:=of_decide_eq_true h2.2
   exact ⟨x,hx,g,ANl9 hl h1.1,rfl,rfl,rfl,h3,h4,rfl⟩
 have fold:∀(ns:List NearT),(∀n∈ns,n∈(sideS ly me l fr).ns)→∀(q:TabT),(∀v∈q.us,AIj9 me fr l v)→∀v∈(ns.foldl (takeN (sideS ly me l fr) ly (BJo9 t)) q).us,AIj9 me fr l v:=by
   intro ns
   induction ns with
   |nil=>intro _ q hq;exact hq
   | cons n ns ih=>
     intro hin q hq
     refine ih (fun m hm=>hin m (Zbx _ hm)) _ ?_
     have hgn:=hg n (hin n (Zbz))
     unfold takeN
     split
     · have inner:∀(gl:List GraT),(∀g∈gl,AIj9 me fr l ⟨g.sl,g.of,n.fm,g.st⟩)→∀(q:TabT),(∀v∈q.us,AIj9 me fr l v)→∀v∈(gl.foldl (ACb9 ly n) q).us,AIj9 me fr l v:=by
         intro gl
         induction gl with
         |nil=>intro _ q hq;exact hq
         | cons g gl ih2=>
           intro hgl q hq
           refine ih2 (fun m hm=>hgl m (Zbx _ hm)) _ ?_
           unfold ACb9
           split
           · rename_i h1
             rw [addSU,if_pos h1]
             intro v hv
             rcases Zbq.1 ((ADh9 _ _ q.us).mem_iff.1 hv) with rfl|hv
             · exact hgl g (Zbz)
             · exact hq v hv
           · exact hq
       exact inner _ hgn q hq
     · exact hq
 refine fold _ (fun n hn=>hn) _ fun v hv=> ?_
 obtain ⟨u,hu,hv⟩:=List.mem_flatMap.1 hv
 unfold ACd9 at hv
 split at hv
 · rename_i g hf
   rw [List.mem_singleton] at hv
   subst hv
   have hm:=List.mem_of_find?_eq_some hf
   have hp:=List.find?_some (p:=fun x:GraT=>x.sl==u.sl&&x.of==u.of) hf
   simp only [Zaj,beq_iff_eq] at hp
   cases hs:sFind (sideS ly me l fr) u.pe with
   | none=>
     rw [hs] at hm
     have:=(Zch.1 hm).1
     simp [nearO,zeroN] at this
   | some n=>
     rw [hs] at hm
     have h3:=hg n (List.mem_of_find?_eq_some hs) g hm
     have h4:=List.find?_some (p:=fun x:NearT=>x.fm==u.pe) hs
     have h5:n.fm=u.pe:=by simpa using h4
     rw [hp.1,hp.2,h5] at h3
     exact h3
 · cases hv
end Go.Proofs.YthcbbmnjikhihaaGreat.Am
namespace Go.Proofs.YthcbbmnjikhihaaGreat.Am
open Go Go.RowKit Go.Proofs Go.ChangeShapes Go.WideShapes Go.ChangeAt Tryz
open AV renaming agg → Zao, bad → Zad, d → Zab, fn → Zat, gref → Zbu, ptr → Zak, rptr → Zag
open AskT renaming sl → Zde
open BIf renaming f → Zdl, of → Zbh, t → Zbg
open Bool renaming and_eq_true → Zaj, and_false → Zem, not_eq_true' → Zcq
open AAb9 renaming cons → Zai, nil → Zal
open Go.Code renaming loop → Zaz
open Dv renaming fn → Zco, pt → Zdn, s → Zdc, sl → Zaf
open Go.Exit renaming exit → Zbv, normal → Zfo
open Int renaming toNat → Zav
open Go.IntKind renaming i64 → Zay, wrap → Zae
open LayT renaming da → Zds
open LeH renaming refl → Zce
open LeVs renaming refl → Zfs
open List renaming all → Zcb, filter_sublist → Zes, getElem?_eq_getElem → Zba, length → Zaa, length_append → Zcr, length_cons → Zei, length_filter_le → Zdu, length_take → Zdb, map_cons → Zdv, mem_append → Zbs, mem_cons → Zbq, mem_cons_of_mem → Zbx, mem_cons_self → Zbz, mem_filter → Zch, mem_map → Zbb, mem_of_getElem? → Zby, pairwise_cons → Zen, replicate → Zaq, take_length → Zdx
open Nat renaming le_refl → Zau, lt_of_le_of_lt → Zev
open NearT renaming ak → Zcc, gs → Zbn, us → Zbp
open PairT renaming li → Zdh, se → Zej
open AAk9 renaming cons → Zbw, nil → Zah
open SideT renaming lay → Zcn, ns → Zas
open TabT renaming ak → Zbo, gs → Zbl, us → Zbj
open Go.Value renaming map → Zbm
open AV (bad)
set_option linter.unusedVariables false
set_option maxRecDepth 20000
theorem glob0 (S:Pr) (w:World):Glob S w:=fun g j v h=>by simp [AGp9] at h
theorem CBy9:ownKnob Tryz.prog.godebug=none:=by kernel_rfl
theorem BAe9:laidOutB prog=true:=by kernel_rfl
end Go.Proofs.YthcbbmnjikhihaaGreat.Am
namespace Go.Proofs.YthcbbmnjikhihaaGreat.Am
open Go Go.RowKit Go.Proofs Tryz
open AV renaming agg → Zao, bad → Zad, d → Zab, fn → Zat, gref → Zbu, ptr → Zak, rptr → Zag
open AskT renaming sl → Zde
open BIf renaming f → Zdl, of → Zbh, t → Zbg
open Bool renaming and_eq_true → Zaj, and_false → Zem, not_eq_true' → Zcq
open AAb9 renaming cons → Zai, nil → Zal
open Go.Code renaming loop → Zaz
open Dv renaming fn → Zco, pt → Zdn, s → Zdc, sl → Zaf
open Go.Exit renaming exit → Zbv, normal → Zfo
open Int renaming toNat → Zav
open Go.IntKind renaming i64 → Zay, wrap → Zae
open LayT renaming da → Zds
open LeH renaming refl → Zce
open LeVs renaming refl → Zfs
open List renaming all → Zcb, filter_sublist → Zes, getElem?_eq_getElem → Zba, length → Zaa, length_append → Zcr, length_cons → Zei, length_filter_le → Zdu, length_take → Zdb, map_cons → Zdv, mem_append → Zbs, mem_cons → Zbq, mem_cons_of_mem → Zbx, mem_cons_self → Zbz, mem_filter → Zch, mem_map → Zbb, mem_of_getElem? → Zby, pairwise_cons → Zen, replicate → Zaq, take_length → Zdx
open Nat renaming le_refl → Zau, lt_of_le_of_lt → Zev
open NearT renaming ak → Zcc, gs → Zbn, us → Zbp
open PairT renaming li → Zdh, se → Zej
open AAk9 renaming cons → Zbw, nil → Zah
open SideT renaming lay → Zcn, ns → Zas
open TabT renaming ak → Zbo, gs → Zbl, us → Zbj
open Go.Value renaming map → Zbm
variable {β:Type} (wl:WLT β) (y:ACv9 β) (b:β) (R:AV→β→Prop) (K:Exit→List AV→List Blk→β→Prop)
open AV (bad)
set_option linter.unusedVariables false
set_option maxRecDepth 20000
set_option maxHeartbeats 1000000
def nextS (ly:LayT) (p:PairT) (fr:Int) (down up:Bool):PairT:=
 ⟨p.li,takeS ly p.se 1 (if down=true then [toldN 0 p.li fr] else p.ns) fr,if up=true then [toldN 1 (takeS ly p.se 1 (if down=true then [toldN 0 p.li fr] else p.ns) fr) fr] else p.nl,if down=true then [toldN 0 p.li fr] else p.ns⟩
def turnS (ly:LayT) (p:PairT) (fr many:Int):PairT:=⟨AEf9 ly p.li 0 p.nl fr,askS ly p.se 1 p.ns 0 many fr,p.nl,p.ns⟩
def TNx:List (Nat×(List AV→(AV→Prop)→Prop)):= [(32,cTold),(14,cTake)]
theorem CEp9:AAb9 prog TNx:=Zai BFo9 (Zai BFp9 Zal)
def TTu:List (Nat×(List AV→(AV→Prop)→Prop)):= [(13,CBg9),(12,cAsk)]
theorem CEl9:AAb9 prog TTu:=Zai AWt9 (Zai BPf9 Zal)
abbrev Qz37 (v0:PairT):List AV:= [Zab (Zaf 4 (rowsU (Zbj (Zej v0)))),Zab (Zaf 5 (rowsG (Zbl (Zej v0)))),Zab (Zaf 3 (rowsA (Zbo (Zej v0))))]
abbrev Qz52 (v0:PairT):List AV:= [Zab (Zaf 4 (rowsU (Zbj (Zdh v0)))),Zab (Zaf 5 (rowsG (Zbl (Zdh v0)))),Zab (Zaf 3 (rowsA (Zbo (Zdh v0))))]
theorem BZt9 (p:PairT) (ly:LayT) (fr many:Int) (d u:Bool):wpFn prog ⟨TNx, [],wl,y,false⟩ 100 f28 [pairA p,layA ly, .d (i64 fr), .d (i64 many), .d (bo d), .d (bo u)] b R=(BIf d (∃(t0:TabT) (me1:Int) (fr2:Int) (q3:List NearT), [Zab (i64 0),Zao (Qz52 p),Zab (i64 fr)]=(Qz36 me1 t0 fr2)∧q3= [toldN me1 t0 fr2]∧∃(ly4:LayT) (t5:TabT) (q6:TabT) (me7:Int) (l8:List NearT) (fr9:Int), [Zao (Qz5 ly),Zao (Qz37 p),Zab (i64 1),Zab (Zaf 31 (rowsN q3)),Zab (i64 fr)]=(Qz17 ly4 t5 me7 l8 fr9)∧((Zaa (Zbj t5)<10000∧Zaa (Zbl t5)<10000∧Zaa (Zbo t5)<10000)∧Zaa l8<1000000∧(∀(x:NearT),x∈l8→Zaa (Zbp x)<1000000∧Zaa (Zbn x)<1000000∧Zaa (Zcc x)<1000000)∧q6=takeS ly4 t5 me7 l8 fr9)∧BIf u (∃(t10:TabT) (me11:Int) (fr12:Int) (q13:List NearT), [Zab (i64 1),Zao (Qz3 q6),Zab (i64 fr)]=(Qz36 me11 t10 fr12)∧q13= [toldN me11 t10 fr12]∧R (.agg [Zab (Zaf 4 (rowsU (Zbj (Zdh p)))),Zab (Zaf 5 (rowsG (Zbl (Zdh p)))),Zab (Zaf 3 (rowsA (Zbo (Zdh p)))),Zab (Zaf 4 (rowsU (Zbj q6))),Zab (Zaf 5 (rowsG (Zbl q6))),Zab (Zaf 3 (rowsA (Zbo q6))),Zab (Zaf 31 (rowsN q13)),Zab (Zaf 31 (rowsN q3))]) b) (R (.agg [Zab (Zaf 4 (rowsU (Zbj (Zdh p)))),Zab (Zaf 5 (rowsG (Zbl (Zdh p)))),Zab (Zaf 3 (rowsA (Zbo (Zdh p)))),Zab (Zaf 4 (rowsU (Zbj q6))),Zab (Zaf 5 (rowsG (Zbl q6))),Zab (Zaf 3 (rowsA (Zbo q6))),Zab (Zaf 31 (rowsN (PairT.nl p))),Zab (Zaf 31 (rowsN q3))]) b)) (∃(ly14:LayT) (t15:TabT) (q16:TabT) (me17:Int) (l18:List NearT) (fr19:Int), [Zao (Qz5 ly),Zao (Qz37 p),Zab (i64 1),Zab (Zaf 31 (rowsN (PairT.ns p))),Zab (i64 fr)]=(Qz17 ly14 t15 me17 l18 fr19)∧((Zaa (Zbj t15)<10000∧Zaa (Zbl t15)<10000∧Zaa (Zbo t15)<10000)∧Zaa l18<1000000∧(∀(x:NearT),x∈l18→Zaa (Zbp x)<1000000∧Zaa (Zbn x)<1000000∧Zaa (Zcc x)<1000000)∧q16=takeS ly14 t15 me17 l18 fr19)∧BIf u (∃(t20:TabT) (me21:Int) (fr22:Int) (q23:List NearT), [Zab (i64 1),Zao (Qz3 q16),Zab (i64 fr)]=(Qz36 me21 t20 fr22)∧q23= [toldN me21 t20 fr22]∧R (.agg [Zab (Zaf 4 (rowsU (Zbj (Zdh p)))),Zab (Zaf 5 (rowsG (Zbl (Zdh p)))),Zab (Zaf 3 (rowsA (Zbo (Zdh p)))),Zab (Zaf 4 (rowsU (Zbj q16))),Zab (Zaf 5 (rowsG (Zbl q16))),Zab (Zaf 3 (rowsA (Zbo q16))),Zab (Zaf 31 (rowsN q23)),Zab (Zaf 31 (rowsN (PairT.ns p)))]) b) (R (.agg [Zab (Zaf 4 (rowsU (Zbj (Zdh p)))),Zab (Zaf 5 (rowsG (Zbl (Zdh p)))),Zab (Zaf 3 (rowsA (Zbo (Zdh p)))),Zab (Zaf 4 (rowsU (Zbj q16))),Zab (Zaf 5 (rowsG (Zbl q16))),Zab (Zaf 3 (rowsA (Zbo q16))),Zab (Zaf 31 (rowsN (PairT.nl p))),Zab (Zaf 31 (rowsN (PairT.ns p)))]) b))):=by kernel_rfl
theorem BXi9 (p:PairT) (ly:LayT) (fr many:Int):wpFn prog ⟨TTu, [],wl,y,false⟩ 100 f30 [pairA p,layA ly, .d (i64 fr), .d (i64 many)] b R=(∃(ly0:LayT) (t1:TabT) (q2:TabT) (me3:Int) (l4:List NearT) (fr5:Int), [Zao (Qz5 ly),Zao (Qz52 p),Zab (i64 0),Zab (Zaf 31 (rowsN (PairT.nl p))),Zab (i64 fr)]=(Qz17 ly0 t1 me3 l4 fr5)∧((Zaa (Zbj t1)<10000∧Zaa (Zbl t1)<10000∧Zaa (Zbo t1)<10000)∧Zaa l4<1000000∧(∀(x:NearT),x∈l4→Zaa (Zbp x)<1000000∧Zaa (Zbn x)<1000000∧Zaa (Zcc x)<1000000)∧q2=AEf9 ly0 t1 me3 l4 fr5)∧∃(ly6:LayT) (t7:TabT) (q8:TabT) (me9:Int) (l10:List NearT) (pe11:Int) (many12:Int) (fr13:Int), [Zao (Qz5 ly),Zao (Qz37 p),Zab (i64 1),Zab (Zaf 31 (rowsN (PairT.ns p))),Zab (i64 0),Zab (i64 many),Zab (i64 fr)]= [Zao (Qz5 ly6),Zao (Qz3 t7),Zab (i64 me9),Zab (Zaf 31 (rowsN l10)),Zab (i64 pe11),Zab (i64 many12),Zab (i64 fr13)]∧((Zaa (Zbj t7)<10000∧Zaa (Zbl t7)<10000∧Zaa (Zbo t7)<10000)∧Zaa l10<1000000∧(∀(x:NearT),x∈l10→Zaa (Zbp x)<10000∧Zaa (Zbn x)<10000∧Zaa (Zcc x)<10000)∧q8=askS ly6 t7 me9 l10 pe11 many12 fr13)∧R (.agg [Zab (Zaf 4 (rowsU (Zbj q2))),Zab (Zaf 5 (rowsG (Zbl q2))),Zab (Zaf 3 (rowsA (Zbo q2))),Zab (Zaf 4 (rowsU (Zbj q8))),Zab (Zaf 5 (rowsG (Zbl q8))),Zab (Zaf 3 (rowsA (Zbo q8))),Zab (Zaf 31 (rowsN (PairT.nl p))),Zab (Zaf 31 (rowsN (PairT.ns p)))]) b):=by kernel_rfl
def BIm9 (p:PairT):Prop:=TabOk p.li∧TabOk p.se∧(p.nl.length<1000000∧∀x∈p.nl,AIi9 x)∧(p.ns.length<1000000∧∀x∈p.ns,AIi9 x)
theorem BQr9 {me fr:Int} {t:TabT} (h:TabOk t):∀x∈ [toldN me t fr],AIi9 x:=fun x hx=>by
 rw [List.mem_singleton] at hx;subst hx;exact ⟨h.1,h.2.1,h.2.2⟩
theorem lt4 {l:List NearT} (h:∀x∈l,AIi9 x):∀x∈l,AFb9 x:=fun x hx=>by
 obtain ⟨h1,h2,h3⟩:=h x hx;exact ⟨by omega,by omega,by omega⟩
theorem CDl9 (p:PairT) (ly:LayT) (fr many:Int) (d u:Bool) (h:BIm9 p):PCall prog 28 [pairA p,layA ly, .d (i64 fr), .d (i64 many), .d (bo d), .d (bo u)] (pairA (nextS ly p fr d u)):=by
 refine PCall.ofFn (n:=100) (u:=false) mixed CEp9 Zah func28 (by rfl) (by rfl) fun Ev bb=> ?_
 rw [BZt9]
 obtain ⟨h1,h2,h3,h4⟩:=h
 cases d<;>cases u
 · exact ⟨ly,p.se,_,1,p.ns,fr,rfl,⟨h2,h4.1,lt4 h4.2,rfl⟩,rfl⟩
 · exact ⟨ly,p.se,_,1,p.ns,fr,rfl,⟨h2,h4.1,lt4 h4.2,rfl⟩,_,1,fr,_,rfl,rfl,rfl⟩
 · exact ⟨p.li,0,fr,_,rfl,rfl,ly,p.se,_,1, [toldN 0 p.li fr],fr,rfl,⟨h2,(by show 1<1000000;decide),lt4 (BQr9 h1),rfl⟩,rfl⟩
 · exact ⟨p.li,0,fr,_,rfl,rfl,ly,p.se,_,1, [toldN 0 p.li fr],fr,rfl,⟨h2,(by show 1<1000000;decide),lt4 (BQr9 h1),rfl⟩,_,1,fr,_,rfl,rfl,rfl⟩
theorem CDb9 (p:PairT) (ly:LayT) (fr many:Int) (h:BIm9 p):PCall prog 30 [pairA p,layA ly, .d (i64 fr), .d (i64 many)] (pairA (turnS ly p fr many)):=by
 refine PCall.ofFn (n:=100) (u:=false) mixed CEl9 Zah func30 (by rfl) (by rfl) fun Ev bb=> ?_
 rw [BXi9]
 obtain ⟨h1,h2,h3,h4⟩:=h
 exact ⟨ly,p.li,_,0,p.nl,fr,rfl,⟨h1,h3.1,lt4 h3.2,rfl⟩,ly,p.se,_,1,p.ns,0,many,fr,rfl,⟨h2,h4.1,h4.2,rfl⟩,rfl⟩
def cNext (args:List AV) (K:AV→Prop):Prop:=∃(p q:PairT) (ly:LayT) (fr many:Int) (d u:Bool),args= [pairA p,layA ly, .d (i64 fr), .d (i64 many), .d (bo d), .d (bo u)]∧(BIm9 p∧q=nextS ly p fr d u)∧K (pairA q)
theorem BUq9:∀args K,cNext args K→∃x,PCall prog 28 args x∧K x:=by
 rintro _ K ⟨p,_,ly,fr,many,d,u,rfl,⟨h,rfl⟩,hk⟩;exact ⟨_,CDl9 p ly fr many d u h,hk⟩
def cTurn (args:List AV) (K:AV→Prop):Prop:=∃(p q:PairT) (ly:LayT) (fr many:Int),args= [pairA p,layA ly, .d (i64 fr), .d (i64 many)]∧(BIm9 p∧q=turnS ly p fr many)∧K (pairA q)
theorem BUh9:∀args K,cTurn args K→∃x,PCall prog 30 args x∧K x:=by
 rintro _ K ⟨p,_,ly,fr,many,rfl,⟨h,rfl⟩,hk⟩;exact ⟨_,CDb9 p ly fr many h,hk⟩
noncomputable def lpSe:Code:=sub [1,1,1,1,1,0,1,2,3] (code Tryz.f8)
def tmSe (da many fi:Int) (u:Bool) (i:Int):List AV:= [.d (i64 da), .d (i64 many), .d (i64 fi), .bad, .bad, .bad, .bad, .d (bo u), .ptr 0 0, .ptr 1 0, .d (i64 i)]++Zaq 66 .bad
def TSt:List (Nat×(List AV→(AV→Prop)→Prop)):= [(28,cNext),(30,cTurn)]
theorem CBz9:AAb9 prog TSt:=Zai BUq9 (Zai BUh9 Zal)
abbrev Qz9 (v0:PairT):List AV:= [Zab (Zaf 4 (rowsU (Zbj (Zdh v0)))),Zab (Zaf 5 (rowsG (Zbl (Zdh v0)))),Zab (Zaf 3 (rowsA (Zbo (Zdh v0)))),Zab (Zaf 4 (rowsU (Zbj (Zej v0)))),Zab (Zaf 5 (rowsG (Zbl (Zej v0)))),Zab (Zaf 3 (rowsA (Zbo (Zej v0)))),Zab (Zaf 31 (rowsN (PairT.nl v0))),Zab (Zaf 31 (rowsN (PairT.ns v0)))]
abbrev Qz53 (v0:LayT) (v1:PairT):= [Blk.mk (Qz5 v0) false false 0,Blk.mk (Qz9 v1) false false 0]
theorem rSe (ly:LayT) (p:PairT) (da many fi:Int) (u:Bool) (i:Int):wpc prog ⟨TSt, [],wl,y,false⟩ 100 lpSe (tmSe da many fi u i) [layB ly,pairB p] b (maskK 2 [0,1,2,7,8,9,10] K)=(BIf (decide (i<(12:Int))) (∃(p0:PairT) (q1:PairT) (ly2:LayT) (fr3:Int) (many4:Int) (d5:Bool) (u6:Bool), [Zao (Qz9 p),Zao (Qz5 ly),Zab (i64 (Zae .i64 (fi+i))),Zab (i64 many),Zab (bo true),Zab (bo true)]= [Zao (Qz9 p0),Zao (Qz5 ly2),Zab (i64 fr3),Zab (i64 many4),Zab (bo d5),Zab (bo u6)]∧(((Zaa (Zbj (Zdh p0))<10000∧Zaa (Zbl (Zdh p0))<10000∧Zaa (Zbo (Zdh p0))<10000)∧(Zaa (Zbj (Zej p0))<10000∧Zaa (Zbl (Zej p0))<10000∧Zaa (Zbo (Zej p0))<10000)∧(Zaa (PairT.nl p0)<1000000∧∀(x:NearT),x∈PairT.nl p0→Zaa (Zbp x)<10000∧Zaa (Zbn x)<10000∧Zaa (Zcc x)<10000)∧Zaa (PairT.ns p0)<1000000∧∀(x:NearT),x∈PairT.ns p0→Zaa (Zbp x)<10000∧Zaa (Zbn x)<10000∧Zaa (Zcc x)<10000)∧q1=nextS ly2 p0 fr3 d5 u6)∧∃(p7:PairT) (q8:PairT) (ly9:LayT) (fr10:Int) (many11:Int), [Zao (Qz9 q1),Zao (Qz5 ly),Zab (i64 (Zae .i64 (fi+i))),Zab (i64 (if Zae .i64 (many - ((Zaa (rowsU (Zbj (Zej q1))):Nat):Int))>(0:Int) then Zae .i64 (many - ((Zaa (rowsU (Zbj (Zej q1))):Nat):Int)) else (0:Int)))]= [Zao (Qz9 p7),Zao (Qz5 ly9),Zab (i64 fr10),Zab (i64 many11)]∧(((Zaa (Zbj (Zdh p7))<10000∧Zaa (Zbl (Zdh p7))<10000∧Zaa (Zbo (Zdh p7))<10000)∧(Zaa (Zbj (Zej p7))<10000∧Zaa (Zbl (Zej p7))<10000∧Zaa (Zbo (Zej p7))<10000)∧(Zaa (PairT.nl p7)<1000000∧∀(x:NearT),x∈PairT.nl p7→Zaa (Zbp x)<10000∧Zaa (Zbn x)<10000∧Zaa (Zcc x)<10000)∧Zaa (PairT.ns p7)<1000000∧∀(x:NearT),x∈PairT.ns p7→Zaa (Zbp x)<10000∧Zaa (Zbn x)<10000∧Zaa (Zcc x)<10000)∧q8=turnS ly9 p7 fr10 many11)∧BIf u (BIf (decide (i<(2:Int))) (K .normal (Zab (i64 da)::Zab (i64 many)::Zab (i64 fi)::bds 4 (Zab (bo true)::Zak 0 0::Zak 1 0::Zab (i64 (Zae .i64 (i+1)))::bds 66 [])) (Qz53 ly q8) b) (∃(z12:Int),(z12=if da<many then da else many)∧K .normal (Zab (i64 da)::Zab (i64 many)::Zab (i64 fi)::bds 4 (Zab (bo (decide (((Zaa (rowsU (Zbj (Zej q8))):Nat):Int)≥z12)))::Zak 0 0::Zak 1 0::Zab (i64 (Zae .i64 (i+1)))::bds 66 [])) (Qz53 ly q8) b)) (K .normal (Zab (i64 da)::Zab (i64 many)::Zab (i64 fi)::bds 4 (Zab (bo false)::Zak 0 0::Zak 1 0::Zab (i64 (Zae .i64 (i+1)))::bds 66 [])) (Qz53 ly q8) b)) (K (Zbv 0) (Zab (i64 da)::Zab (i64 many)::Zab (i64 fi)::bds 4 (Zab (bo u)::Zak 0 0::Zak 1 0::Zab (i64 i)::bds 66 [])) (Qz53 ly p) b)):=by kernel_rfl
theorem ALv9 {α β:Type} {P:β→Prop} {f:β→α→β}:∀(l:List α) {b:β},(∀b a,a∈l→P b→P (f b a))→P b→P (l.foldl f b)
 | [],b,_,h=>h
 |x::r,b,hf,h=>ALv9 r (fun b a ha=>hf b a (Zbx _ ha)) (hf b x Zbz h)
def Asked (s:SideT) (me fr:Int) (b:GraT):Prop:=∃n∈s.ns,AJn9 s n=true∧∃a∈n.ak,a.pe=me∧usedS s.ns a.sl a.of n.fm=false∧b=newG fr n a
def GrInv (s:SideT) (me fr:Int) (g0:List GraT) (q:TabT):Prop:=(∀g∈g0,g∈q.gs)∧∀b∈q.gs,b∈g0∨(Asked s me fr b∧∀g∈g0,g.sl≠b.sl)
theorem ATv9 {s:SideT} {ly:LayT} {me fr:Int} {n:NearT} {a:AskT} {g0:List GraT} {q:TabT} (hn:n∈s.ns) (hh:AJn9 s n=true) (ha:a∈n.ak) (h:GrInv s me fr g0 q):GrInv s me fr g0 (AAm9 s ly me fr n q a):=by
 unfold AAm9
 split
 · exact h
 · rename_i h0
   split
   · rename_i h1
     rw [addSG,if_pos h1]
     obtain ⟨b1,b2⟩:=AXb9 (AHx9 h1).2.2.1
     have hp:=ADh9 (fun x:GraT=>decide (x.sl>(newG fr n a).sl)) (newG fr n a) q.gs
     simp only [Bool.not_eq_true,Bool.or_eq_false_iff,bne_eq_false_iff_eq] at h0
     refine ⟨fun g hg=>hp.mem_iff.2 (Zbx _ (h.1 g hg)),fun b hb=> ?_⟩
     rcases Zbq.1 (hp.mem_iff.1 hb) with rfl|hb
     · exact .inr ⟨⟨n,hn,hh,a,ha,h0.1,h0.2,rfl⟩,fun g hg=>b2 g (h.1 g hg)⟩
     · exact h.2 b hb
   · exact h
theorem ATw9 (s:SideT) (ly:LayT) (me fr:Int) (t:TabT):GrInv s me fr t.gs (AHj9 s ly me fr t):=by
 refine ALv9 (P:=GrInv s me fr t.gs) _ (fun q n hn h=> ?_) ⟨fun g hg=>hg,fun b hb=> .inl hb⟩
 unfold AEu9
 split
 · rename_i hh;exact ALv9 (P:=GrInv s me fr t.gs) _ (fun q a ha h=>ATv9 hn hh ha h) h
 · exact h
theorem ALt9 {ly:LayT} {t:TabT} {me:Int} {l:List NearT} {fr:Int} (h:newS ly t me l fr=true):GrInv (sideS ly me l fr) me fr ((ADn9 t fr).gs.map (ACs9 (sideS ly me l fr) fr)) (AEf9 ly t me l fr):=by
 rw [AEf9,if_pos h];exact ATw9 _ _ _ _ ⟨t.us,_,t.ak⟩
theorem BJf9 (s:SideT) {fr:Int} (h:0≤fr∧fr≤999999992) (g:GraT):(ACs9 s fr g).un≥g.un∧(AEs9 s g=false→ACs9 s fr g=g)∧((ACs9 s fr g).un=g.un∨(ACs9 s fr g).un=fr+8):=by
 unfold ACs9
 split
 · rename_i h1
   rw [ATp9 h]
   refine ⟨?_,fun h2=>(by rw [h1] at h2;cases h2), ?_⟩
   · dsimp only;split<;>omega
   · dsimp only;split
     · exact .inr rfl
     · exact .inl rfl
 · exact ⟨Int.le_refl _,fun _=>rfl, .inl rfl⟩
theorem BNs9 {fr:Int} (h:0≤fr∧fr≤999999992) (n:NearT) (a:AskT):newG fr n a=⟨a.sl,a.of,n.fm,fr,fr+8⟩:=by
 rw [newG,AAt9 (by omega) (by omega)]
def Heard (l:List NearT) (who fr:Int) (ly:LayT) (P:TabT→Prop):Prop:=l= []∨∃q f0,l= [toldN who q f0]∧(0≤f0∧f0≤fr)∧ABq9 q ly∧P q
theorem AIq9 {t:TabT} {ly:LayT} (h:ABq9 t ly):TabOk t:=by
 have:=h.2.1;exact ⟨by omega,by omega,by omega⟩
theorem BEd9 {l:List NearT} {who fr:Int} {ly:LayT} {P:TabT→Prop} (h:Heard l who fr ly P):l.length<1000000∧∀x∈l,AIi9 x:=by
 rcases h with rfl|⟨q,f0,rfl,_,hq,_⟩
 · exact ⟨by decide,fun x hx=>by cases hx⟩
 · exact ⟨by show 1<1000000;decide,BQr9 (AIq9 hq)⟩
theorem AJv9 {ly:LayT} {t:TabT} {me who fr:Int} {l:List NearT} {P:TabT→Prop} (h:Heard l who fr ly P) (hv:ABq9 t ly) (hm:0≤me∧me<ly.no) (hw:0≤who∧who<ly.no) (hmw:who≠me) (hf:0≤fr∧fr≤999999992):newS ly t me l fr=true:=by
 have hl:=ABc9 (ABt9.2 hv)
 have h1:(ABe9 none l).any (badN ly me fr)=false:=by
   rcases h with rfl|⟨q,f0,rfl,hf0,hq,_⟩
   · rfl
   · have e:badN ly me fr (none,toldN who q f0)=false:=by
       have e1:decide (who<0)=false:=decide_eq_false (by omega)
       have e2:decide (who≥ly.no)=false:=decide_eq_false (by omega)
       have e3:(who==me)=false:=beq_eq_false_iff_ne.2 hmw
       have e4:decide (f0<0)=false:=decide_eq_false (by omega)
       have e5:decide (f0>fr)=false:=decide_eq_false (by omega)
       show (decide (who<0)||(decide (who≥ly.no)||(who==me||(decide (f0<0)||(decide (f0>fr)||false)))))=false
       rw [e1,e2,e3,e4,e5];rfl
     show (badN ly me fr (none,toldN who q f0)||false)=false
     rw [e];rfl
 rw [newS,ABt9.2 hv,AAt9 (by omega) (by omega),inN,inN,decide_eq_true hm.1,decide_eq_true (by omega:me≤ly.no - 1),decide_eq_true hf.1,decide_eq_true hf.2,h1];rfl
def AUw9 (g x:GraT):Prop:=x.sl=g.sl∧x.of=g.of∧x.pe=g.pe∧x.un≥g.un
theorem AUw9.trans {a b c:GraT} (h:AUw9 a b) (k:AUw9 b c):AUw9 a c:=by
 obtain ⟨h1,h2,h3,h4⟩:=h
 obtain ⟨k1,k2,k3,k4⟩:=k
 exact ⟨k1.trans h1,k2.trans h2,k3.trans h3,by omega⟩
theorem ATt9 {ly:LayT} {t:TabT} {me:Int} {l:List NearT} {fr:Int} (h:newS ly t me l fr=true) {g:GraT} (hg:g∈t.gs) (hu:g.un≥fr):∃x∈(AEf9 ly t me l fr).gs,AUw9 g x:=by
 have hf:=(AQy9 h).2
 obtain ⟨e1,e2,e3,_⟩:=ALc9 (sideS ly me l fr) fr g
 exact ⟨_,(ALt9 h).1 _ (Zbb.2 ⟨g,Zch.2 ⟨hg,by simpa using hu⟩,rfl⟩),e1,e2,e3,(BJf9 _ hf g).1⟩
structure PInv (ly:LayT) (p:PairT) (f:Int):Prop where
 li:ABq9 p.li ly
 se:ABq9 p.se ly
 ns:Heard p.ns 0 f ly (fun q=>∀g∈q.gs,g.un≥f→∃x∈p.li.gs,AUw9 g x)
 nl:Heard p.nl 1 f ly (fun _=>True)
theorem PInv.ok {ly:LayT} {p:PairT} {f:Int} (h:PInv ly p f):BIm9 p:=⟨AIq9 h.li,AIq9 h.se,BEd9 h.nl,BEd9 h.ns⟩
theorem BZs9 {ly:LayT} {p:PairT} {f:Int} (h:PInv ly p f) (hf:0≤f) (d:Bool):Heard (if d=true then [toldN 0 p.li f] else p.ns) 0 f ly (fun q=>∀g∈q.gs,g.un≥f→∃x∈p.li.gs,AUw9 g x):=by
 cases d
 · exact h.ns
 · exact .inr ⟨p.li,f,rfl,⟨hf,Int.le_refl _⟩,h.li,fun g hg _=>⟨g,hg,rfl,rfl,rfl,Int.le_refl _⟩⟩
theorem PInv.next {ly:LayT} {p:PairT} {f:Int} (h:PInv ly p f) (hl:ly.no=2) (hf:0≤f∧f≤999999992) (d u:Bool):PInv ly (nextS ly p f d u) f∧∀v∈(nextS ly p f d u).se.us,v.pe=0∧∃x∈p.li.gs,x.sl=v.sl∧x.of=v.of∧x.pe=1∧x.un≥f:=by
 have hns:=BZs9 h hf.1 d
 have hn:=AJv9 (t:=p.se) (me:=1) hns h.se (by omega) (by omega) (by decide) hf
 have hv:=AXx9 hn
 refine ⟨⟨h.li,hv,hns, ?_⟩,fun v hvm=> ?_⟩
 · cases u
   · exact h.nl
   · exact .inr ⟨_,f,rfl,⟨hf.1,Int.le_refl _⟩,hv,trivial⟩
 · obtain ⟨n,hnm,g,hg,k1,k2,k3,k4,k5,_⟩:=AQa9 hn v hvm
   rcases hns with e|⟨q,f0,e,_,_,hq⟩
   · rw [e] at hnm;cases hnm
   · rw [e,List.mem_singleton] at hnm
     subst hnm
     obtain ⟨x,hx,x1,x2,x3,x4⟩:=hq g hg k5
     exact ⟨k1.symm,x,hx,by omega,by omega,by omega,by omega⟩
theorem PInv.turn {ly:LayT} {p:PairT} {f:Int} (h:PInv ly p f) (hl:ly.no=2) (hf:0≤f∧f≤999999992) (many:Int):PInv ly (turnS ly p f many) (f+1):=by
 have hn:=AJv9 (t:=p.li) (me:=0) h.nl h.li (by omega) (by omega) (by decide) hf
 have hn2:=AJv9 (t:=p.se) (me:=1) h.ns h.se (by omega) (by omega) (by decide) hf
 refine ⟨ATs9 hn,BHm9 hn2, ?_, ?_⟩
 · rcases h.ns with e|⟨q,f0,e,hf0,hq,hq2⟩
   · exact .inl e
   · refine .inr ⟨q,f0,e,⟨hf0.1,by omega⟩,hq,fun g hg hu=> ?_⟩
     obtain ⟨x,hx,hgo⟩:=hq2 g hg (by omega)
     obtain ⟨y,hy,hgo2⟩:=ATt9 hn hx (by have:=hgo.2.2.2;omega)
     exact ⟨y,hy,hgo.trans hgo2⟩
 · rcases h.nl with e|⟨q,f0,e,hf0,hq,_⟩
   · exact .inl e
   · exact .inr ⟨q,f0,e,⟨hf0.1,by omega⟩,hq,trivial⟩
def zeroP:PairT:=⟨⟨[], [], []⟩,⟨[], [], []⟩, [], []⟩
theorem APm9 {ly:LayT} (h:layOk ly=true):ABq9 ⟨[], [], []⟩ ly:=⟨h,⟨by decide,by decide⟩,⟨fun x hx=>by (cases hx), .nil⟩,⟨fun x hx=>by (cases hx), .nil⟩,⟨fun x hx=>by (cases hx), .nil⟩,by decide⟩
theorem PInv.zero {ly:LayT} (h:layOk ly=true) (f:Int):PInv ly zeroP f:=⟨APm9 h,APm9 h, .inl rfl, .inl rfl⟩
def TL7:List (Nat×(List AV→(AV→Prop)→Prop)):= [(10,cHead)]
theorem CEr9:AAb9 prog TL7:=Zai BUt9 Zal
end Go.Proofs.YthcbbmnjikhihaaGreat.Am
