import Derived.Test.YthcbbmnjikhihaaGreatPmJ3
set_option linter.unusedSimpArgs false
set_option linter.unusedVariables false
namespace Go.Proofs.YthcbbmnjikhihaaGreat.Am
open Go Go.RowKit Go.Proofs Tryz
open AV renaming agg → Zan, bad → Zab, d → Zad, fn → Zav, gref → Zbh, own → Zcc, ptr → Zae, rptr → Zah
open AskT renaming sl → Zde
open BIf renaming f → Zci, of → Zax, t → Zas
open Bool renaming and_eq_true → Zal, and_false → Zcn, false_and → Zdb, false_eq_true → Zcm, not_eq_false' → Zcx, not_eq_true' → Zcb, not_not → Zfe, or_eq_true → Zfg, or_true → Zdf, true_and → Zec, true_or → Zdi
open AAb9 renaming cons → Zag, nil → Zai
open Go.Code renaming loop → Zaq
open Dv renaming fn → Zcw, pt → Zdo, s → Zdk, sl → Zaj
open Go.Exit renaming exit → Zba
open FCall renaming ofFnF → Zgg
open GraT renaming sl → Zds, un → Zel
open Int renaming toNat → Zak, toNat_natCast → Zcv, toNat_zero → Zez
open Go.IntKind renaming i64 → Zbb, wrap → Zac
open LayT renaming da → Zbr, no → Zeg
open LeH renaming refl → Zbg
open List renaming all → Zbl, append_assoc → Zbm, append_nil → Zco, cons_append → Zdv, drop → Zcg, drop_zero → Zfc, filter → Zcf, findIdx?_cons → Zfo, findIdx?_eq_none_iff → Zes, foldl_cons → Zef, getElem?_eq_getElem → Zbc, getElem?_eq_some_iff → Zaf, length → Zaa, length_append → Zbi, length_cons → Zfr, length_filter_le → Zcd, length_take → Zcj, map_cons → Zdy, mem_cons_self → Zby, mem_map → Zbf, mem_of_getElem? → Zbj, perm_append_comm → Zer, range → Zbs, replicate → Zam, take → Zbq, take_add_one → Zem, take_append_of_le_length → Zek, take_length → Zdc
open Nat renaming add_mul → Zda, le_refl → Zat, lt_of_le_of_lt → Zgb
open NearT renaming ak → Zdw, fm → Zcy, fr → Zey, gs → Zce, us → Zcl
open Option renaming map_eq_some_iff → Zap
open PCall renaming ofFn → Zfw
open SCall renaming ofW → Zgd
open AAl9 renaming cons → Zbt, nil → Zar
open SideT renaming lay → Zct, ns → Zau
open TabT renaming ak → Zck, gs → Zbx, us → Zbv
open UseT renaming sl → Zdl
open Go.Value renaming int → Zei, map → Zbo, pointer → Zbz, slice → Zdj
open WR renaming ofMask → Zdr
variable {β:Type} (wl:WLT β) (y:ADo9 β) (b:β) (R:AV→β→Prop) (Kr:AV→List Blk→β→Prop) (K:Exit→List AV→List Blk→β→Prop) (Kh:Exit→List Blk→β→Prop) (Q:β→Prop)
open AV (bad)
set_option linter.unusedVariables false
set_option maxRecDepth 20000
set_option maxHeartbeats 1000000
def TPo:CT:= [(109,BPl9),(22,cBusy),(23,BSb9),(21,BJg9)]
theorem CKe9:AAb9 prog TPo:=Zag AQc9 (Zag BKh9 (Zag BIt9 (Zag BBr9 Zai)))
abbrev Qz86 (v0:List NearT) (v1:Int):List AV:= [Zad (Zaj 31 (rowsN v0)),Zad (i64 v1)]
abbrev Qz93 (v0:LayT) (v1:List NearT) (v2:Int) (v3:Int) (v4:Int):List AV:= [Zan (Qz3 v0),Zad (Zaj 31 (rowsN v1)),Zan [Zad (i64 v2),Zad (i64 v3)],Zad (i64 v4)]
theorem BVv9 (ly:LayT) (t:TabT) (me:Int) (l:List NearT) (pe sl of:Int):wpFn prog ⟨TPo, [],wl,y,false⟩ 100 f57 [layA ly,tabA t, .d (i64 me), .d (.sl 31 (rowsN l)), .d (i64 pe),cellA sl of] b R=(∃(l0:List NearT) (pe1:Int) (q2:Int),(Qz86 l pe)=(Qz86 l0 pe1)∧(Zaa l0≤9223372036854775807∧q2=idxS (fun (x3:NearT)=>Zcy x3==pe1) l0)∧∃(t4:TabT) (s5:Int) (q6:Bool), [Zan (Qz1 t),Zad (i64 sl)]= [Zan (Qz1 t4),Zad (i64 s5)]∧(Zaa (Zbv t4)≤9223372036854775807∧Zaa (Zbx t4)≤9223372036854775807∧q6=BusyS t4 s5)∧BIf (decide (q2<(0:Int))) (R (.d (bo false)) b) (BIf q6 (R (.d (bo false)) b) (BIf (true&&decide (0≤q2)) (∃(n7:NearT),(rowsN l)[Zak q2]? =some (nearR n7)∧∃(l10:LayT) (n11:NearT) (s12:Int) (q13:Bool), [Zan (Qz3 ly),nearA n7,Zad (i64 sl)]= [Zan (Qz3 l10),nearA n11,Zad (i64 s12)]∧(Zaa (Zcl n11)≤9223372036854775807∧Zaa (Zce n11)≤9223372036854775807∧q13=AHn9 l10 n11 s12)∧∃(ly14:LayT) (l15:List NearT) (sl16:Int) (of17:Int) (me18:Int) (q19:Bool),(Qz93 ly l sl of me)=(Qz93 ly14 l15 sl16 of17 me18)∧(Zaa l15≤9223372036854775807∧(∀(x:NearT),x∈l15→AAo9 x)∧q19=forS ly14 l15 sl16 of17 me18)∧BIf (!q13) (R (.d (bo !q19)) b) (R (.d (bo false)) b)) False))):=by kernel_rfl
def possR (ly:LayT) (t:TabT) (me:Int) (l:List NearT) (pe sl of:Int):Bool:=match l.find? (fun x:NearT=>x.fm==pe) with
 |none=>false
 |some x=> !BusyS t sl&&(!AHn9 ly x sl&& !forS ly l sl of me)
def BYk9:CF:=fun args K=>∃(ly:LayT) (t:TabT) (me:Int) (l:List NearT) (pe sl of:Int) (q:Bool),args= [layA ly,tabA t, .d (i64 me), .d (.sl 31 (rowsN l)), .d (i64 pe),cellA sl of]∧(t.us.length≤9223372036854775807∧t.gs.length≤9223372036854775807∧l.length≤9223372036854775807∧(∀x∈l,AAo9 x)∧q=possR ly t me l pe sl of)∧K (.d (bo q))
theorem AXy9:COk 57 BYk9:=by
 rintro _ K ⟨ly,t,me,l,pe,sl,of,_,rfl,⟨h1,h2,hl,hN,rfl⟩,hk⟩;refine ⟨_, ?_,hk⟩;refine pcO CKe9 func57 fun Ev bb=> ?_;rw [BVv9];refine ⟨l,pe,_,rfl,⟨hl,rfl⟩,t,sl,_,rfl,⟨h1,h2,rfl⟩, ?_⟩;rcases ACb9 (fun x:NearT=>x.fm==pe) l with ⟨g1,g2⟩|⟨j,x,g1,g2,g3,_⟩
 ·rw [AAq9 g1];refine Zas (by decide) ?_;rw [possR,g2]
 ·rw [AAj9 g1];have hx:=hN x (Zbj g2);refine Zci (by simp) (Zax (fun hb=> ?_) fun hb=> ?_)
  ·rw [possR,g3];simp only [hb];rfl
  ·refine Zas (natI j) ⟨_,AAr9 g2,ly,x,sl,_,rfl,⟨hx.1,hx.2.1,rfl⟩,ly,l,sl,of,me,_,rfl,⟨hl,hN,rfl⟩, ?_⟩;rw [possR,g3];simp only [hb];refine Zax (fun hc=> ?_) fun hc=> ?_
   ·rw [hc];rfl
   ·rw [hc];rfl
variable {Ev:Env prog} {b0:Ev.β} {Q:Exit→St Ev.β→Prop}
noncomputable def lpFw:Code:=sub [1,0,1,2,3] (code f33)
def tmFw (l:List NearT) (i:Int):List AV:= [.d (.sl 31 (rowsN l)), .bad, .d (bo false), .d (i64 i)]++Zam 35 .bad
abbrev Qz40 (v0:List NearT) (v1:Int):=Zad (Zaj 31 (rowsN v0))::Zab::Zad (bo false)::Zad (i64 v1)::bds 35 []
theorem rFw (l:List NearT) (i:Int):wpc prog ⟨[], [],wl,y,false⟩ 100 lpFw (tmFw l i) [] b (maskK 0 [0,2,3] K)=(BIf (decide (i<((Zaa (rowsN l):Nat):Int))) (BIf (decide (i<(70:Int))) (BIf (true&&decide (0≤i)) (∃(n0:NearT),(rowsN l)[Zak i]? =some (nearR n0)∧BIf (decide (((Zaa (rowsU (Zcl n0)):Nat):Int)>(40:Int))) (K .ret (Qz40 l i) [] b) (BIf (decide (((Zaa (rowsG (Zce n0)):Nat):Int)>(40:Int))) (K .ret (Qz40 l i) [] b) (BIf (decide (((Zaa (rowsA (Zdw n0)):Nat):Int)>(40:Int))) (K .ret (Qz40 l i) [] b) (K .normal (Zad (Zaj 31 (rowsN l))::Zab::Zad (bo false)::Zad (i64 (Zac .i64 (i+1)))::bds 35 []) [] b)))) False) (K (Zba 0) (Qz40 l i) [] b)) (K (Zba 0) (Qz40 l i) [] b)):=by kernel_rfl
def manyN (x:NearT):Bool:=decide ((x.us.length:Int)>40)||(decide ((x.gs.length:Int)>40)||decide ((x.ak.length:Int)>40))
theorem wrFw (l:List NearT) (h1:(l.take 70).any manyN=false→∀i:Int,Q (.exit 0) ⟨tmFw l i, [],b0⟩) (h2:(l.take 70).any manyN=true→∀i:Int,Q .ret ⟨tmFw l i, [],b0⟩):
 WR Ev lpFw ((l.take 70).length+1) ⟨tmFw l (0:Nat), [],b0⟩ Q:=by
 refine WR.scanL (X:=⟨[], [],wlW Ev,Ev.Y,false⟩) (k:=100) [0,2,3] mixed (CX.Ok.of Zai Zar) (l.take 70) manyN (fun i=>tmFw l (i:Nat)) (fun i=>tmFw l (i:Nat)) [] 0 (fun i x hi hx K k1 k2=> ?_) (fun K k1=> ?_) (fun h=>h1 h _) fun h i=>h2 h _
 ·have hl:=Zcj (i:=70) (l:=l);have hx':l[i]? =some x:=by rw [List.getElem?_take_of_lt (by omega)] at hx;exact hx
  refine Eq.mpr (rFw _ _ _ K l i) ?_;rw [ABe9];refine Zas (by simp;omega) (Zas (by simp;omega) (Zas (natI i) ⟨_,AAr9 hx', ?_⟩));simp only [AAe9,AAd9,AAi9];refine Zax (fun c1=>k1 (by rw [manyN,c1];rfl)) fun c1=>Zax (fun c2=>k1 (by rw [manyN,c1,c2];rfl)) fun c2=>Zax (fun c3=>k1 (by rw [manyN,c1,c2,c3];rfl)) fun c3=> ?_;rw [wrapN (by omega)];exact k2 (by rw [manyN,c1,c2,c3];rfl)
 ·have hl:=Zcj (i:=70) (l:=l);refine Eq.mpr (rFw _ _ _ K l _) ?_;rw [ABe9];exact Zax (fun c=>Zci (by simp at c ⊢;omega) k1) fun c=>k1
def wlFw {β:Type}:WLT β:=fun cd tm hp b K=>∃(l:List NearT) (q:Bool),cd= .loop lpFw∧AAn9 [0,2,3] 0 tm=tmFw l 0∧hp= []∧q=(l.take 70).any manyN∧BIf q (∀i:Int,K .ret (tmFw l i) [] b) (∀i:Int,K (.exit 0) (tmFw l i) [] b)
theorem CBx9:WlOk Ev wlFw:=by
 rintro c tm hp b K ⟨l,q,rfl,htm,rfl,hz,hK⟩;refine W.cast (htm▸AAc9 _ tm 0) (Zbg _) ?_;exact W.rounds (wrFw (Q:=fun e s=>K e s.tm s.hp s.b) l (fun h=>by rw [hz,h] at hK;exact hK) fun h=>by rw [hz,h] at hK;exact hK)
theorem BXf9 (l:List NearT):wpFn prog ⟨[], [],wlFw,y,false⟩ 100 f33 [.d (.sl 31 (rowsN l))] b R=(∃(l0:List NearT) (q1:Bool),Zaq lpFw=Zaq lpFw∧(Zad (Zaj 31 (rowsN l))::Zab::Zad (bo false)::Zad (i64 0)::bds 35 [])=(Zad (Zaj 31 (rowsN l0))::Zab::Zad (bo false)::Zad (i64 0)::bds 35 [])∧([]:List Blk)= []∧q1=List.any (Zbq 70 l0) manyN∧BIf q1 (∀(i:Int),R (.d (bo false)) b) (∀(i:Int),R (.d (bo (decide (((Zaa (rowsN l0):Nat):Int)≤(70:Int))))) b)):=by kernel_rfl
def BAs9 (l:List NearT):Bool:= !(l.take 70).any manyN&&decide ((l.length:Int)≤70)
def CGh9:CF:=fun args K=>∃(l:List NearT) (q:Bool),args= [.d (.sl 31 (rowsN l))]∧q=BAs9 l∧K (.d (bo q))
theorem BPp9:COk 33 CGh9:=by
 rintro _ K ⟨l,_,rfl,rfl,hk⟩;refine ⟨_, ?_,hk⟩;refine pcW @wlFw Zai CBx9 func33 fun Ev bb=> ?_;rw [BXf9];refine ⟨l,_,rfl,rfl,rfl,rfl,Zax (fun h i=> ?_) fun h i=> ?_⟩
 ·rw [BAs9,h];rfl
 ·rw [BAs9,h,ABe9];rfl
variable {Ev:Env prog} {b0:Ev.β} {Q:Exit→St Ev.β→Prop}
theorem WR.findLB {α:Type} {P:Program} {Ev:Env P} {X:CX Ev.β} {lp:Code} {b:Ev.β} {Q:Exit→St Ev.β→Prop} {k:Nat} (keep:List Nat) (hm:P.follows .mixedOrders=true) (hX:X.Ok) (xs:List α) (p:α→Bool) (tmOf tmR:Nat→List AV) (hp:List Blk) (hpR:Nat→List Blk) (id:Nat)
 (hr:∀(i:Nat) (x:α),i<xs.length→xs[i]? =some x→∀K:Exit→List AV→List Blk→Ev.β→Prop,(p x=true→K .ret (tmR i) (hpR i) b)→(p x=false→K .normal (tmOf (i+1)) hp b)→wpc P X k lp (tmOf i) hp b (maskK hp.length keep K))
 (he:∀K:Exit→List AV→List Blk→Ev.β→Prop,K (.exit id) (tmOf xs.length) hp b→wpc P X k lp (tmOf xs.length) hp b (maskK hp.length keep K))
 (h1:xs.findIdx? p=none→Q (.exit id) ⟨tmOf xs.length,hp,b⟩) (h2:∀j,xs.findIdx? p=some j→Q .ret ⟨tmR j,hpR j,b⟩):WR Ev lp (xs.length+1) ⟨tmOf 0,hp,b⟩ Q:=by
 have key:∀(m i:Nat),i+m=xs.length→(∀(j:Nat) (x:α),j<i→xs[j]? =some x→p x=false)→WR Ev lp (m+1) ⟨tmOf i,hp,b⟩ Q:=by
  intro m;induction m with
  | zero=>
   intro i hi hj;have:i=xs.length:=by omega
   subst this;refine Zdr keep hm hX (he _ (h1 ?_));rw [Zes];intro x hx;obtain ⟨j,hjx⟩:=List.mem_iff_getElem?.1 hx;exact hj j x (Zaf.1 hjx).1 hjx
  | succ m ih=>
   intro i hi hj;have hil:i<xs.length:=by omega
   refine Zdr keep hm hX (hr i xs[i] hil (by simp [hil]) _ (fun h=>h2 i ?_) fun h=> ?_)
   ·rw [List.findIdx?_eq_some_iff_getElem];refine ⟨hil,h,fun j hji=> ?_⟩;have:=hj j xs[j] hji (by simp);simp [this]
   ·refine ih (i+1) (by omega) fun j x hji hjx=> ?_;rcases Nat.lt_or_ge j i with h'|h'
    ·exact hj j x h' hjx
    ·obtain rfl:j=i:=by omega
     have:xs[j]? =some xs[j]:=by simp [hil]
     rw [this] at hjx;cases hjx;exact h
 exact key xs.length 0 (by omega) fun j x hj=>by omega
def graB (g:GraT):Blk:=⟨[.d (i64 g.sl), .d (i64 g.of), .d (i64 g.pe), .d (i64 g.st), .d (i64 g.un)],false,false,0⟩
def zeroG:GraT:=⟨0,0,0,0,0⟩
def gAt (l:List GraT) (i:Nat):GraT:=match l[i]? with|some g=>g|none=>zeroG
def TMn:CT:= [(67,cMine)]
theorem CKi9:AAb9 prog TMn:=Zag BIm9 Zai
noncomputable def lpGr:Code:=sub [1,1,1,1,0,1,2,3] (code f65)
def tmGr (l:List GraT) (me fr:Int) (q:Bool) (i:Int):List AV:= [.bad, .bad, .bad, .bad, .d (i64 me), .d (i64 fr), .ptr 0 0, .bad, .bad, .ptr 1 0, .bad, .bad, .ptr 2 0, .d (bo q), .bad, .d (.sl 5 (rowsG l)), .d (i64 i)]++Zam 42 .bad
abbrev Qz31:List AV:= [Zad (i64 0),Zad (i64 0),Zad (i64 0),Zad (i64 0),Zad (i64 0)]
abbrev Qz67 (v0:LayT) (v1:Int) (v2:Int):= [bk (Qz3 v0),bk [Zad (i64 v1),Zad (i64 v2)],bk Qz31]
theorem rGr (ly:LayT) (l:List GraT) (sl of me fr i:Int):wpc prog ⟨TMn, [],wl,y,false⟩ 100 lpGr (tmGr l me fr false i) [layB ly,cellB sl of,graB zeroG] b (maskK 3 [4,5,6,9,12,13,15,16] K)=(BIf (decide (i<((Zaa (rowsG l):Nat):Int))) (BIf (true&&decide (0≤i)) (∃(x0:Int) (x1:Int) (x2:Int) (x3:Int) (x4:Int),(rowsG l)[Zak i]? =some (Qz27 x0 x1 x2 x3 x4)∧∃(l7:LayT) (g8:GraT) (me9:Int) (fr10:Int) (q11:Bool), [Zan (Qz3 ly),Zan (Qz15 x0 x1 x2 x3 x4),Zad (i64 me),Zad (i64 fr)]= [Zan (Qz3 l7),Zan (Qz5 g8),Zad (i64 me9),Zad (i64 fr10)]∧q11=mineS l7 g8 me9 fr10∧BIf q11 (BIf (true&&decide (0≤i)) (∃(x12:Int) (x13:Int) (x14:Int) (x15:Int) (x16:Int),(rowsG l)[Zak i]? =some (Qz27 x12 x13 x14 x15 x16)∧BIf (x12==sl&&(x13==of&&true)) (BIf (true&&decide (0≤i)) (∃(x19:Int) (x20:Int) (x21:Int) (x22:Int) (x23:Int),(rowsG l)[Zak i]? =some (Qz27 x19 x20 x21 x22 x23)∧K .ret (bds 4 (Zad (i64 me)::Zad (i64 fr)::Zae 0 0::Zab::Zab::Zae 1 0::Zab::Zab::Zae 2 0::Zad (bo true)::Zab::Zad (Zaj 5 (rowsG l))::Zad (i64 i)::bds 42 [])) [bk (Qz3 ly),bk [Zad (i64 sl),Zad (i64 of)],bk (Qz15 x19 x20 x21 x22 x23)] b) False) (K .normal (bds 4 (Zad (i64 me)::Zad (i64 fr)::Zae 0 0::Zab::Zab::Zae 1 0::Zab::Zab::Zae 2 0::Zad (bo false)::Zab::Zad (Zaj 5 (rowsG l))::Zad (i64 (Zac .i64 (i+1)))::bds 42 [])) (Qz67 ly sl of) b)) False) (K .normal (bds 4 (Zad (i64 me)::Zad (i64 fr)::Zae 0 0::Zab::Zab::Zae 1 0::Zab::Zab::Zae 2 0::Zad (bo false)::Zab::Zad (Zaj 5 (rowsG l))::Zad (i64 (Zac .i64 (i+1)))::bds 42 [])) (Qz67 ly sl of) b)) False) (K (Zba 0) (bds 4 (Zad (i64 me)::Zad (i64 fr)::Zae 0 0::Zab::Zab::Zae 1 0::Zab::Zab::Zae 2 0::Zad (bo false)::Zab::Zad (Zaj 5 (rowsG l))::Zad (i64 i)::bds 42 [])) (Qz67 ly sl of) b)):=by kernel_rfl
def mineP (ly:LayT) (sl of me fr:Int) (g:GraT):Bool:=mineS ly g me fr&&(g.sl==sl&&g.of==of)
theorem wrGr (ly:LayT) (l:List GraT) (sl of me fr:Int) (hl:l.length≤9223372036854775807) (h1:l.findIdx? (mineP ly sl of me fr)=none→∀i:Int,Q (.exit 0) ⟨tmGr l me fr false i, [layB ly,cellB sl of,graB zeroG],b0⟩) (h2:∀j:Nat,l.findIdx? (mineP ly sl of me fr)=some j→Q .ret ⟨tmGr l me fr true j, [layB ly,cellB sl of,graB (gAt l j)],b0⟩):
 WR Ev lpGr (l.length+1) ⟨tmGr l me fr false (0:Nat), [layB ly,cellB sl of,graB zeroG],b0⟩ Q:=by
 refine WR.findLB (X:=⟨TMn, [],wlW Ev,Ev.Y,false⟩) (k:=100) [4,5,6,9,12,13,15,16] mixed (CX.Ok.of CKi9 Zar) l (mineP ly sl of me fr) (fun i=>tmGr l me fr false (i:Nat)) (fun i=>tmGr l me fr true (i:Nat)) [layB ly,cellB sl of,graB zeroG] (fun i=> [layB ly,cellB sl of,graB (gAt l i)]) 0 (fun i x hi hx K k1 k2=> ?_) (fun K k1=> ?_) (fun h=>h1 h _) h2
 ·refine Eq.mpr (rGr _ _ _ K ly l sl of me fr i) ?_;rw [AAd9];refine Zas (by simp;omega) (Zas (natI i) ⟨_,_,_,_,_,ABb9 hx,ly,x,me,fr,_,rfl,rfl,Zax (fun c1=>Zas (natI i) ⟨_,_,_,_,_,ABb9 hx,Zax (fun c2=> ?_) fun c2=> ?_⟩) fun c1=> ?_⟩)
  ·have c2':(x.sl==sl&&(x.of==of&&true))=true:=c2;refine Zas (natI i) ⟨_,_,_,_,_,ABb9 hx, ?_⟩;have:=k1 (by rw [mineP,c1];simpa using c2');simp only [gAt,hx] at this;exact this
  ·have c2':(x.sl==sl&&(x.of==of&&true))=false:=c2;rw [wrapN (by omega)];exact k2 (by rw [mineP,c1];simpa using c2')
  ·rw [wrapN (by omega)];exact k2 (by rw [mineP,c1];rfl)
 ·refine Eq.mpr (rGr _ _ _ K ly l sl of me fr _) ?_;rw [AAd9];exact Zci (by simp) k1
variable {Ev:Env prog} {b0:Ev.β} {Q:Exit→St Ev.β→Prop}
def wlGr {β:Type}:WLT β:=fun cd tm hp b K=>∃(ly:LayT) (l:List GraT) (sl of me fr:Int) (q:Int),cd= .loop lpGr∧AAn9 [4,5,6,9,12,13,15,16] 0 tm=tmGr l me fr false 0∧hp= [layB ly,cellB sl of,graB zeroG]∧(l.length≤9223372036854775807∧q=idxS (mineP ly sl of me fr) l)∧(∀i:Int,q= -1→K (.exit 0) (tmGr l me fr false i) [layB ly,cellB sl of,graB zeroG] b)∧(∀(j:Nat) (g:GraT),q=(j:Int)→l[j]? =some g→K .ret (tmGr l me fr true (j:Nat)) [layB ly,cellB sl of,graB g] b)
theorem CBu9:WlOk Ev wlGr:=by
 rintro c tm hp b K ⟨ly,l,sl,of,me,fr,q,rfl,htm,rfl,⟨hl,rfl⟩,hK1,hK2⟩;refine W.cast (htm▸AAc9 _ tm 0) (Zbg _) ?_;refine W.rounds (wrGr (Q:=fun e s=>K e s.tm s.hp s.b) ly l sl of me fr hl (fun h i=>hK1 i (AAq9 h)) fun j h=> ?_);rcases ACb9 (mineP ly sl of me fr) l with ⟨g1,_⟩|⟨j',g,g1,g2,_,_⟩
 ·rw [h] at g1;cases g1
 ·rw [h] at g1;cases g1;have:=hK2 j g (AAj9 h) g2;simp only [gAt,g2];exact this
def TGn:CT:= [(109,BPl9)]
theorem CKu9:AAb9 prog TGn:=Zag AQc9 Zai
theorem BAp9 (ly:LayT) (l:List NearT) (pe sl of me fr:Int):wpFn prog ⟨TGn, [],wlGr,y,false⟩ 100 f65 [layA ly, .d (.sl 31 (rowsN l)), .d (i64 pe),cellA sl of, .d (i64 me), .d (i64 fr)] b R=(∃(l0:List NearT) (pe1:Int) (q2:Int),(Qz86 l pe)=(Qz86 l0 pe1)∧(Zaa l0≤9223372036854775807∧q2=idxS (fun (x3:NearT)=>Zcy x3==pe1) l0)∧BIf (decide (q2<(0:Int))) (R (.tup [Zan Qz31,Zad (bo false)]) b) (BIf (true&&decide (0≤q2)) (∃(n4:NearT),(rowsN l)[Zak q2]? =some (nearR n4)∧∃(ly7:LayT) (l8:List GraT) (sl9:Int) (of10:Int) (me11:Int) (fr12:Int) (q13:Int),Zaq lpGr=Zaq lpGr∧(bds 4 (Zad (i64 me)::Zad (i64 fr)::Zae 0 0::Zab::Zab::Zae 1 0::Zab::Zab::Zae 2 0::Zad (bo false)::Zab::Zad (Zaj 5 (rowsG (Zce n4)))::Zad (i64 0)::bds 42 []))=(bds 4 (Zad (i64 me11)::Zad (i64 fr12)::Zae 0 0::Zab::Zab::Zae 1 0::Zab::Zab::Zae 2 0::Zad (bo false)::Zab::Zad (Zaj 5 (rowsG l8))::Zad (i64 0)::bds 42 []))∧(Qz67 ly sl of)=(Qz67 ly7 sl9 of10)∧(Zaa l8≤9223372036854775807∧q13=idxS (mineP ly7 sl9 of10 me11 fr12) l8)∧(∀(i:Int),q13=(-1:Int)→R (.tup [Zan Qz31,Zad (bo false)]) b)∧∀(j:Nat) (g:GraT),q13=(j:Int)→l8[j]? =some g→R (.tup [Zan (Qz5 g),Zad (bo true)]) b) False)):=by kernel_rfl
def ADq9 (ly:LayT) (l:List NearT) (pe sl of me fr:Int):Option GraT:=match l.find? (fun x:NearT=>x.fm==pe) with
 |none=>none
 |some x=>x.gs.find? (mineP ly sl of me fr)
def graO (o:Option GraT):GraT:=match o with|some g=>g|none=>zeroG
def AYj9:CF:=fun args K=>∃(ly:LayT) (l:List NearT) (pe sl of me fr:Int) (g:GraT) (e:Bool),args= [layA ly, .d (.sl 31 (rowsN l)), .d (i64 pe),cellA sl of, .d (i64 me), .d (i64 fr)]∧(l.length≤9223372036854775807∧(∀x∈l,AAo9 x)∧g=graO (ADq9 ly l pe sl of me fr)∧e=(ADq9 ly l pe sl of me fr).isSome)∧K (.tup [graA g, .d (bo e)])
theorem AVt9:COk 65 AYj9:=by
 rintro _ K ⟨ly,l,pe,sl,of,me,fr,_,_,rfl,⟨hl,hN,rfl,rfl⟩,hk⟩;refine ⟨_, ?_,hk⟩;refine pcW @wlGr CKu9 CBu9 func65 fun Ev bb=> ?_;rw [BAp9];refine ⟨l,pe,_,rfl,⟨hl,rfl⟩, ?_⟩;rcases ACb9 (fun x:NearT=>x.fm==pe) l with ⟨g1,g2⟩|⟨j,x,g1,g2,g3,_⟩
 ·rw [AAq9 g1,show ADq9 ly l pe sl of me fr=none by rw [ADq9,g2]];exact Zas (by decide) rfl
 ·rw [AAj9 g1,show ADq9 ly l pe sl of me fr=x.gs.find? (mineP ly sl of me fr) by rw [ADq9,g3]];refine Zci (by simp) (Zas (natI j) ⟨_,AAr9 g2,ly,x.gs,sl,of,me,fr,_,rfl,rfl,rfl,⟨(hN x (Zbj g2)).2.1,rfl⟩,fun i hi=> ?_,fun k g hk hg=> ?_⟩)
  ·rcases ACb9 (mineP ly sl of me fr) x.gs with ⟨_,e2⟩|⟨k,g,e1,_,_,_⟩
   ·rw [e2];rfl
   ·rw [AAj9 e1] at hi;omega
  ·rcases ACb9 (mineP ly sl of me fr) x.gs with ⟨e1,_⟩|⟨k',g',e1,e2,e3,_⟩
   ·rw [AAq9 e1] at hk;omega
   ·rw [AAj9 e1] at hk;obtain rfl:k'=k:=by omega
    rw [hg] at e2;cases e2;rw [e3];rfl
def TRw:CT:= [(109,BPl9),(27,BIo9),(25,cUses),(26,cAsks)]
theorem CKc9:AAb9 prog TRw:=Zag AQc9 (Zag ATd9 (Zag BHz9 (Zag BYu9 Zai)))
theorem BEt9 (ly:LayT) (g:GraT) (me:Int) (l:List NearT) (fr:Int):wpFn prog ⟨TRw, [],wl,y,false⟩ 100 f61 [layA ly,graA g, .d (i64 me), .d (.sl 31 (rowsN l)), .d (i64 fr)] b R=(∃(l0:List NearT) (pe1:Int) (q2:Int), [Zad (Zaj 31 (rowsN l)),Zad (i64 (GraT.pe g))]=(Qz86 l0 pe1)∧(Zaa l0≤9223372036854775807∧q2=idxS (fun (x3:NearT)=>Zcy x3==pe1) l0)∧BIf (decide (q2<(0:Int))) (R (.agg (Qz5 g)) b) (BIf (true&&decide (0≤q2)) (∃(n4:NearT),(rowsN l)[Zak q2]? =some (nearR n4)∧∃(n7:NearT) (fr8:Int) (q9:Bool), [nearA n4,Zad (i64 fr)]= [nearA n7,Zad (i64 fr8)]∧q9=AJb9 n7 fr8∧BIf (true&&decide (0≤q2)) (∃(n10:NearT),(rowsN l)[Zak q2]? =some (nearR n10)∧∃(l13:LayT) (n14:NearT) (sl15:Int) (of16:Int) (pe17:Int) (q18:Bool), [Zan (Qz3 ly),nearA n10,Zan (Qz55 g),Zad (i64 me)]= [Zan (Qz3 l13),nearA n14,Zan [Zad (i64 sl15),Zad (i64 of16)],Zad (i64 pe17)]∧(Zaa (Zcl n14)≤9223372036854775807∧q18=UsesS l13 n14 sl15 of16 pe17)∧BIf (true&&decide (0≤q2)) (∃(n19:NearT),(rowsN l)[Zak q2]? =some (nearR n19)∧∃(l22:LayT) (n23:NearT) (sl24:Int) (of25:Int) (pe26:Int) (q27:Bool), [Zan (Qz3 ly),nearA n19,Zan (Qz55 g),Zad (i64 me)]= [Zan (Qz3 l22),nearA n23,Zan [Zad (i64 sl24),Zad (i64 of25)],Zad (i64 pe26)]∧(Zaa (Zdw n23)≤9223372036854775807∧q27=AsksS l22 n23 sl24 of25 pe26)∧BIf q9 (BIf q18 (R (.agg [Zad (i64 (Zds g)),Zad (i64 (GraT.of g)),Zad (i64 (GraT.pe g)),Zad (i64 (GraT.st g)),Zad (i64 (if Zac .i64 (fr+8)>Zel g then Zac .i64 (fr+8) else Zel g))]) b) (BIf q27 (R (.agg [Zad (i64 (Zds g)),Zad (i64 (GraT.of g)),Zad (i64 (GraT.pe g)),Zad (i64 (GraT.st g)),Zad (i64 (if Zac .i64 (fr+8)>Zel g then Zac .i64 (fr+8) else Zel g))]) b) (R (.agg (Qz5 g)) b))) (R (.agg (Qz5 g)) b)) False) False) False)):=by kernel_rfl
def BWj9 (g:GraT) (fr:Int):GraT:=⟨g.sl,g.of,g.pe,g.st,if Zac Zbb (fr+8)>g.un then Zac Zbb (fr+8) else g.un⟩
def APe9 (ly:LayT) (g:GraT) (me:Int) (x:NearT) (fr:Int):Bool:=AJb9 x fr&&(UsesS ly x g.sl g.of me||AsksS ly x g.sl g.of me)
def ABs9 (ly:LayT) (g:GraT) (me:Int) (l:List NearT) (fr:Int):GraT:=match l.find? (fun x:NearT=>x.fm==g.pe) with
 |none=>g
 |some x=>match APe9 ly g me x fr with|true=>BWj9 g fr|false=>g
def BIh9:CF:=fun args K=>∃(ly:LayT) (g:GraT) (me:Int) (l:List NearT) (fr:Int) (q:GraT),args= [layA ly,graA g, .d (i64 me), .d (.sl 31 (rowsN l)), .d (i64 fr)]∧(l.length≤9223372036854775807∧(∀x∈l,AAo9 x)∧q=ABs9 ly g me l fr)∧K (graA q)
theorem BBh9:COk 61 BIh9:=by
 rintro _ K ⟨ly,g,me,l,fr,_,rfl,⟨hl,hN,rfl⟩,hk⟩;refine ⟨_, ?_,hk⟩;refine pcO CKc9 func61 fun Ev bb=> ?_;rw [BEt9];refine ⟨l,g.pe,_,rfl,⟨hl,rfl⟩, ?_⟩;rcases ACb9 (fun x:NearT=>x.fm==g.pe) l with ⟨g1,g2⟩|⟨j,x,g1,g2,g3,_⟩
 ·rw [AAq9 g1,show ABs9 ly g me l fr=g by rw [ABs9,g2]];exact Zas (by decide) rfl
 ·rw [AAj9 g1];have hx:=hN x (Zbj g2);have e1:APe9 ly g me x fr=true→ABs9 ly g me l fr=BWj9 g fr:=fun h=>by rw [ABs9,g3];simp only [h]
  have e2:APe9 ly g me x fr=false→ABs9 ly g me l fr=g:=fun h=>by rw [ABs9,g3];simp only [h]
  refine Zci (by simp) (Zas (natI j) ⟨_,AAr9 g2,x,fr,_,rfl,rfl,Zas (natI j) ⟨_,AAr9 g2,ly,x,g.sl,g.of,me,_,rfl,⟨hx.1,rfl⟩,Zas (natI j) ⟨_,AAr9 g2,ly,x,g.sl,g.of,me,_,rfl,⟨hx.2.2,rfl⟩, ?_⟩⟩⟩);refine Zax (fun c1=>Zax (fun c2=> ?_) fun c2=>Zax (fun c3=> ?_) fun c3=> ?_) fun c1=> ?_
  ·rw [e1 (by rw [APe9,c1,c2];rfl)];rfl
  ·rw [e1 (by rw [APe9,c1,c2,c3];rfl)];rfl
  ·rw [e2 (by rw [APe9,c1,c2,c3];rfl)];rfl
  ·rw [e2 (by rw [APe9,c1];rfl)];rfl
def TSm:CT:= [(33,CGh9),(34,CGi9)]
theorem CKb9:AAb9 prog TSm:=Zag BPp9 (Zag BPq9 Zai)
theorem BVf9 (t:TabT) (l:List NearT):wpFn prog ⟨TSm, [],wl,y,false⟩ 100 f11 [tabA t, .d (.sl 31 (rowsN l))] b R=(∃(l0:List NearT) (q1:Bool), [Zad (Zaj 31 (rowsN l))]= [Zad (Zaj 31 (rowsN l0))]∧q1=BAs9 l0∧BIf q1 (∃(t2:TabT) (q3:Bool), [Zan (Qz1 t)]= [Zan (Qz1 t2)]∧q3=ASv9 t2∧R (.d (bo q3)) b) (R (.d (bo false)) b)):=by kernel_rfl
def AUn9 (t:TabT) (l:List NearT):Bool:=BAs9 l&&ASv9 t
def CGb9:CF:=fun args K=>∃(t:TabT) (l:List NearT) (q:Bool),args= [tabA t, .d (.sl 31 (rowsN l))]∧q=AUn9 t l∧K (.d (bo q))
theorem BPj9:COk 11 CGb9:=by
 rintro _ K ⟨t,l,_,rfl,rfl,hk⟩;refine ⟨_, ?_,hk⟩;refine pcO CKb9 func11 fun Ev bb=> ?_;rw [BVf9];refine ⟨l,_,rfl,rfl,Zax (fun h=>⟨t,_,rfl,rfl, ?_⟩) fun h=> ?_⟩
 ·rw [AUn9,h];rfl
 ·rw [AUn9,h];rfl
theorem CCl9 (t:TabT) (me fr:Int):wpFn prog ⟨[], [],wl,y,false⟩ 100 f32 [.d (i64 me),tabA t, .d (i64 fr)] b R=(R (AV.full 31 [[i64 fr,i64 me,i64 0,i64 0,i64 0,i64 0,i64 0,i64 0,i64 0,i64 0,i64 0,i64 0,Zaj 4 (rowsU (Zbv t)),Zaj 5 (rowsG (Zbx t)),Zaj 3 (rowsA (Zck t)),Zdk (.slice none 0 0),bo false,Zdk (.slice none 0 0),Zdk (.slice none 0 0),Zdk (.slice none 0 0),i64 0,i64 0,u64 0,i64 0,i64 0,i64 0,i64 0,i64 0,Zdk (.slice none 0 0),Zdk (.slice none 0 0),bo false]]) b):=by kernel_rfl
theorem PCall.semRes {P:Program} {f:Nat} {args:List AV} {x y:AV} (h:SemV x.view y.view) (hp:PCall P f args x):PCall P f args y:=by
 refine ⟨hp.1,fun S w vs h1 h2 h3 h4=>CallsIn.mono (hp.2 S w vs h1 h2 h3 h4) ?_⟩;rintro e w' hq;obtain ⟨v,S',g1,g2,g3,g4,g5⟩:=hq;exact ⟨v,S',g1,g2,g3,g4,h _ _ _ _ _ g5⟩
def toldN (me:Int) (t:TabT) (fr:Int):NearT:=⟨fr,me,t.us,t.gs,t.ak,0,0,0,0,0,0,0,0,0,0, [],false, [], [], [],0,0,0,0,0,0,0,0, [], [],false⟩
def AQp9 (me:Int) (t:TabT) (fr:Int):List Dv:= [i64 fr,i64 me,i64 0,i64 0,i64 0,i64 0,i64 0,i64 0,i64 0,i64 0,i64 0,i64 0,Zaj 4 (rowsU t.us),Zaj 5 (rowsG t.gs),Zaj 3 (rowsA t.ak),Zdk (Zdj none 0 0),bo false,Zdk (Zdj none 0 0),Zdk (Zdj none 0 0),Zdk (Zdj none 0 0),i64 0,i64 0,u64 0,i64 0,i64 0,i64 0,i64 0,i64 0,Zdk (Zdj none 0 0),Zdk (Zdj none 0 0),bo false]
theorem AQo9 (me:Int) (t:TabT) (fr:Int):AHo9 (AQp9 me t fr) (nearR (toldN me t fr)):=by
 unfold AQp9 nearR toldN;repeat' (first|exact .nil|refine .cons .rfl ?_|refine .cons .nil ?_)
def cTold:CF:=fun args K=>∃(t:TabT) (me fr:Int) (q:List NearT),args= [.d (i64 me),tabA t, .d (i64 fr)]∧q= [toldN me t fr]∧K (.d (.sl 31 (rowsN q)))
theorem BYf9:COk 32 cTold:=by
 rintro _ K ⟨t,me,fr,_,rfl,rfl,hk⟩;refine ⟨_, ?_,hk⟩;have h:PCall prog 32 [.d (i64 me),tabA t, .d (i64 fr)] (.full 31 [AQp9 me t fr]):=by
  refine pcO Zai func32 fun Ev bb=> ?_;rw [CCl9];rfl
 have g:SemV (AV.full 31 [AQp9 me t fr]).view (Zad (Zaj 31 (rowsN [toldN me t fr]))).view:=SemV.rows (.cons (AQo9 me t fr) .nil);exact PCall.semRes g h
variable {Ev:Env prog} {b0:Ev.β} {Q:Exit→St Ev.β→Prop}
noncomputable def BFn9:Code:=sub [1,1,0,1,2,3,1,0,2,1,2,3] (code f59)
def tmSrt (l:List AskT) (da:Int) (acc:AV) (s:Int) (k:AV):List AV:= [.d (.sl 3 (rowsA l)), .d (i64 da), .bad, .bad, .bad,acc, .d (i64 s),k]++Zam 27 .bad
theorem rSrt0 (l:List AskT) (da:Int) (xs:List (List Dv)) (s k:Int):wpc prog ⟨[], [],wl,y,false⟩ 100 BFn9 (tmSrt l da (.own 63 3 xs) s (.d (i64 k))) [] b (maskK 0 [0,1,5,6,7] K)=(BIf (decide (k<((Zaa (rowsA l):Nat):Int))) (BIf (true&&decide (0≤k)) (∃(x0:Int) (x1:Int) (x2:Int),(rowsA l)[Zak k]? =some [i64 x0,i64 x1,i64 x2]∧BIf (x0==s) (BIf (true&&decide (0≤k)) (∃(x5:Int) (x6:Int) (x7:Int),(rowsA l)[Zak k]? =some [i64 x5,i64 x6,i64 x7]∧BIf (true&&decide ((Zaa xs+1)*24≤140737488355328)) (K .normal (Zad (Zaj 3 (rowsA l))::Zad (i64 da)::bds 3 (Zcc 63 3 (xs++ [[i64 x5,i64 x6,i64 x7]])::Zad (i64 s)::Zad (i64 (Zac .i64 (k+1)))::bds 27 [])) [] b) False) False) (K .normal (Zad (Zaj 3 (rowsA l))::Zad (i64 da)::bds 3 (Zcc 63 3 xs::Zad (i64 s)::Zad (i64 (Zac .i64 (k+1)))::bds 27 [])) [] b)) False) (K (Zba 2) (Zad (Zaj 3 (rowsA l))::Zad (i64 da)::bds 3 (Zcc 63 3 xs::Zad (i64 s)::Zad (i64 k)::bds 27 [])) [] b)):=by kernel_rfl
theorem CIa9 (l:List AskT) (da:Int) (a0:List AskT) (s:Int) (hl:a0.length+l.length<1000000) (hQ:∀k:Int,Q (.exit 2) ⟨tmSrt l da (.own 63 3 (rowsA (a0++l.filter (fun x=>x.sl==s)))) s (.d (i64 k)), [],b0⟩):
 WR Ev BFn9 (l.length+1) ⟨tmSrt l da (.own 63 3 (rowsA (a0++ []))) s (.d (i64 (0:Nat))), [],b0⟩ Q:=by
 refine WR.gathL (X:=⟨[], [],wlW Ev,Ev.Y,false⟩) (k:=100) [0,1,5,6,7] mixed (CX.Ok.of Zai Zar) l (AIx9 (fun x=>x.sl==s)) (AHd9 _) (fun acc k=>tmSrt l da (.own 63 3 (rowsA (a0++acc))) s (.d (i64 (k:Nat)))) [] 2 (fun k x acc hk hx ha K k1=> ?_) (fun acc K k1=> ?_) ?_
 ·refine Eq.mpr (rSrt0 _ _ _ K l da _ s k) ?_;rw [AAi9,ABd9 hx];refine Zas (by simp;omega) (Zas (natI k) ⟨_,_,_,rfl,Zax (fun g=>Zas (natI k) ⟨_,_,_,rfl,Zas (by simp [AAi9];omega) ?_⟩) fun g=> ?_⟩)
  ·rw [AJv9 (p:=fun x=>x.sl==s) (x:=x) g,←Zbm,AGz9] at k1;rw [wrapN (by omega)];exact k1
  ·rw [AJw9 (p:=fun x=>x.sl==s) (x:=x) g,Zco] at k1;rw [wrapN (by omega)];exact k1
 ·refine Eq.mpr (rSrt0 _ _ _ K l da _ s _) ?_;rw [AAi9];exact Zci (by simp) k1
 ·rw [ACp9];exact hQ _
variable {Ev:Env prog} {b0:Ev.β} {Q:Exit→St Ev.β→Prop}
def BUe9 {β:Type}:WLT β:=fun cd tm hp b K=>∃(l:List AskT) (da:Int) (a0:List AskT) (s:Int) (r:List AskT),cd= .loop BFn9∧AAn9 [0,1,5,6,7] 0 tm=tmSrt l da (.own 63 3 (rowsA a0)) s (.d (i64 0))∧hp= []∧(a0.length+l.length<1000000∧r=a0++l.filter (fun x=>x.sl==s))∧∀k:Int,K (.exit 2) (tmSrt l da (.own 63 3 (rowsA r)) s (.d (i64 k))) [] b
theorem BLr9:WlOk Ev BUe9:=by
 rintro c tm hp b K ⟨l,da,a0,s,r,rfl,htm,rfl,⟨hl,rfl⟩,hK⟩;refine W.cast (htm▸AAc9 _ tm 0) (Zbg _) ?_;have:=W.rounds (CIa9 (Ev:=Ev) (b0:=b) (Q:=fun e s=>K e s.tm s.hp s.b) l da a0 s hl hK);rw [Zco] at this;exact this
def sortA (l:List AskT):Nat→List AskT
 |0=> []
 |n+1=>sortA l n++l.filter (fun x=>x.sl==((n:Nat):Int))
theorem AWs9 (l:List AskT):∀n,(sortA l n).length≤n*l.length
 |0=>by simp [sortA]
 | n+1=>by
  have h1:=AWs9 l n;have h2:=Zcd (fun x:AskT=>x.sl==((n:Nat):Int)) l;rw [sortA,Zbi,Nat.succ_mul];omega
noncomputable def BFm9:Code:=sub [1,1,0,1,2,3] (code f59)
theorem rSrt1 (l:List AskT) (da:Int) (xs:List (List Dv)) (s:Int):wpc prog ⟨[], [],BUe9,y,false⟩ 100 BFm9 (tmSrt l da (.own 63 3 xs) s .bad) [] b (maskK 0 [0,1,5,6] K)=(BIf (decide (s<da)) (∃(l0:List AskT) (da1:Int) (a2:List AskT) (s3:Int) (r4:List AskT),Zaq BFn9=Zaq BFn9∧(Zad (Zaj 3 (rowsA l))::Zad (i64 da)::bds 3 (Zcc 63 3 xs::Zad (i64 s)::Zad (i64 0)::bds 27 []))=(Zad (Zaj 3 (rowsA l0))::Zad (i64 da1)::bds 3 (Zcc 63 3 (rowsA a2)::Zad (i64 s3)::Zad (i64 0)::bds 27 []))∧([]:List Blk)= []∧(Zaa a2+Zaa l0<1000000∧r4=a2++Zcf (fun (x5:AskT)=>Zde x5==s3) l0)∧∀(k:Int),K .normal (Zad (Zaj 3 (rowsA l0))::Zad (i64 da1)::bds 3 (Zcc 63 3 (rowsA r4)::Zad (i64 (Zac .i64 (s3+1)))::bds 28 [])) [] b) (K (Zba 0) (Zad (Zaj 3 (rowsA l))::Zad (i64 da)::bds 3 (Zcc 63 3 xs::Zad (i64 s)::bds 28 [])) [] b)):=by kernel_rfl
theorem CHz9 (l:List AskT) (da:Int) (hd:da≤1000) (hl:l.length≤900) (hQ:∀i:Int,Q (.exit 0) ⟨tmSrt l da (.own 63 3 (rowsA (sortA l da.toNat))) i .bad, [],b0⟩):
 WR Ev BFm9 ((Zbs da.toNat).length+1) ⟨tmSrt l da (.own 63 3 (rowsA (sortA l 0))) (0:Nat) .bad, [],b0⟩ Q:=by
 refine WR.scanL (X:=⟨[], [],BUe9,Ev.Y,false⟩) (k:=100) [0,1,5,6] mixed (CX.Ok.ofWl Zai Zar BLr9) (Zbs da.toNat) (fun _=>false) (fun i=>tmSrt l da (.own 63 3 (rowsA (sortA l i))) (i:Nat) .bad) (fun i=>tmSrt l da (.own 63 3 (rowsA (sortA l i))) (i:Nat) .bad) [] 0 (fun i x hi hx K k1 k2=> ?_) (fun K k1=> ?_) (fun h=> ?_) fun h i=>by simp at h
 ·have hi':i<da.toNat:=by simpa using hi
  have hb:(sortA l i).length+l.length<1000000:=by
   have h1:=AWs9 l i;have h2:i*l.length≤1000*900:=Nat.mul_le_mul (by omega) hl;omega
  refine Eq.mpr (rSrt1 _ _ K l da _ i) ?_;refine Zas (by simp;omega) ⟨l,da,sortA l i,i,_,rfl,rfl,rfl,⟨hb,rfl⟩,fun k=> ?_⟩;rw [wrapN (by omega)];exact k2 rfl
 ·refine Eq.mpr (rSrt1 _ _ K l da _ _) ?_;refine Zci (by simp;omega) ?_;exact k1
 ·have:=hQ ((Zbs da.toNat).length:Nat);rw [List.length_range] at this ⊢;exact this
def wlSrt {β:Type}:WLT β:=fun cd tm hp b K=>∃(l:List AskT) (da:Int) (r:List AskT),cd= .loop BFm9∧AAn9 [0,1,5,6] 0 tm=tmSrt l da nilA 0 .bad∧hp= []∧(da≤1000∧l.length≤900∧r=sortA l da.toNat)∧∀i:Int,K (.exit 0) (tmSrt l da (.own 63 3 (rowsA r)) i .bad) [] b
theorem BUd9:WlOk Ev wlSrt:=by
 rintro c tm hp b K ⟨l,da,r,rfl,htm,rfl,⟨hd,hl,rfl⟩,hK⟩;refine W.cast (htm▸AAc9 _ tm 0) (Zbg _) ?_;refine W.cast (tm':=tmSrt l da (.own 63 3 (rowsA (sortA l 0))) (0:Nat) .bad) (LeL.at [_,_,_,_,_] _ (LeA.nilOwn rfl)) (Zbg _) ?_;exact W.rounds (CHz9 (Q:=fun e s=>K e s.tm s.hp s.b) l da hd hl hK)
abbrev Qz94 (v0:List AskT) (v1:Int):=Zad (Zaj 3 (rowsA v0))::Zad (i64 v1)::bds 3 (Zad (Zdk (.slice none 0 0))::Zad (i64 0)::bds 28 [])
theorem BMq9 (l:List AskT) (da:Int):wpFn prog ⟨[], [],wlSrt,y,false⟩ 100 f59 [.d (.sl 3 (rowsA l)), .d (i64 da)] b R=(∃(l0:List AskT) (da1:Int) (r2:List AskT),Zaq BFm9=Zaq BFm9∧(Qz94 l da)=(Qz94 l0 da1)∧([]:List Blk)= []∧(da1≤(1000:Int)∧Zaa l0≤900∧r2=sortA l0 (Zak da1))∧∀(i:Int),R (.d (Zaj 3 (rowsA r2))) b):=by kernel_rfl
def BIf9:CF:=fun args K=>∃(l:List AskT) (da:Int) (q:List AskT),args= [.d (.sl 3 (rowsA l)), .d (i64 da)]∧(da≤1000∧l.length≤900∧q=sortA l da.toNat)∧K (.d (.sl 3 (rowsA q)))
theorem BBg9:COk 59 BIf9:=by
 rintro _ K ⟨l,da,_,rfl,⟨hd,hl,rfl⟩,hk⟩;refine ⟨_, ?_,hk⟩;refine pcL @wlSrt Zai BUd9 func59 fun Ev bb=> ?_;rw [BMq9];exact ⟨l,da,_,rfl,rfl,rfl,⟨hd,hl,rfl⟩,fun i=> .base LeA.rfl⟩
variable {Ev:Env prog} {b0:Ev.β} {Q:Exit→St Ev.β→Prop}
variable {Ev:Env prog} {b0:Ev.β} {Q:Exit→St Ev.β→Prop}
variable {Ev:Env prog} {b0:Ev.β} {Q:Exit→St Ev.β→Prop}
variable {Ev:Env prog} {b0:Ev.β} {Q:Exit→St Ev.β→Prop}
noncomputable def lpNs:Code:=sub [1,1,1,0,1,2,3] (code f35)
def nilP:Dv:= .s (.pointer none)
def tmNs (l:List NearT) (me fr i:Int):List AV:= [.bad, .bad, .d (i64 me), .d (.sl 31 (rowsN l)), .d (i64 fr), .ptr 0 0, .bad, .bad, .bad, .bad, .d nilP, .d (bo false), .ptr 2 0]++Zam 26 .bad++ [.d (.sl 31 (rowsN l)), .d (i64 l.length), .d (i64 i)]++Zam 75 .bad
def layF (l:LayT) (z:Bool):Blk:=⟨[.d (i64 l.no), .d (i64 l.da)],z,false,0⟩
def sideB (l:LayT) (me fr:Int) (x:AV):Blk:=⟨[.d (i64 l.no), .d (i64 l.da), .d (i64 me),x, .d (i64 fr)],false,false,0⟩
def TNs:CT:= [(73,BPb9),(36,cIn),(74,AXz9),(77,AYa9),(40,AYb9)]
theorem CHl9:AAb9 prog TNs:=Zag AQa9 (Zag BIs9 (Zag AVj9 (Zag AVk9 (Zag AVl9 Zai))))
def junkB (cs:List AV):Blk:=⟨cs,false,false,0⟩
def growB (v:Nat) (cs:List AV):Blk:=⟨cs,false,true,v⟩
def UNs:SCT:= [(1000055,fun _ _ _=>False)]
theorem CHc9:AAl9 prog UNs:=Zbt (fun _ _ _ h=>h.elim) Zar
abbrev Qz7 (v0:NearT) (v1:List UseT) (v2:List GraT) (v3:List AskT):List AV:= [Zad (i64 (Zey v0)),Zad (i64 (Zcy v0)),Zad (i64 0),Zad (i64 0),Zad (i64 0),Zad (i64 0),Zad (i64 0),Zad (i64 0),Zad (i64 0),Zad (i64 0),Zad (i64 0),Zad (i64 0),Zad (Zaj 4 (rowsU v1)),Zad (Zaj 5 (rowsG v2)),Zad (Zaj 3 (rowsA v3)),Zad (Zdk (.slice none 0 0)),Zad (bo false),Zad (Zdk (.slice none 0 0)),Zad (Zdk (.slice none 0 0)),Zad (Zdk (.slice none 0 0)),Zad (i64 0),Zad (i64 0),Zad (u64 0),Zad (i64 0),Zad (i64 0),Zad (i64 0),Zad (i64 0),Zad (i64 0),Zad (Zdk (.slice none 0 0)),Zad (Zdk (.slice none 0 0)),Zad (bo false)]
abbrev Qz21 (v0:LayT) (v1:Int) (v2:Int):List AV:= [Zad (i64 (Zeg v0)),Zad (i64 (Zbr v0)),Zad (i64 v1),Zad (Zdk (.slice none 0 0)),Zad (i64 v2)]
abbrev Qz23 (v0:NearT) (v1:List UseT) (v2:List GraT) (v3:List AskT):List AV:= [Zad (i64 (Zcy v0)),Zad (i64 0),Zad (i64 0),Zad (i64 0),Zad (i64 0),Zad (i64 0),Zad (i64 0),Zad (i64 0),Zad (i64 0),Zad (i64 0),Zad (i64 0),Zad (Zaj 4 (rowsU v1)),Zad (Zaj 5 (rowsG v2)),Zad (Zaj 3 (rowsA v3)),Zad (Zdk (.slice none 0 0)),Zad (bo false),Zad (Zdk (.slice none 0 0)),Zad (Zdk (.slice none 0 0)),Zad (Zdk (.slice none 0 0)),Zad (i64 0),Zad (i64 0),Zad (u64 0),Zad (i64 0),Zad (i64 0),Zad (i64 0),Zad (i64 0),Zad (i64 0),Zad (Zdk (.slice none 0 0)),Zad (Zdk (.slice none 0 0)),Zad (bo false)]
theorem rNs0 (ly:LayT) (t:TabT) (l:List NearT) (me fr i:Int):wpc prog ⟨TNs,UNs,wl,y,false⟩ 100 lpNs (tmNs l me fr i) [layF ly false,tabB t,sideB ly me fr (.d (.s (.slice none 0 0)))] b (maskT [2,3,4,5,10,11,12,39,40,41] K)=(BIf (decide (i<((Zaa l:Nat):Int))) (BIf (true&&decide (0≤i)) (∃(n0:NearT),(rowsN l)[Zak i]? =some (nearR n0)∧∃(n3:Int) (h4:Int) (z5:Bool), [Zad (i64 (Zcy n0)),Zad (i64 (Zac .i64 (Zeg ly - (1:Int))))]= [Zad (i64 n3),Zad (i64 h4)]∧z5=inN n3 h4∧BIf (!z5) (K .ret (Zab::Zab::Zad (i64 me)::Zad (Zaj 31 (rowsN l))::Zad (i64 fr)::Zae 0 0::bds 4 (Zad (Zdk (Zbz none))::Zad (bo false)::Zae 2 0::bds 26 (Zad (Zaj 31 (rowsN l))::Zad (i64 ((Zaa l:Nat):Int))::Zad (i64 i)::bds 75 []))) [bk (Qz3 ly),bk (Qz1 t),bk (Qz21 ly me fr),nearB n0] b) (BIf (Zcy n0==me) (K .ret (Zab::Zab::Zad (i64 me)::Zad (Zaj 31 (rowsN l))::Zad (i64 fr)::Zae 0 0::bds 4 (Zad (Zdk (Zbz none))::Zad (bo false)::Zae 2 0::bds 26 (Zad (Zaj 31 (rowsN l))::Zad (i64 ((Zaa l:Nat):Int))::Zad (i64 i)::bds 75 []))) [bk (Qz3 ly),bk (Qz1 t),bk (Qz21 ly me fr),nearB n0] b) (BIf (decide (i>(0:Int))) (BIf (true&&decide ((0:Int)≤Zac .i64 (i - 1))) (∃(n6:NearT),(rowsN l)[Zak (Zac .i64 (i - 1))]? =some (nearR n6)∧BIf (decide (Zcy n0≤Zcy n6)) (K .ret (Zab::Zab::Zad (i64 me)::Zad (Zaj 31 (rowsN l))::Zad (i64 fr)::Zae 0 0::bds 4 (Zad (Zdk (Zbz none))::Zad (bo false)::Zae 2 0::bds 26 (Zad (Zaj 31 (rowsN l))::Zad (i64 ((Zaa l:Nat):Int))::Zad (i64 i)::bds 75 []))) [bk (Qz3 ly),bk (Qz1 t),bk (Qz21 ly me fr),nearB n0] b) (∃(n9:Int) (h10:Int) (z11:Bool), [Zad (i64 (Zey n0)),Zad (i64 fr)]= [Zad (i64 n9),Zad (i64 h10)]∧z11=inN n9 h10∧BIf (!z11) (K .ret (Zab::Zab::Zad (i64 me)::Zad (Zaj 31 (rowsN l))::Zad (i64 fr)::Zae 0 0::bds 4 (Zad (Zdk (Zbz none))::Zad (bo false)::Zae 2 0::bds 26 (Zad (Zaj 31 (rowsN l))::Zad (i64 ((Zaa l:Nat):Int))::Zad (i64 i)::bds 75 []))) [bk (Qz3 ly),bk (Qz1 t),bk (Qz21 ly me fr),nearB n0] b) (∃(l12:List UseT) (ly13:LayT) (q14:List UseT), [Zad (Zaj 4 (rowsU (Zcl n0))),Zav (Fn.func 75) [] (Qz12 ly)]= [Zad (Zaj 4 (rowsU l12)),Zav (Fn.func 75) [] (Qz12 ly13)]∧(Zaa l12<1000000∧q14=Zcf (fun (x15:UseT)=>useIs x15 ly13) l12)∧∃(l16:List GraT) (ly17:LayT) (q18:List GraT), [Zad (Zaj 5 (rowsG (Zce n0))),Zav (Fn.func 78) [] (Qz12 ly)]= [Zad (Zaj 5 (rowsG l16)),Zav (Fn.func 78) [] (Qz12 ly17)]∧(Zaa l16<1000000∧q18=Zcf (fun (x19:GraT)=>graIs x19 ly17) l16)∧∃(l20:List AskT) (ly21:LayT) (q22:List AskT), [Zad (Zaj 3 (rowsA (Zdw n0))),Zav (Fn.func 80) [] (Qz12 ly)]= [Zad (Zaj 3 (rowsA l20)),Zav (Fn.func 80) [] (Qz12 ly21)]∧(Zaa l20<1000000∧q22=Zcf (fun (x23:AskT)=>ACa9 (Zde x23) (AskT.of x23) (AskT.pe x23) ly21) l20)∧1*392≤140737488355328∧K .normal (Zab::Zab::Zad (i64 me)::Zad (Zaj 31 (rowsN l))::Zad (i64 fr)::Zae 0 0::bds 4 (Zad (Zdk (Zbz none))::Zad (bo false)::Zae 2 0::bds 26 (Zad (Zaj 31 (rowsN l))::Zad (i64 ((Zaa l:Nat):Int))::Zad (i64 (Zac .i64 (i+1)))::bds 75 []))) [Blk.mk (Qz3 ly) true false 0,bk (Qz1 t),bk [Zad (i64 (Zeg ly)),Zad (i64 (Zbr ly)),Zad (i64 me),Zbh 5 0 1 31,Zad (i64 fr)],nearB n0,bk (Qz23 n0 q14 q18 q22),Blk.mk (Qz7 n0 q14 q18 q22) false true 0] b))) False) (∃(n24:Int) (h25:Int) (z26:Bool), [Zad (i64 (Zey n0)),Zad (i64 fr)]= [Zad (i64 n24),Zad (i64 h25)]∧z26=inN n24 h25∧BIf (!z26) (K .ret (Zab::Zab::Zad (i64 me)::Zad (Zaj 31 (rowsN l))::Zad (i64 fr)::Zae 0 0::bds 4 (Zad (Zdk (Zbz none))::Zad (bo false)::Zae 2 0::bds 26 (Zad (Zaj 31 (rowsN l))::Zad (i64 ((Zaa l:Nat):Int))::Zad (i64 i)::bds 75 []))) [bk (Qz3 ly),bk (Qz1 t),bk (Qz21 ly me fr),nearB n0] b) (∃(l27:List UseT) (ly28:LayT) (q29:List UseT), [Zad (Zaj 4 (rowsU (Zcl n0))),Zav (Fn.func 75) [] (Qz12 ly)]= [Zad (Zaj 4 (rowsU l27)),Zav (Fn.func 75) [] (Qz12 ly28)]∧(Zaa l27<1000000∧q29=Zcf (fun (x30:UseT)=>useIs x30 ly28) l27)∧∃(l31:List GraT) (ly32:LayT) (q33:List GraT), [Zad (Zaj 5 (rowsG (Zce n0))),Zav (Fn.func 78) [] (Qz12 ly)]= [Zad (Zaj 5 (rowsG l31)),Zav (Fn.func 78) [] (Qz12 ly32)]∧(Zaa l31<1000000∧q33=Zcf (fun (x34:GraT)=>graIs x34 ly32) l31)∧∃(l35:List AskT) (ly36:LayT) (q37:List AskT), [Zad (Zaj 3 (rowsA (Zdw n0))),Zav (Fn.func 80) [] (Qz12 ly)]= [Zad (Zaj 3 (rowsA l35)),Zav (Fn.func 80) [] (Qz12 ly36)]∧(Zaa l35<1000000∧q37=Zcf (fun (x38:AskT)=>ACa9 (Zde x38) (AskT.of x38) (AskT.pe x38) ly36) l35)∧1*392≤140737488355328∧K .normal (Zab::Zab::Zad (i64 me)::Zad (Zaj 31 (rowsN l))::Zad (i64 fr)::Zae 0 0::bds 4 (Zad (Zdk (Zbz none))::Zad (bo false)::Zae 2 0::bds 26 (Zad (Zaj 31 (rowsN l))::Zad (i64 ((Zaa l:Nat):Int))::Zad (i64 (Zac .i64 (i+1)))::bds 75 []))) [Blk.mk (Qz3 ly) true false 0,bk (Qz1 t),bk [Zad (i64 (Zeg ly)),Zad (i64 (Zbr ly)),Zad (i64 me),Zbh 5 0 1 31,Zad (i64 fr)],nearB n0,bk (Qz23 n0 q29 q33 q37),Blk.mk (Qz7 n0 q29 q33 q37) false true 0] b))))) False) (K (Zba 0) (Zab::Zab::Zad (i64 me)::Zad (Zaj 31 (rowsN l))::Zad (i64 fr)::Zae 0 0::bds 4 (Zad (Zdk (Zbz none))::Zad (bo false)::Zae 2 0::bds 26 (Zad (Zaj 31 (rowsN l))::Zad (i64 ((Zaa l:Nat):Int))::Zad (i64 i)::bds 75 []))) [bk (Qz3 ly),bk (Qz1 t),bk (Qz21 ly me fr)] b)):=by kernel_rfl
abbrev Qz18 (v0:LayT) (v1:Int) (v2:Nat) (v3:Nat) (v4:Int):List AV:= [Zad (i64 (Zeg v0)),Zad (i64 (Zbr v0)),Zad (i64 v1),Zbh 5 v2 v3 31,Zad (i64 v4)]
abbrev Qz47 (v0:LayT) (v1:Int) (v2:Nat) (v3:Nat) (v4:Int):List AV:= [Zad (i64 (Zeg v0)),Zad (i64 (Zbr v0)),Zad (i64 v1),Zbh 5 (v2+1) (v3+1) 31,Zad (i64 v4)]
theorem rNs (ly:LayT) (t:TabT) (l:List NearT) (me fr i:Int) (v n:Nat) (c3 c4 cs:List AV):wpc prog ⟨TNs,UNs,wl,y,false⟩ 100 lpNs (tmNs l me fr i) [layF ly true,tabB t,sideB ly me fr (.gref 5 v n 31),junkB c3,junkB c4,growB v cs] b (maskK 6 [2,3,4,5,10,11,12,39,40,41] K)=(BIf (decide (i<((Zaa l:Nat):Int))) (BIf (true&&decide (0≤i)) (∃(n0:NearT),(rowsN l)[Zak i]? =some (nearR n0)∧∃(n3:Int) (h4:Int) (z5:Bool), [Zad (i64 (Zcy n0)),Zad (i64 (Zac .i64 (Zeg ly - (1:Int))))]= [Zad (i64 n3),Zad (i64 h4)]∧z5=inN n3 h4∧BIf (!z5) (BIf (Zbl [Blk.mk (Qz3 ly) true false 0,bk (Qz1 t),bk (Qz18 ly me v n fr),bk c3,bk c4,Blk.mk cs false true v] fun (blk6:Blk)=>lows 6 blk6.1) (K .ret (Zab::Zab::Zad (i64 me)::Zad (Zaj 31 (rowsN l))::Zad (i64 fr)::Zae 0 0::bds 4 (Zad (Zdk (Zbz none))::Zad (bo false)::Zae 2 0::bds 26 (Zad (Zaj 31 (rowsN l))::Zad (i64 ((Zaa l:Nat):Int))::Zad (i64 i)::bds 75 []))) [Blk.mk (Qz3 ly) true false 0,bk (Qz1 t),bk (Qz18 ly me v n fr),bk c3,bk c4,Blk.mk cs false true v] b) False) (BIf (Zcy n0==me) (BIf (Zbl [Blk.mk (Qz3 ly) true false 0,bk (Qz1 t),bk (Qz18 ly me v n fr),bk c3,bk c4,Blk.mk cs false true v] fun (blk7:Blk)=>lows 6 blk7.1) (K .ret (Zab::Zab::Zad (i64 me)::Zad (Zaj 31 (rowsN l))::Zad (i64 fr)::Zae 0 0::bds 4 (Zad (Zdk (Zbz none))::Zad (bo false)::Zae 2 0::bds 26 (Zad (Zaj 31 (rowsN l))::Zad (i64 ((Zaa l:Nat):Int))::Zad (i64 i)::bds 75 []))) [Blk.mk (Qz3 ly) true false 0,bk (Qz1 t),bk (Qz18 ly me v n fr),bk c3,bk c4,Blk.mk cs false true v] b) False) (BIf (decide (i>(0:Int))) (BIf (true&&decide ((0:Int)≤Zac .i64 (i - 1))) (∃(n8:NearT),(rowsN l)[Zak (Zac .i64 (i - 1))]? =some (nearR n8)∧BIf (decide (Zcy n0≤Zcy n8)) (BIf (Zbl [Blk.mk (Qz3 ly) true false 0,bk (Qz1 t),bk (Qz18 ly me v n fr),bk c3,bk c4,Blk.mk cs false true v] fun (blk11:Blk)=>lows 6 blk11.1) (K .ret (Zab::Zab::Zad (i64 me)::Zad (Zaj 31 (rowsN l))::Zad (i64 fr)::Zae 0 0::bds 4 (Zad (Zdk (Zbz none))::Zad (bo false)::Zae 2 0::bds 26 (Zad (Zaj 31 (rowsN l))::Zad (i64 ((Zaa l:Nat):Int))::Zad (i64 i)::bds 75 []))) [Blk.mk (Qz3 ly) true false 0,bk (Qz1 t),bk (Qz18 ly me v n fr),bk c3,bk c4,Blk.mk cs false true v] b) False) (∃(n12:Int) (h13:Int) (z14:Bool), [Zad (i64 (Zey n0)),Zad (i64 fr)]= [Zad (i64 n12),Zad (i64 h13)]∧z14=inN n12 h13∧BIf (!z14) (BIf (Zbl [Blk.mk (Qz3 ly) true false 0,bk (Qz1 t),bk (Qz18 ly me v n fr),bk c3,bk c4,Blk.mk cs false true v] fun (blk15:Blk)=>lows 6 blk15.1) (K .ret (Zab::Zab::Zad (i64 me)::Zad (Zaj 31 (rowsN l))::Zad (i64 fr)::Zae 0 0::bds 4 (Zad (Zdk (Zbz none))::Zad (bo false)::Zae 2 0::bds 26 (Zad (Zaj 31 (rowsN l))::Zad (i64 ((Zaa l:Nat):Int))::Zad (i64 i)::bds 75 []))) [Blk.mk (Qz3 ly) true false 0,bk (Qz1 t),bk (Qz18 ly me v n fr),bk c3,bk c4,Blk.mk cs false true v] b) False) (∃(l16:List UseT) (ly17:LayT) (q18:List UseT), [Zad (Zaj 4 (rowsU (Zcl n0))),Zav (Fn.func 75) [] (Qz12 ly)]= [Zad (Zaj 4 (rowsU l16)),Zav (Fn.func 75) [] (Qz12 ly17)]∧(Zaa l16<1000000∧q18=Zcf (fun (x19:UseT)=>useIs x19 ly17) l16)∧∃(l20:List GraT) (ly21:LayT) (q22:List GraT), [Zad (Zaj 5 (rowsG (Zce n0))),Zav (Fn.func 78) [] (Qz12 ly)]= [Zad (Zaj 5 (rowsG l20)),Zav (Fn.func 78) [] (Qz12 ly21)]∧(Zaa l20<1000000∧q22=Zcf (fun (x23:GraT)=>graIs x23 ly21) l20)∧∃(l24:List AskT) (ly25:LayT) (q26:List AskT), [Zad (Zaj 3 (rowsA (Zdw n0))),Zav (Fn.func 80) [] (Qz12 ly)]= [Zad (Zaj 3 (rowsA l24)),Zav (Fn.func 80) [] (Qz12 ly25)]∧(Zaa l24<1000000∧q26=Zcf (fun (x27:AskT)=>ACa9 (Zde x27) (AskT.of x27) (AskT.pe x27) ly25) l24)∧v=v∧(n+1)*392≤140737488355328∧BIf (Zbl [Blk.mk (Qz3 ly) true false 0,bk (Qz1 t),bk (Qz47 ly me v n fr),bk c3,bk c4,Blk.mk (cs++(Qz7 n0 q18 q22 q26)) false true (v+1)] fun (blk28:Blk)=>lows 6 blk28.1) (K .normal (Zab::Zab::Zad (i64 me)::Zad (Zaj 31 (rowsN l))::Zad (i64 fr)::Zae 0 0::bds 4 (Zad (Zdk (Zbz none))::Zad (bo false)::Zae 2 0::bds 26 (Zad (Zaj 31 (rowsN l))::Zad (i64 ((Zaa l:Nat):Int))::Zad (i64 (Zac .i64 (i+1)))::bds 75 []))) [Blk.mk (Qz3 ly) true false 0,bk (Qz1 t),bk (Qz47 ly me v n fr),bk c3,bk c4,Blk.mk (cs++(Qz7 n0 q18 q22 q26)) false true (v+1)] b) False))) False) (∃(n29:Int) (h30:Int) (z31:Bool), [Zad (i64 (Zey n0)),Zad (i64 fr)]= [Zad (i64 n29),Zad (i64 h30)]∧z31=inN n29 h30∧BIf (!z31) (BIf (Zbl [Blk.mk (Qz3 ly) true false 0,bk (Qz1 t),bk (Qz18 ly me v n fr),bk c3,bk c4,Blk.mk cs false true v] fun (blk32:Blk)=>lows 6 blk32.1) (K .ret (Zab::Zab::Zad (i64 me)::Zad (Zaj 31 (rowsN l))::Zad (i64 fr)::Zae 0 0::bds 4 (Zad (Zdk (Zbz none))::Zad (bo false)::Zae 2 0::bds 26 (Zad (Zaj 31 (rowsN l))::Zad (i64 ((Zaa l:Nat):Int))::Zad (i64 i)::bds 75 []))) [Blk.mk (Qz3 ly) true false 0,bk (Qz1 t),bk (Qz18 ly me v n fr),bk c3,bk c4,Blk.mk cs false true v] b) False) (∃(l33:List UseT) (ly34:LayT) (q35:List UseT), [Zad (Zaj 4 (rowsU (Zcl n0))),Zav (Fn.func 75) [] (Qz12 ly)]= [Zad (Zaj 4 (rowsU l33)),Zav (Fn.func 75) [] (Qz12 ly34)]∧(Zaa l33<1000000∧q35=Zcf (fun (x36:UseT)=>useIs x36 ly34) l33)∧∃(l37:List GraT) (ly38:LayT) (q39:List GraT), [Zad (Zaj 5 (rowsG (Zce n0))),Zav (Fn.func 78) [] (Qz12 ly)]= [Zad (Zaj 5 (rowsG l37)),Zav (Fn.func 78) [] (Qz12 ly38)]∧(Zaa l37<1000000∧q39=Zcf (fun (x40:GraT)=>graIs x40 ly38) l37)∧∃(l41:List AskT) (ly42:LayT) (q43:List AskT), [Zad (Zaj 3 (rowsA (Zdw n0))),Zav (Fn.func 80) [] (Qz12 ly)]= [Zad (Zaj 3 (rowsA l41)),Zav (Fn.func 80) [] (Qz12 ly42)]∧(Zaa l41<1000000∧q43=Zcf (fun (x44:AskT)=>ACa9 (Zde x44) (AskT.of x44) (AskT.pe x44) ly42) l41)∧v=v∧(n+1)*392≤140737488355328∧BIf (Zbl [Blk.mk (Qz3 ly) true false 0,bk (Qz1 t),bk (Qz47 ly me v n fr),bk c3,bk c4,Blk.mk (cs++(Qz7 n0 q35 q39 q43)) false true (v+1)] fun (blk45:Blk)=>lows 6 blk45.1) (K .normal (Zab::Zab::Zad (i64 me)::Zad (Zaj 31 (rowsN l))::Zad (i64 fr)::Zae 0 0::bds 4 (Zad (Zdk (Zbz none))::Zad (bo false)::Zae 2 0::bds 26 (Zad (Zaj 31 (rowsN l))::Zad (i64 ((Zaa l:Nat):Int))::Zad (i64 (Zac .i64 (i+1)))::bds 75 []))) [Blk.mk (Qz3 ly) true false 0,bk (Qz1 t),bk (Qz47 ly me v n fr),bk c3,bk c4,Blk.mk (cs++(Qz7 n0 q35 q39 q43)) false true (v+1)] b) False))))) False) (BIf (Zbl [Blk.mk (Qz3 ly) true false 0,bk (Qz1 t),bk (Qz18 ly me v n fr),bk c3,bk c4,Blk.mk cs false true v] fun (blk46:Blk)=>lows 6 blk46.1) (K (Zba 0) (Zab::Zab::Zad (i64 me)::Zad (Zaj 31 (rowsN l))::Zad (i64 fr)::Zae 0 0::bds 4 (Zad (Zdk (Zbz none))::Zad (bo false)::Zae 2 0::bds 26 (Zad (Zaj 31 (rowsN l))::Zad (i64 ((Zaa l:Nat):Int))::Zad (i64 i)::bds 75 []))) [Blk.mk (Qz3 ly) true false 0,bk (Qz1 t),bk (Qz18 ly me v n fr),bk c3,bk c4,Blk.mk cs false true v] b) False)):=by kernel_rfl
def fTab (ly:LayT) (n:NearT):TabT:=⟨n.us.filter (fun x:UseT=>useIs x ly),n.gs.filter (fun x:GraT=>graIs x ly),n.ak.filter (fun x:AskT=>ACa9 x.sl x.of x.pe ly)⟩
def filN (ly:LayT) (n:NearT):NearT:=toldN n.fm (fTab ly n) n.fr
def AMq9 (ly:LayT) (n:NearT):List Dv:=AQp9 n.fm (fTab ly n) n.fr
def ACi9 (x:NearT):Prop:=x.us.length<1000000∧x.gs.length<1000000∧x.ak.length<1000000
theorem WR.scanG {α:Type} {P:Program} {Ev:Env P} {X:CX Ev.β} {lp:Code} {b:Ev.β} {Q:Exit→St Ev.β→Prop} {k L:Nat} (keep:List Nat) (hm:P.follows .mixedOrders=true) (hX:X.Ok) (xs:List α) (p:α→Bool) (tmOf:Nat→List AV) (hpOf:Nat→List Blk) (hL:∀i,(hpOf i).length=L) (id:Nat) (s:Nat)
 (hr:∀(i:Nat) (x:α),s≤i→i<xs.length→xs[i]? =some x→∀K:Exit→List AV→List Blk→Ev.β→Prop,(p x=true→K .ret (tmOf i) (hpOf i) b)→(p x=false→K .normal (tmOf (i+1)) (hpOf (i+1)) b)→wpc P X k lp (tmOf i) (hpOf i) b (maskK L keep K))
 (he:∀K:Exit→List AV→List Blk→Ev.β→Prop,K (.exit id) (tmOf xs.length) (hpOf xs.length) b→wpc P X k lp (tmOf xs.length) (hpOf xs.length) b (maskK L keep K))
 (h1:(xs.drop s).any p=false→Q (.exit id) ⟨tmOf xs.length,hpOf xs.length,b⟩) (h2:(xs.drop s).any p=true→∀i,Q .ret ⟨tmOf i,hpOf i,b⟩):
 ∀(m i:Nat),i+m=xs.length→s≤i→((xs.drop s).any p=(xs.drop i).any p)→WR Ev lp (m+1) ⟨tmOf i,hpOf i,b⟩ Q
 | 0,i,hi,hs,hj=>by
  have e:i=xs.length:=by omega
  subst e;refine Zdr keep hm hX (k:=k) (by rw [hL];exact he _ (h1 (by rw [hj,List.drop_length];rfl)))
 | m+1,i,hi,hs,hj=>by
  have hlt:i<xs.length:=by omega
  have hx:xs[i]? =some xs[i]:=Zbc hlt;have hd:xs.drop i=xs[i]::xs.drop (i+1):=List.drop_eq_getElem_cons hlt;refine Zdr keep hm hX (k:=k) (by
   rw [hL];refine hr i xs[i] hs hlt hx _ (fun hp=>h2 (by rw [hj,hd,List.any_cons,hp];rfl) i) fun hp=> ?_;exact WR.scanG keep hm hX xs p tmOf hpOf hL id s hr he h1 h2 m (i+1) (by omega) (by omega) (by rw [hj,hd,List.any_cons,hp];rfl))
theorem BGv9 (xs:List (List Dv)) (r:List Dv):flatA (xs++ [r])=flatA xs++r.map .d:=by simp [flatA]
def nsB (ly:LayT) (t:TabT) (l:List NearT) (me fr:Int) (c3 c4:List AV) (i:Nat):List Blk:= [layF ly true,tabB t,sideB ly me fr (.gref 5 (i - 1) i 31),junkB c3,junkB c4,growB (i - 1) (flatA ((l.take i).map (AMq9 ly)))]
theorem CJa9 {ly:LayT} {t:TabT} {l:List NearT} {me fr:Int} {c3 c4:List AV} (h3:lows 6 c3=true) (h4:lows 6 c4=true) (i:Nat):Zbl (nsB ly t l me fr c3 c4 i) (fun blk=>lows 6 blk.1)=true:=by
 simp only [nsB,List.all_cons,List.all_nil,Bool.and_true,Zal];exact ⟨rfl,rfl,rfl,h3,h4,ACx9 6 _⟩
theorem BRn9 {ly:LayT} (h:1≤ly.no∧ly.no≤1000000) (n:Int):inN n (Zac Zbb (ly.no - 1))= !(decide (n<0)||decide (n≥ly.no)):=by
 rw [AAw9 (by omega) (by omega),inN];by_cases h1:n<0
 ·simp [h1];omega
 ·by_cases h2:n≥ly.no
  ·simp [h1,h2];omega
  ·simp [h1,h2];omega
theorem CEv9 (n fr:Int):inN n fr= !(decide (n<0)||decide (n>fr)):=by
 rw [inN];by_cases h1:n<0
 ·simp [h1];omega
 ·by_cases h2:n>fr
  ·simp [h1,h2]
  ·simp [h1,h2];omega
variable {Ev:Env prog} {b0:Ev.β} {Q:Exit→St Ev.β→Prop}
theorem wrNs1 (ly:LayT) (t:TabT) (l:List NearT) (me fr:Int) (c3 c4:List AV) (hc3:lows 6 c3=true) (hc4:lows 6 c4=true) (hno:1≤ly.no∧ly.no≤1000000) (hl:l.length<1000000) (hx:∀x∈l,ACi9 x)
 (h1:((AAg9 none l).drop 1).any (badN ly me fr)=false→Q (.exit 0) ⟨tmNs l me fr l.length,nsB ly t l me fr c3 c4 l.length,b0⟩) (h2:((AAg9 none l).drop 1).any (badN ly me fr)=true→∀(i:Nat),Q .ret ⟨tmNs l me fr i,nsB ly t l me fr c3 c4 i,b0⟩) (m:Nat) (hm:1+m=l.length):
 WR Ev lpNs (m+1) ⟨tmNs l me fr (1:Nat),nsB ly t l me fr c3 c4 1,b0⟩ Q:=by
 have e:=AEc9 l none;have low:=fun i=>CJa9 (ly:=ly) (t:=t) (l:=l) (me:=me) (fr:=fr) hc3 hc4 i;refine WR.scanG (X:=⟨TNs,UNs,wlW Ev,Ev.Y,false⟩) (k:=100) (L:=6) [2,3,4,5,10,11,12,39,40,41] mixed (CX.Ok.of CHl9 CHc9) (AAg9 none l) (badN ly me fr) (fun i=>tmNs l me fr (i:Nat)) (fun i=>nsB ly t l me fr c3 c4 i) (fun i=>rfl) 0 1 (fun i p hs hi hp K k1 k2=> ?_) (fun K k1=> ?_) (fun h=>by simp only [e];exact h1 h) (fun h i=>h2 h i) m 1 (by rw [e];exact hm) (Zat _) rfl
 ·obtain ⟨g1,g2,g3⟩:=AEu9 l none i p hp;obtain ⟨o,x⟩:=p;simp only at g1 g2 g3;have hxl:ACi9 x:=hx x (Zbj g1);obtain ⟨j,rfl⟩:∃j,i=j+1:=⟨i - 1,by omega⟩;obtain ⟨w,hw,hj⟩:=g3 j rfl;refine Eq.mpr (rNs _ _ _ K ly t l me fr ((j+1:Nat):Int) j (j+1) c3 c4 _) ?_;refine Zas (by simp;omega) (Zas (natI _) ⟨_,AAr9 g1, ?_⟩);refine ⟨_,_,_,rfl,rfl, ?_⟩;rw [BRn9 hno,Zfe];refine Zax (fun c1=>Zas (low (j+1)) (k1 (by rw [badN,←Bool.or_assoc];simp only [c1,Zdi]))) fun c1=>Zax (fun c2=>Zas (low (j+1)) (k1 (by rw [badN];simp only [show (x.fm==me)=true from c2,Zdi,Zdf]))) fun c2=>Zas (by simp) ?_;rw [show Zac Zbb (((j+1:Nat):Int) - 1)=((j:Nat):Int) by rw [AAw9 (by omega) (by omega)];omega];refine Zas (natI j) ⟨_,AAr9 hj,Zax (fun c3=>Zas (low (j+1)) (k1 ?_)) fun c3=>⟨_,_,_,rfl,rfl, ?_⟩⟩
  ·have hpv:AWz9 o x.fm=true:=by rw [hw];exact c3
   rw [badN];simp only [hpv,Zdf]
  ·rw [CEv9,Zfe];refine Zax (fun c4=>Zas (low (j+1)) (k1 ?_)) fun c4=> ?_
   ·rcases (Zfg ..).mp c4 with c4|c4<;> · rw [badN];simp only [c4,Zdi,Zdf]
   ·have hpv:AWz9 o x.fm=false:=by rw [hw];exact c3
    have hb:badN ly me fr (o,x)=false:=by
     rw [Bool.or_eq_false_iff] at c1 c4;rw [badN,c1.1,c1.2,show (x.fm==me)=false from c2,c4.1,c4.2,hpv];rfl
    have hk:=k2 hb;have htk:(l.take (j+1+1)).map (AMq9 ly)=(l.take (j+1)).map (AMq9 ly)++ [AMq9 ly x]:=by
     rw [Zem,g1];simp
    have hl2:=low (j+1+1);simp only [nsB,htk,BGv9] at hk hl2;refine ⟨x.us,ly,_,rfl,⟨hxl.1,rfl⟩,x.gs,ly,_,rfl,⟨hxl.2.1,rfl⟩,x.ak,ly,_,rfl,⟨hxl.2.2,rfl⟩,rfl,by omega,Zas hl2 ?_⟩;rw [wrapN (by omega)];exact hk
 ·simp only [e] at k1 ⊢;refine Eq.mpr (rNs _ _ _ K ly t l me fr l.length (l.length - 1) l.length c3 c4 _) ?_;exact Zci (by simp) (Zas (low l.length) k1)
variable {Ev:Env prog} {b0:Ev.β} {Q:Exit→St Ev.β→Prop}
def nsB0 (ly:LayT) (t:TabT) (me fr:Int):List Blk:= [layF ly false,tabB t,sideB ly me fr (.d (.s (.slice none 0 0)))]
theorem wrNs (ly:LayT) (t:TabT) (l:List NearT) (me fr:Int) (hno:1≤ly.no∧ly.no≤1000000) (hl:l.length<1000000) (hx:∀x∈l,ACi9 x)
 (h0:l= []→Q (.exit 0) ⟨tmNs l me fr l.length,nsB0 ly t me fr,b0⟩) (h1:l≠ []→(AAg9 none l).any (badN ly me fr)=false→∀c3 c4,Q (.exit 0) ⟨tmNs l me fr l.length,nsB ly t l me fr c3 c4 l.length,b0⟩) (h2:(AAg9 none l).any (badN ly me fr)=true→∀(i:Nat) (hp:List Blk),Q .ret ⟨tmNs l me fr i,hp,b0⟩):
 WR Ev lpNs (l.length+1) ⟨tmNs l me fr (0:Nat),nsB0 ly t me fr,b0⟩ Q:=by
 refine WR.ofMaskT (X:=⟨TNs,UNs,wlW Ev,Ev.Y,false⟩) (k:=100) [2,3,4,5,10,11,12,39,40,41] mixed (CX.Ok.of CHl9 CHc9) ?_;refine Eq.mpr (rNs0 _ _ _ _ ly t l me fr ((0:Nat):Int)) ?_;cases l with
 |nil=>exact Zci (by simp) (h0 rfl)
 | cons x r=>
  have hxl:ACi9 x:=hx x (Zby ..);have g1:(x::r)[0]? =some x:=rfl;have hwp:AAg9 none (x::r)=(none,x)::AAg9 (some x) r:=rfl;refine Zas (by simp) (Zas (natI 0) ⟨_,AAr9 g1, ?_⟩);refine ⟨_,_,_,rfl,rfl, ?_⟩;rw [BRn9 hno,Zfe];have bad:badN ly me fr (none,x)=true→∀(i:Nat) (hp:List Blk),Q .ret ⟨tmNs (x::r) me fr i,hp,b0⟩:=fun h=>h2 (by rw [hwp,List.any_cons,h];rfl);refine Zax (fun c1=>bad (by rw [badN,←Bool.or_assoc];simp only [c1,Zdi]) 0 _) fun c1=>Zax (fun c2=>bad (by rw [badN];simp only [show (x.fm==me)=true from c2,Zdi,Zdf]) 0 _) fun c2=>Zci (by decide) ?_;refine ⟨_,_,_,rfl,rfl, ?_⟩;rw [CEv9,Zfe];refine Zax (fun c4=>bad ?_ 0 _) fun c4=> ?_
  ·rcases (Zfg ..).mp c4 with c4|c4<;> · rw [badN];simp only [c4,Zdi,Zdf]
  ·have hb:badN ly me fr (none,x)=false:=by
    rw [Bool.or_eq_false_iff] at c1 c4;rw [badN,c1.1,c1.2,show (x.fm==me)=false from c2,c4.1,c4.2];rfl
   have hd:(AAg9 none (x::r)).drop 1=AAg9 (some x) r:=rfl;have hk:=fun c3 c4 h3 h4=>wrNs1 (Q:=Q) ly t (x::r) me fr c3 c4 h3 h4 hno hl hx (fun h=>h1 (by simp) (by rw [hwp,List.any_cons,hb];rw [hd] at h;exact h) c3 c4) (fun h i=>h2 (by rw [hwp,List.any_cons,hb];rw [hd] at h;exact h) i _) r.length (by simp;omega);refine ⟨x.us,ly,_,rfl,⟨hxl.1,rfl⟩,x.gs,ly,_,rfl,⟨hxl.2.1,rfl⟩,x.ak,ly,_,rfl,⟨hxl.2.2,rfl⟩,by decide, ?_⟩;rw [wrapN (by omega)];exact hk _ _ rfl rfl
def wlNs {β:Type}:WLT β:=fun cd tm hp b K=>∃(ly:LayT) (t:TabT) (l:List NearT) (me fr:Int) (q:Bool),cd= .loop lpNs∧AAn9 [2,3,4,5,10,11,12,39,40,41] 0 tm=tmNs l me fr 0∧hp=nsB0 ly t me fr∧
 ((1≤ly.no∧ly.no≤1000000)∧l.length<1000000∧(∀x∈l,ACi9 x)∧q=(AAg9 none l).any (badN ly me fr))∧
 BIf q (∀(i:Nat) (hp:List Blk),K .ret (tmNs l me fr i) hp b) (BIf l.isEmpty (K (.exit 0) (tmNs l me fr l.length) (nsB0 ly t me fr) b) (∀(c3 c4:List AV),K (.exit 0) (tmNs l me fr l.length) [layF ly true,tabB t,sideB ly me fr (.gref 5 (l.length - 1) l.length 31),junkB c3,junkB c4,growB (l.length - 1) (flatA (l.map (AMq9 ly)))] b))
theorem CBk9:WlOk Ev wlNs:=by
 rintro c tm hp b K ⟨ly,t,l,me,fr,q,rfl,htm,rfl,⟨hno,hl,hx,hz⟩,hK⟩;refine W.cast (htm▸AAc9 _ tm 0) (Zbg _) ?_;refine W.rounds (wrNs (Q:=fun e s=>K e s.tm s.hp s.b) ly t l me fr hno hl hx (fun h=> ?_) (fun hne h c3 c4=> ?_) fun h=>by rw [hz,h] at hK;exact hK)
 ·subst h;rw [hz] at hK;exact hK
 ·rw [hz,h] at hK;cases l with
  |nil=>exact absurd rfl hne
  | cons x r=>
   have hK':=(show ∀(c3 c4:List AV),_ from hK) c3 c4;simp only [nsB,Zdc];exact hK'
def TNf:CT:= [(73,BPb9),(36,cIn)]
theorem CKh9:AAb9 prog TNf:=Zag AQa9 (Zag BIs9 Zai)
abbrev Qz59:List AV:= [Zad (Zdk (Zbz none)),Zad (bo false)]
theorem ns_nf (ly:LayT) (t:TabT) (l:List NearT) (me fr:Int):wpFn prog ⟨TNf, [],wlNs,y,false⟩ 100 f35 [layA ly,tabA t, .d (i64 me), .d (.sl 31 (rowsN l)), .d (i64 fr)] b R=(∃(t0:TabT) (l1:LayT) (q2:Bool), [Zan (Qz1 t),Zan (Qz3 ly)]= [Zan (Qz1 t0),Zan (Qz3 l1)]∧(TabOk t0∧q2=ACq9 t0 l1)∧BIf (!q2) (R (.tup Qz59) b) (∃(n3:Int) (h4:Int) (z5:Bool), [Zad (i64 me),Zad (i64 (Zac .i64 (Zeg ly - (1:Int))))]= [Zad (i64 n3),Zad (i64 h4)]∧z5=inN n3 h4∧BIf (!z5) (R (.tup Qz59) b) (∃(n6:Int) (h7:Int) (z8:Bool), [Zad (i64 fr),Zad (i64 999999992)]= [Zad (i64 n6),Zad (i64 h7)]∧z8=inN n6 h7∧BIf (!z8) (R (.tup Qz59) b) (∃(ly9:LayT) (t10:TabT) (l11:List NearT) (me12:Int) (fr13:Int) (q14:Bool),Zaq lpNs=Zaq lpNs∧(Zab::Zab::Zad (i64 me)::Zad (Zaj 31 (rowsN l))::Zad (i64 fr)::Zae 0 0::bds 4 (Zad (Zdk (Zbz none))::Zad (bo false)::Zae 2 0::bds 26 (Zad (Zaj 31 (rowsN l))::Zad (i64 ((Zaa (rowsN l):Nat):Int))::Zad (i64 0)::bds 75 [])))=(Zab::Zab::Zad (i64 me12)::Zad (Zaj 31 (rowsN l11))::Zad (i64 fr13)::Zae 0 0::bds 4 (Zad (Zdk (Zbz none))::Zad (bo false)::Zae 2 0::bds 26 (Zad (Zaj 31 (rowsN l11))::Zad (i64 ((Zaa l11:Nat):Int))::Zad (i64 0)::bds 75 [])))∧ [bk (Qz3 ly),bk (Qz1 t),bk (Qz21 ly me fr)]= [bk (Qz3 ly9),bk (Qz1 t10),bk (Qz21 ly9 me12 fr13)]∧(((1:Int)≤Zeg ly9∧Zeg ly9≤(1000000:Int))∧Zaa l11<1000000∧(∀(x:NearT),x∈l11→ACi9 x)∧q14=List.any (AAg9 none l11) (badN ly9 me12 fr13))∧BIf q14 (∀(i:Nat) (hp:List Blk),R (.tup Qz59) b) (BIf (List.isEmpty l11) (R (.tup [Zah [i64 (Zeg ly9),i64 (Zbr ly9),i64 me12,Zdk (.slice none 0 0),i64 fr13],Zad (bo true)]) b) (∀(c3 c4:List AV),Zaa l11 - 1=Zaa l11 - 1∧∃(xs15:List (List Dv)),flatA (List.map (AMq9 ly9) l11)=flatA xs15∧Zaa xs15=Zaa l11∧(∀(r:List Dv),r∈xs15→Zaa r=31)∧R (.tup [Zah [i64 (Zeg ly9),i64 (Zbr ly9),i64 me12,Zaj 31 xs15,i64 fr13],Zad (bo true)]) b)))))):=by kernel_rfl
theorem SemV.tup2 {a a' b:AV} (h:SemV a a'):SemV (.tup [a,b]) (.tup [a',b]):=by
 intro S w m yv v hr;cases hr with
 | tup hl h0=>
  refine .tup hl fun i c v hc hv=> ?_
  match i,hc with
  |0,hc=>simp at hc;subst hc;exact h _ _ _ _ _ (h0 0 a v (by simp) hv)
  |1,hc=>exact h0 1 c v hc hv
theorem SemV.rptr {cs ds:List Dv} (hl:cs.length=ds.length) (h:∀(j:Nat) (c d:Dv),cs[j]? =some c→ds[j]? =some d→ATp9 c d∨∃k xs ys,c= .sl k xs∧d= .sl k ys∧AKs9 xs ys):SemV (.rptr cs) (.rptr ds):=by
 intro S w m yv v hr;cases hr with
 | rptr vals hne hsp hs hc hr h1=>
  have get:∀(j:Nat) (d:Dv),ds[j]? =some d→∃c,cs[j]? =some c:=fun j d hd=>by
   have:=(Zaf.1 hd).1;exact ⟨cs[j]'(by omega),Zbc (by omega)⟩
  refine .rptr vals (fun e=>hne (List.length_eq_zero_iff.1 (by rw [hl,e];rfl))) hsp (fun j d hd=> ?_) (fun j d hd=> ?_) (fun j d hd=> ?_) (fun j d hd=> ?_);all_goals obtain ⟨c,hc0⟩:=get j d hd
  ·exact hs j c hc0
  ·exact hc j c hc0
  ·rcases h j c d hc0 hd with h2|⟨k,xs,ys,rfl,rfl,h2⟩
   ·exact h2.dr (hr j c hc0)
   ·exact h2.dr (hr j _ hc0)
  ·exact h1 j c hc0
def newS (ly:LayT) (t:TabT) (me:Int) (l:List NearT) (fr:Int):Bool:=ACq9 t ly&&(inN me (Zac Zbb (ly.no - 1))&&(inN fr 999999992&& !(AAg9 none l).any (badN ly me fr)))
def sideS (ly:LayT) (me:Int) (l:List NearT) (fr:Int):SideT:=⟨ly,me,l.map (filN ly),fr⟩
def nsA (q:Bool) (s:SideT):AV:= .tup [if q then .rptr (sideD s) else .d nilP, .d (bo q)]
theorem AXo9 (ly:LayT):∀l:List NearT,AKs9 (l.map (AMq9 ly)) (rowsN (l.map (filN ly)))
 | []=> .nil
 |n::r=> .cons (AQo9 n.fm (fTab ly n) n.fr) (AXo9 ly r)
theorem CCq9 (ly:LayT) (me:Int) (l:List NearT) (fr:Int):SemV (.rptr [i64 ly.no,i64 ly.da,i64 me, .sl 31 (l.map (AMq9 ly)),i64 fr]) (.rptr (sideD (sideS ly me l fr))):=by
 refine SemV.rptr rfl fun j c d hc hd=> ?_
 match j,hc,hd with
 |0,hc,hd=>simp [sideD,sideS] at hc hd;subst hc;subst hd;exact .inl .rfl
 |1,hc,hd=>simp [sideD,sideS] at hc hd;subst hc;subst hd;exact .inl .rfl
 |2,hc,hd=>simp [sideD,sideS] at hc hd;subst hc;subst hd;exact .inl .rfl
 |3,hc,hd=>simp [sideD,sideS] at hc hd;subst hc;subst hd;exact .inr ⟨31,_,_,rfl,rfl,AXo9 ly l⟩
 |4,hc,hd=>simp [sideD,sideS] at hc hd;subst hc;subst hd;exact .inl .rfl
theorem BVh9 (ly:LayT) (me fr:Int):SemV (.rptr [i64 ly.no,i64 ly.da,i64 me,Zdk (Zdj none 0 0),i64 fr]) (.rptr (sideD (sideS ly me [] fr))):=by
 refine SemV.rptr rfl fun j c d hc hd=> ?_
 match j,hc,hd with
 |0,hc,hd=>simp [sideD,sideS] at hc hd;subst hc;subst hd;exact .inl .rfl
 |1,hc,hd=>simp [sideD,sideS] at hc hd;subst hc;subst hd;exact .inl .rfl
 |2,hc,hd=>simp [sideD,sideS] at hc hd;subst hc;subst hd;exact .inl .rfl
 |3,hc,hd=>simp [sideD,sideS,rowsN] at hc hd;subst hc;subst hd;exact .inl .nil
 |4,hc,hd=>simp [sideD,sideS] at hc hd;subst hc;subst hd;exact .inl .rfl
theorem BGy9 (ly:LayT) (l:List NearT):∀r∈l.map (AMq9 ly),r.length=31:=by
 intro r hr;simp only [Zbf] at hr;obtain ⟨x,_,rfl⟩:=hr;rfl
theorem ABf9 {t:TabT} {l:LayT} (h:ACq9 t l=true):(1≤l.no∧l.no≤60)∧(1≤l.da∧l.da≤60):=by
 unfold ACq9 at h;split at h<;>try (cases h;done)
 split at h<;>try (cases h;done)
 split at h<;>try (cases h;done)
 split at h<;>try (cases h;done)
 omega
theorem pcNew (ly:LayT) (t:TabT) (me:Int) (l:List NearT) (fr:Int) (ht:TabOk t) (hl:l.length<1000000) (hx:∀x∈l,ACi9 x):
 PCall prog 35 [layA ly,tabA t, .d (i64 me), .d (.sl 31 (rowsN l)), .d (i64 fr)] (nsA (newS ly t me l fr) (sideS ly me l fr)):=by
 have key:PCall prog 35 [layA ly,tabA t, .d (i64 me), .d (.sl 31 (rowsN l)), .d (i64 fr)] (.tup [if newS ly t me l fr then .rptr [i64 ly.no,i64 ly.da,i64 me,if l.isEmpty then Zdk (Zdj none 0 0) else .sl 31 (l.map (AMq9 ly)),i64 fr] else .d nilP, .d (bo (newS ly t me l fr))]):=by
  refine pcW @wlNs CKh9 CBk9 func35 fun Ev bb=> ?_;rw [ns_nf,ABe9];refine ⟨t,ly,_,rfl,⟨ht,rfl⟩,Zax (fun h1=> ?_) fun h1=>⟨_,_,_,rfl,rfl,Zax (fun h2=> ?_) fun h2=>⟨_,_,_,rfl,rfl,Zax (fun h3=> ?_) fun h3=> ?_⟩⟩⟩
  ·rw [Zcb] at h1;rw [newS,h1];rfl
  ·rw [Zcb] at h2;rw [newS,h2,Zdb,Zcn];rfl
  ·rw [Zcb] at h3;rw [newS,h3,Zdb,Zcn,Zcn];rfl
  ·rw [Zcx] at h1 h2 h3;have hv:=ABf9 h1;refine ⟨ly,t,l,me,fr,_,rfl,rfl,rfl,⟨⟨hv.1.1,by omega⟩,hl,hx,rfl⟩,Zax (fun h4 i hp=> ?_) fun h4=> ?_⟩
   ·rw [newS,h1,h2,h3,h4];rfl
   ·rw [newS,h1,h2,h3,h4];refine Zax (fun h5=> ?_) fun h5=> ?_
    ·rw [h5];rfl
    ·intro c3 c4;rw [h5];exact ⟨rfl,l.map (AMq9 ly),rfl,by simp,BGy9 ly l,rfl⟩
 refine PCall.semRes ?_ key;cases hq:newS ly t me l fr with
 |false=>exact SemV.rfl
 | true=>
  refine SemV.tup2 ?_;cases l with
  |nil=>exact BVh9 ly me fr
  |cons x r=>exact CCq9 ly me (x::r) fr
def cNew:CF:=fun args K=>∃(ly:LayT) (t:TabT) (me:Int) (l:List NearT) (fr:Int) (s:SideT) (q:Bool),args= [layA ly,tabA t, .d (i64 me), .d (.sl 31 (rowsN l)), .d (i64 fr)]∧(TabOk t∧l.length<1000000∧(∀x∈l,ACi9 x)∧q=newS ly t me l fr∧s=sideS ly me l fr)∧BIf q (K (.tup [.rptr (sideD s), .d (bo true)])) (K (.tup [.d nilP, .d (bo false)]))
theorem BIl9:COk 35 cNew:=by
 rintro _ K ⟨ly,t,me,l,fr,_,q,rfl,⟨ht,hl,hx,hq,rfl⟩,hk⟩;refine ⟨_,pcNew ly t me l fr ht hl hx, ?_⟩;rw [←hq];cases q with
 |true=>exact hk
 |false=>exact hk
variable {Ev:Env prog} {b0:Ev.β} {Q:Exit→St Ev.β→Prop}
theorem CEf9 (x:GraT) (fr:Int):wpFn prog ⟨[], [],wl,y,false⟩ 100 f96 [graA x, .rptr [i64 fr]] b R=(R (Zad (bo (decide (Zel x<fr)))) b):=by kernel_rfl
theorem CEg9 (x:AskT) (sl:Int):wpFn prog ⟨[], [],wl,y,false⟩ 100 f138 [askA x, .rptr [i64 sl]] b R=(R (Zad (bo (Zde x==sl))) b):=by kernel_rfl
def cOutG:CF:=fun args K=>∃(x:GraT) (fr:Int) (q:Bool),args= [graA x, .rptr [i64 fr]]∧q=decide (x.un<fr)∧K (.d (bo q))
theorem BYm9:COk 96 cOutG:=by
 rintro _ K ⟨x,fr,_,rfl,rfl,hk⟩;refine ⟨_, ?_,hk⟩;refine pcO Zai func96 fun Ev bb=> ?_;rw [CEf9]
def cOutA:CF:=fun args K=>∃(x:AskT) (sl:Int) (q:Bool),args= [askA x, .rptr [i64 sl]]∧q=(x.sl==sl)∧K (.d (bo q))
theorem BYn9:COk 138 cOutA:=by
 rintro _ K ⟨x,sl,_,rfl,rfl,hk⟩;refine ⟨_, ?_,hk⟩;refine pcO Zai func138 fun Ev bb=> ?_;rw [CEg9]
def TOutG:CT:= [(95,BPf9),(96,cOutG)]
theorem BZg9:AAb9 prog TOutG:=Zag AQb9 (Zag BYm9 Zai)
def TOutA:CT:= [(118,BYh9),(138,cOutA)]
theorem BZh9:AAb9 prog TOutA:=Zag AXw9 (Zag BYn9 Zai)
def TInsG:CT:= [(95,BPf9),(167,BPv9)]
theorem BZn9:AAb9 prog TInsG:=Zag AQb9 (Zag AQe9 Zai)
def TInsU:CT:= [(108,BYg9),(170,BPu9)]
theorem BZm9:AAb9 prog TInsU:=Zag AXv9 (Zag AQd9 Zai)
theorem BOo9 (x:GraT) (fr:Int):wpFn prog ⟨TOutG, [],wl,y,false⟩ 100 f132 ([graA x]++ [.rptr [.fn (.func 96) [.pt [i64 fr]]], .rptr [.fn (.func 95) []]]) b R=(∃(u0:GraT), [Zan (Qz5 x)]= [Zan (Qz5 u0)]∧∃(x1:GraT) (fr2:Int) (q3:Bool), [Zan (Qz5 u0),Zah [i64 fr]]= [Zan (Qz5 x1),Zah [i64 fr2]]∧q3=decide (Zel x1<fr2)∧R (.d (bo q3)) b):=by kernel_rfl
def BJt9:CF:=fun args K=>∃(x:GraT) (fr:Int) (q:Bool),args= [graA x]++ [.rptr [.fn (.func 96) [.pt [i64 fr]]], .rptr [.fn (.func 95) []]]∧(q=(fun x:GraT=>decide (x.un<fr)) x)∧K (.d (bo q))
theorem ATh9:COk 132 BJt9:=by
 rintro _ K ⟨x,fr,_,rfl,rfl,hk⟩;refine ⟨_, ?_,hk⟩;refine pcO BZg9 func132 fun Ev bb=> ?_;rw [BOo9];exact ⟨x,rfl,x,fr,_,rfl,rfl,rfl⟩
def BZp9:CT:= [(132,BJt9)]
theorem BQj9:AAb9 prog BZp9:=Zag ATh9 Zai
noncomputable def ASd9:Code:=sub [1,0,1,2,3] (code f54)
def AIf9 (l:List GraT) (fr:Int) (q i:Int):List AV:= [.d (.sl 5 (rowsG l)), .fn (.func 132) [] [.rptr [.fn (.func 96) [.pt [i64 fr]]], .rptr [.fn (.func 95) []]], .bad, .bad, .d (i64 q), .bad, .bad, .d (i64 l.length), .d (i64 i)]++Zam 10 .bad
theorem CDm9 (l:List GraT) (fr:Int) (i:Int):wpc prog ⟨BZp9, [],wl,y,false⟩ 100 ASd9 (AIf9 l fr 0 i) [] b (maskK 0 [0,1,4,7,8] K)=(BIf (decide (i<((Zaa l:Nat):Int))) (BIf (true&&decide (0≤i)) (∃(x0:Int) (x1:Int) (x2:Int) (x3:Int) (x4:Int),(rowsG l)[Zak i]? =some (Qz27 x0 x1 x2 x3 x4)∧∃(x7:GraT) (fr8:Int) (q9:Bool), [Zan (Qz15 x0 x1 x2 x3 x4),Zah [Zcw (Fn.func 96) [Zdo [i64 fr]]],Zah [Zcw (Fn.func 95) []]]= [Zan (Qz5 x7),Zah [Zcw (Fn.func 96) [Zdo [i64 fr8]]],Zah [Zcw (Fn.func 95) []]]∧q9=decide (Zel x7<fr8)∧BIf q9 (K .ret (Zad (Zaj 5 (rowsG l))::Zav (Fn.func 132) [] [Zah [Zcw (Fn.func 96) [Zdo [i64 fr]]],Zah [Zcw (Fn.func 95) []]]::Zab::Zab::Zad (i64 i)::Zab::Zab::Zad (i64 ((Zaa l:Nat):Int))::Zad (i64 i)::bds 10 []) [] b) (K .normal (Zad (Zaj 5 (rowsG l))::Zav (Fn.func 132) [] [Zah [Zcw (Fn.func 96) [Zdo [i64 fr]]],Zah [Zcw (Fn.func 95) []]]::Zab::Zab::Zad (i64 0)::Zab::Zab::Zad (i64 ((Zaa l:Nat):Int))::Zad (i64 (Zac .i64 (i+1)))::bds 10 []) [] b)) False) (K (Zba 0) (Zad (Zaj 5 (rowsG l))::Zav (Fn.func 132) [] [Zah [Zcw (Fn.func 96) [Zdo [i64 fr]]],Zah [Zcw (Fn.func 95) []]]::Zab::Zab::Zad (i64 0)::Zab::Zab::Zad (i64 ((Zaa l:Nat):Int))::Zad (i64 i)::bds 10 []) [] b)):=by kernel_rfl
theorem CAl9 (l:List GraT) (fr:Int) (hl:l.length≤9223372036854775807) (h1:l.findIdx? (fun x:GraT=>decide (x.un<fr))=none→∀i:Int,Q (.exit 0) ⟨AIf9 l fr 0 i, [],b0⟩) (h2:∀j:Nat,l.findIdx? (fun x:GraT=>decide (x.un<fr))=some j→Q .ret ⟨AIf9 l fr j j, [],b0⟩):
 WR Ev ASd9 (l.length+1) ⟨AIf9 l fr 0 (0:Nat), [],b0⟩ Q:=by
 refine WR.findL (X:=⟨BZp9, [],wlW Ev,Ev.Y,false⟩) (k:=100) [0,1,4,7,8] mixed (CX.Ok.of BQj9 Zar) l (fun x:GraT=>decide (x.un<fr)) (fun i=>AIf9 l fr 0 (i:Nat)) (fun i=>AIf9 l fr (i:Nat) (i:Nat)) [] 0 (fun i x hi hxi K k1 k2=> ?_) (fun K k1=> ?_) (fun h=>h1 h _) h2
 ·refine Eq.mpr (CDm9 _ _ _ K l fr i) ?_;rw [ABb9 hxi];refine Zas (by simp;omega) (Zas (natI i) ⟨_,_,_,_,_,rfl,x,fr,_,rfl,rfl,Zax (fun g=>k1 g) fun g=> ?_⟩);rw [wrapN (by omega)];exact k2 g
 ·refine Eq.mpr (CDm9 _ _ _ K l fr _) ?_;exact Zci (by simp) k1
def BDk9 {β:Type}:WLT β:=fun cd tm hp b K=>∃(l:List GraT) (fr:Int) (q:Int),cd= .loop ASd9∧AAn9 [0,1,4,7,8] 0 tm=AIf9 l fr 0 0∧hp= []∧(l.length≤9223372036854775807∧q=idxS (fun x:GraT=>decide (x.un<fr)) l)∧(∀i:Int,q= -1→K (.exit 0) (AIf9 l fr 0 i) [] b)∧(∀i:Int,0≤q→K .ret (AIf9 l fr q i) [] b)
theorem BDj9:WlOk Ev BDk9:=by
 rintro c tm hp b K ⟨l,fr,q,rfl,htm,rfl,⟨hl,rfl⟩,hK1,hK2⟩;refine W.cast (htm▸AAc9 _ tm 0) (Zbg _) ?_;exact W.rounds (CAl9 (Q:=fun e s=>K e s.tm s.hp s.b) l fr hl (fun h i=>hK1 i (AAq9 h)) fun j h=>by have:=hK2 j (by rw [AAj9 h];omega);rwa [AAj9 h] at this)
theorem BGa9 (l:List GraT) (fr:Int):wpFn prog ⟨[], [],BDk9,y,false⟩ 100 f54 [.d (.sl 5 (rowsG l)), .fn (.func 132) [] [.rptr [.fn (.func 96) [.pt [i64 fr]]], .rptr [.fn (.func 95) []]]] b R=(∃(l0:List GraT) (fr1:Int) (q2:Int),Zaq ASd9=Zaq ASd9∧(Zad (Zaj 5 (rowsG l))::Zav (Fn.func 132) [] [Zah [Zcw (Fn.func 96) [Zdo [i64 fr]]],Zah [Zcw (Fn.func 95) []]]::Zab::Zab::Zad (i64 0)::Zab::Zab::Zad (i64 ((Zaa (rowsG l):Nat):Int))::Zad (i64 0)::bds 10 [])=(Zad (Zaj 5 (rowsG l0))::Zav (Fn.func 132) [] [Zah [Zcw (Fn.func 96) [Zdo [i64 fr1]]],Zah [Zcw (Fn.func 95) []]]::Zab::Zab::Zad (i64 0)::Zab::Zab::Zad (i64 ((Zaa l0:Nat):Int))::Zad (i64 0)::bds 10 [])∧([]:List Blk)= []∧(Zaa l0≤9223372036854775807∧q2=idxS (fun (x3:GraT)=>decide (Zel x3<fr1)) l0)∧(∀(i:Int),q2=(-1:Int)→R (.d (i64 (-1))) b)∧∀(i:Int),(0:Int)≤q2→R (.d (i64 q2)) b):=by kernel_rfl
def BIv9:CF:=fun args K=>∃(l:List GraT) (fr:Int) (q:Int),args= [.d (.sl 5 (rowsG l)), .fn (.func 132) [] [.rptr [.fn (.func 96) [.pt [i64 fr]]], .rptr [.fn (.func 95) []]]]∧(l.length≤9223372036854775807∧q=idxS (fun x:GraT=>decide (x.un<fr)) l)∧K (.d (i64 q))
theorem BBk9:COk 54 BIv9:=by
 rintro _ K ⟨l,fr,_,rfl,⟨hl,rfl⟩,hk⟩;refine ⟨_, ?_,hk⟩;refine pcW @BDk9 Zai BDj9 func54 fun Ev bb=> ?_;rw [BGa9,AAd9];exact ⟨l,fr,_,rfl,rfl,rfl,⟨hl,rfl⟩,fun i h=>by rw [h],fun i h=>rfl⟩
theorem BOp9 (x:AskT) (sl:Int):wpFn prog ⟨TOutA, [],wl,y,false⟩ 100 f148 ([askA x]++ [.rptr [.fn (.func 138) [.pt [i64 sl]]], .rptr [.fn (.func 118) []]]) b R=(∃(u0:AskT), [Zan (Qz11 x)]= [Zan (Qz11 u0)]∧∃(x1:AskT) (sl2:Int) (q3:Bool), [Zan (Qz11 u0),Zah [i64 sl]]= [Zan (Qz11 x1),Zah [i64 sl2]]∧q3=(Zde x1==sl2)∧R (.d (bo q3)) b):=by kernel_rfl
def BJu9:CF:=fun args K=>∃(x:AskT) (sl:Int) (q:Bool),args= [askA x]++ [.rptr [.fn (.func 138) [.pt [i64 sl]]], .rptr [.fn (.func 118) []]]∧(q=(fun x:AskT=>x.sl==sl) x)∧K (.d (bo q))
theorem ATi9:COk 148 BJu9:=by
 rintro _ K ⟨x,sl,_,rfl,rfl,hk⟩;refine ⟨_, ?_,hk⟩;refine pcO BZh9 func148 fun Ev bb=> ?_;rw [BOp9];exact ⟨x,rfl,x,sl,_,rfl,rfl,rfl⟩
def BZq9:CT:= [(148,BJu9)]
theorem BQk9:AAb9 prog BZq9:=Zag ATi9 Zai
noncomputable def ASe9:Code:=sub [1,0,1,2,3] (code f90)
def AIg9 (l:List AskT) (sl:Int) (q i:Int):List AV:= [.d (.sl 3 (rowsA l)), .fn (.func 148) [] [.rptr [.fn (.func 138) [.pt [i64 sl]]], .rptr [.fn (.func 118) []]], .bad, .bad, .d (i64 q), .bad, .bad, .d (i64 l.length), .d (i64 i)]++Zam 10 .bad
theorem CDn9 (l:List AskT) (sl:Int) (i:Int):wpc prog ⟨BZq9, [],wl,y,false⟩ 100 ASe9 (AIg9 l sl 0 i) [] b (maskK 0 [0,1,4,7,8] K)=(BIf (decide (i<((Zaa l:Nat):Int))) (BIf (true&&decide (0≤i)) (∃(x0:Int) (x1:Int) (x2:Int),(rowsA l)[Zak i]? =some [i64 x0,i64 x1,i64 x2]∧∃(x5:AskT) (sl6:Int) (q7:Bool), [Zan (Qz22 x0 x1 x2),Zah [Zcw (Fn.func 138) [Zdo [i64 sl]]],Zah [Zcw (Fn.func 118) []]]= [Zan (Qz11 x5),Zah [Zcw (Fn.func 138) [Zdo [i64 sl6]]],Zah [Zcw (Fn.func 118) []]]∧q7=(Zde x5==sl6)∧BIf q7 (K .ret (Zad (Zaj 3 (rowsA l))::Zav (Fn.func 148) [] [Zah [Zcw (Fn.func 138) [Zdo [i64 sl]]],Zah [Zcw (Fn.func 118) []]]::Zab::Zab::Zad (i64 i)::Zab::Zab::Zad (i64 ((Zaa l:Nat):Int))::Zad (i64 i)::bds 10 []) [] b) (K .normal (Zad (Zaj 3 (rowsA l))::Zav (Fn.func 148) [] [Zah [Zcw (Fn.func 138) [Zdo [i64 sl]]],Zah [Zcw (Fn.func 118) []]]::Zab::Zab::Zad (i64 0)::Zab::Zab::Zad (i64 ((Zaa l:Nat):Int))::Zad (i64 (Zac .i64 (i+1)))::bds 10 []) [] b)) False) (K (Zba 0) (Zad (Zaj 3 (rowsA l))::Zav (Fn.func 148) [] [Zah [Zcw (Fn.func 138) [Zdo [i64 sl]]],Zah [Zcw (Fn.func 118) []]]::Zab::Zab::Zad (i64 0)::Zab::Zab::Zad (i64 ((Zaa l:Nat):Int))::Zad (i64 i)::bds 10 []) [] b)):=by kernel_rfl
theorem CAm9 (l:List AskT) (sl:Int) (hl:l.length≤9223372036854775807) (h1:l.findIdx? (fun x:AskT=>x.sl==sl)=none→∀i:Int,Q (.exit 0) ⟨AIg9 l sl 0 i, [],b0⟩) (h2:∀j:Nat,l.findIdx? (fun x:AskT=>x.sl==sl)=some j→Q .ret ⟨AIg9 l sl j j, [],b0⟩):
 WR Ev ASe9 (l.length+1) ⟨AIg9 l sl 0 (0:Nat), [],b0⟩ Q:=by
 refine WR.findL (X:=⟨BZq9, [],wlW Ev,Ev.Y,false⟩) (k:=100) [0,1,4,7,8] mixed (CX.Ok.of BQk9 Zar) l (fun x:AskT=>x.sl==sl) (fun i=>AIg9 l sl 0 (i:Nat)) (fun i=>AIg9 l sl (i:Nat) (i:Nat)) [] 0 (fun i x hi hxi K k1 k2=> ?_) (fun K k1=> ?_) (fun h=>h1 h _) h2
 ·refine Eq.mpr (CDn9 _ _ _ K l sl i) ?_;rw [ABd9 hxi];refine Zas (by simp;omega) (Zas (natI i) ⟨_,_,_,rfl,x,sl,_,rfl,rfl,Zax (fun g=>k1 g) fun g=> ?_⟩);rw [wrapN (by omega)];exact k2 g
 ·refine Eq.mpr (CDn9 _ _ _ K l sl _) ?_;exact Zci (by simp) k1
def BDm9 {β:Type}:WLT β:=fun cd tm hp b K=>∃(l:List AskT) (sl:Int) (q:Int),cd= .loop ASe9∧AAn9 [0,1,4,7,8] 0 tm=AIg9 l sl 0 0∧hp= []∧(l.length≤9223372036854775807∧q=idxS (fun x:AskT=>x.sl==sl) l)∧(∀i:Int,q= -1→K (.exit 0) (AIg9 l sl 0 i) [] b)∧(∀i:Int,0≤q→K .ret (AIg9 l sl q i) [] b)
theorem BDl9:WlOk Ev BDm9:=by
 rintro c tm hp b K ⟨l,sl,q,rfl,htm,rfl,⟨hl,rfl⟩,hK1,hK2⟩;refine W.cast (htm▸AAc9 _ tm 0) (Zbg _) ?_;exact W.rounds (CAm9 (Q:=fun e s=>K e s.tm s.hp s.b) l sl hl (fun h i=>hK1 i (AAq9 h)) fun j h=>by have:=hK2 j (by rw [AAj9 h];omega);rwa [AAj9 h] at this)
theorem BGb9 (l:List AskT) (sl:Int):wpFn prog ⟨[], [],BDm9,y,false⟩ 100 f90 [.d (.sl 3 (rowsA l)), .fn (.func 148) [] [.rptr [.fn (.func 138) [.pt [i64 sl]]], .rptr [.fn (.func 118) []]]] b R=(∃(l0:List AskT) (sl1:Int) (q2:Int),Zaq ASe9=Zaq ASe9∧(Zad (Zaj 3 (rowsA l))::Zav (Fn.func 148) [] [Zah [Zcw (Fn.func 138) [Zdo [i64 sl]]],Zah [Zcw (Fn.func 118) []]]::Zab::Zab::Zad (i64 0)::Zab::Zab::Zad (i64 ((Zaa (rowsA l):Nat):Int))::Zad (i64 0)::bds 10 [])=(Zad (Zaj 3 (rowsA l0))::Zav (Fn.func 148) [] [Zah [Zcw (Fn.func 138) [Zdo [i64 sl1]]],Zah [Zcw (Fn.func 118) []]]::Zab::Zab::Zad (i64 0)::Zab::Zab::Zad (i64 ((Zaa l0:Nat):Int))::Zad (i64 0)::bds 10 [])∧([]:List Blk)= []∧(Zaa l0≤9223372036854775807∧q2=idxS (fun (x3:AskT)=>Zde x3==sl1) l0)∧(∀(i:Int),q2=(-1:Int)→R (.d (i64 (-1))) b)∧∀(i:Int),(0:Int)≤q2→R (.d (i64 q2)) b):=by kernel_rfl
def BIw9:CF:=fun args K=>∃(l:List AskT) (sl:Int) (q:Int),args= [.d (.sl 3 (rowsA l)), .fn (.func 148) [] [.rptr [.fn (.func 138) [.pt [i64 sl]]], .rptr [.fn (.func 118) []]]]∧(l.length≤9223372036854775807∧q=idxS (fun x:AskT=>x.sl==sl) l)∧K (.d (i64 q))
theorem BBl9:COk 90 BIw9:=by
 rintro _ K ⟨l,sl,_,rfl,⟨hl,rfl⟩,hk⟩;refine ⟨_, ?_,hk⟩;refine pcW @BDm9 Zai BDl9 func90 fun Ev bb=> ?_;rw [BGb9,AAi9];exact ⟨l,sl,_,rfl,rfl,rfl,⟨hl,rfl⟩,fun i h=>by rw [h],fun i h=>rfl⟩
theorem BOu9 (x:GraT) (g:GraT):wpFn prog ⟨TInsG, [],wl,y,false⟩ 100 f135 ([graA x]++ [.rptr [.fn (.func 95) []], .rptr (graR g)]) b R=(∃(u0:GraT), [Zan (Qz5 x)]= [Zan (Qz5 u0)]∧∃(u1:GraT), [Zan (Qz5 u0)]= [Zan (Qz5 u1)]∧∃(u2:GraT), [Zan (Qz5 g)]= [Zan (Qz5 u2)]∧∃(u3:GraT), [Zan (Qz5 u2)]= [Zan (Qz5 u3)]∧R (.d (bo (decide (Zds u1>Zds u3)))) b):=by kernel_rfl
def BSp9:CF:=fun args K=>∃(x:GraT) (g:GraT) (q:Bool),args= [graA x]++ [.rptr [.fn (.func 95) []], .rptr (graR g)]∧(q=(fun x:GraT=>decide (x.sl>g.sl)) x)∧K (.d (bo q))
theorem BJz9:COk 135 BSp9:=by
 rintro _ K ⟨x,g,_,rfl,rfl,hk⟩;refine ⟨_, ?_,hk⟩;refine pcO BZn9 func135 fun Ev bb=> ?_;rw [BOu9];exact ⟨x,rfl,x,rfl,g,rfl,g,rfl,rfl⟩
def BZs9:CT:= [(135,BSp9)]
theorem BQm9:AAb9 prog BZs9:=Zag BJz9 Zai
noncomputable def ASg9:Code:=sub [1,0,1,2,3] (code f54)
def AIi9 (l:List GraT) (g:GraT) (q i:Int):List AV:= [.d (.sl 5 (rowsG l)), .fn (.func 135) [] [.rptr [.fn (.func 95) []], .rptr (graR g)], .bad, .bad, .d (i64 q), .bad, .bad, .d (i64 l.length), .d (i64 i)]++Zam 10 .bad
theorem CDp9 (l:List GraT) (g:GraT) (i:Int):wpc prog ⟨BZs9, [],wl,y,false⟩ 100 ASg9 (AIi9 l g 0 i) [] b (maskK 0 [0,1,4,7,8] K)=(BIf (decide (i<((Zaa l:Nat):Int))) (BIf (true&&decide (0≤i)) (∃(x0:Int) (x1:Int) (x2:Int) (x3:Int) (x4:Int),(rowsG l)[Zak i]? =some (Qz27 x0 x1 x2 x3 x4)∧∃(x7:GraT) (g8:GraT) (q9:Bool), [Zan (Qz15 x0 x1 x2 x3 x4),Zah [Zcw (Fn.func 95) []],Zah (Qz14 g)]= [Zan (Qz5 x7),Zah [Zcw (Fn.func 95) []],Zah (Qz14 g8)]∧q9=decide (Zds x7>Zds g8)∧BIf q9 (K .ret (Zad (Zaj 5 (rowsG l))::Zav (Fn.func 135) [] [Zah [Zcw (Fn.func 95) []],Zah (Qz14 g)]::Zab::Zab::Zad (i64 i)::Zab::Zab::Zad (i64 ((Zaa l:Nat):Int))::Zad (i64 i)::bds 10 []) [] b) (K .normal (Zad (Zaj 5 (rowsG l))::Zav (Fn.func 135) [] [Zah [Zcw (Fn.func 95) []],Zah (Qz14 g)]::Zab::Zab::Zad (i64 0)::Zab::Zab::Zad (i64 ((Zaa l:Nat):Int))::Zad (i64 (Zac .i64 (i+1)))::bds 10 []) [] b)) False) (K (Zba 0) (Zad (Zaj 5 (rowsG l))::Zav (Fn.func 135) [] [Zah [Zcw (Fn.func 95) []],Zah (Qz14 g)]::Zab::Zab::Zad (i64 0)::Zab::Zab::Zad (i64 ((Zaa l:Nat):Int))::Zad (i64 i)::bds 10 []) [] b)):=by kernel_rfl
theorem CAo9 (l:List GraT) (g:GraT) (hl:l.length≤9223372036854775807) (h1:l.findIdx? (fun x:GraT=>decide (x.sl>g.sl))=none→∀i:Int,Q (.exit 0) ⟨AIi9 l g 0 i, [],b0⟩) (h2:∀j:Nat,l.findIdx? (fun x:GraT=>decide (x.sl>g.sl))=some j→Q .ret ⟨AIi9 l g j j, [],b0⟩):
 WR Ev ASg9 (l.length+1) ⟨AIi9 l g 0 (0:Nat), [],b0⟩ Q:=by
 refine WR.findL (X:=⟨BZs9, [],wlW Ev,Ev.Y,false⟩) (k:=100) [0,1,4,7,8] mixed (CX.Ok.of BQm9 Zar) l (fun x:GraT=>decide (x.sl>g.sl)) (fun i=>AIi9 l g 0 (i:Nat)) (fun i=>AIi9 l g (i:Nat) (i:Nat)) [] 0 (fun i x hi hxi K k1 k2=> ?_) (fun K k1=> ?_) (fun h=>h1 h _) h2
 ·refine Eq.mpr (CDp9 _ _ _ K l g i) ?_;rw [ABb9 hxi];refine Zas (by simp;omega) (Zas (natI i) ⟨_,_,_,_,_,rfl,x,g,_,rfl,rfl,Zax (fun g=>k1 g) fun g=> ?_⟩);rw [wrapN (by omega)];exact k2 g
 ·refine Eq.mpr (CDp9 _ _ _ K l g _) ?_;exact Zci (by simp) k1
def BDq9 {β:Type}:WLT β:=fun cd tm hp b K=>∃(l:List GraT) (g:GraT) (q:Int),cd= .loop ASg9∧AAn9 [0,1,4,7,8] 0 tm=AIi9 l g 0 0∧hp= []∧(l.length≤9223372036854775807∧q=idxS (fun x:GraT=>decide (x.sl>g.sl)) l)∧(∀i:Int,q= -1→K (.exit 0) (AIi9 l g 0 i) [] b)∧(∀i:Int,0≤q→K .ret (AIi9 l g q i) [] b)
theorem BDp9:WlOk Ev BDq9:=by
 rintro c tm hp b K ⟨l,g,q,rfl,htm,rfl,⟨hl,rfl⟩,hK1,hK2⟩;refine W.cast (htm▸AAc9 _ tm 0) (Zbg _) ?_;exact W.rounds (CAo9 (Q:=fun e s=>K e s.tm s.hp s.b) l g hl (fun h i=>hK1 i (AAq9 h)) fun j h=>by have:=hK2 j (by rw [AAj9 h];omega);rwa [AAj9 h] at this)
theorem BGd9 (l:List GraT) (g:GraT):wpFn prog ⟨[], [],BDq9,y,false⟩ 100 f54 [.d (.sl 5 (rowsG l)), .fn (.func 135) [] [.rptr [.fn (.func 95) []], .rptr (graR g)]] b R=(∃(l0:List GraT) (g1:GraT) (q2:Int),Zaq ASg9=Zaq ASg9∧(Zad (Zaj 5 (rowsG l))::Zav (Fn.func 135) [] [Zah [Zcw (Fn.func 95) []],Zah (Qz14 g)]::Zab::Zab::Zad (i64 0)::Zab::Zab::Zad (i64 ((Zaa (rowsG l):Nat):Int))::Zad (i64 0)::bds 10 [])=(Zad (Zaj 5 (rowsG l0))::Zav (Fn.func 135) [] [Zah [Zcw (Fn.func 95) []],Zah (Qz14 g1)]::Zab::Zab::Zad (i64 0)::Zab::Zab::Zad (i64 ((Zaa l0:Nat):Int))::Zad (i64 0)::bds 10 [])∧([]:List Blk)= []∧(Zaa l0≤9223372036854775807∧q2=idxS (fun (x3:GraT)=>decide (Zds x3>Zds g1)) l0)∧(∀(i:Int),q2=(-1:Int)→R (.d (i64 (-1))) b)∧∀(i:Int),(0:Int)≤q2→R (.d (i64 q2)) b):=by kernel_rfl
def BIy9:CF:=fun args K=>∃(l:List GraT) (g:GraT) (q:Int),args= [.d (.sl 5 (rowsG l)), .fn (.func 135) [] [.rptr [.fn (.func 95) []], .rptr (graR g)]]∧(l.length≤9223372036854775807∧q=idxS (fun x:GraT=>decide (x.sl>g.sl)) l)∧K (.d (i64 q))
theorem BBn9:COk 54 BIy9:=by
 rintro _ K ⟨l,g,_,rfl,⟨hl,rfl⟩,hk⟩;refine ⟨_, ?_,hk⟩;refine pcW @BDq9 Zai BDp9 func54 fun Ev bb=> ?_;rw [BGd9,AAd9];exact ⟨l,g,_,rfl,rfl,rfl,⟨hl,rfl⟩,fun i h=>by rw [h],fun i h=>rfl⟩
theorem BOt9 (x:UseT) (g:UseT):wpFn prog ⟨TInsU, [],wl,y,false⟩ 100 f139 ([useA x]++ [.rptr [.fn (.func 108) []], .rptr (useR g)]) b R=(∃(u0:UseT), [Zan (Qz6 x)]= [Zan (Qz6 u0)]∧∃(u1:UseT), [Zan (Qz6 u0)]= [Zan (Qz6 u1)]∧∃(u2:UseT), [Zan (Qz6 g)]= [Zan (Qz6 u2)]∧∃(u3:UseT), [Zan (Qz6 u2)]= [Zan (Qz6 u3)]∧R (.d (bo (decide (Zdl u1>Zdl u3)))) b):=by kernel_rfl
def BSo9:CF:=fun args K=>∃(x:UseT) (g:UseT) (q:Bool),args= [useA x]++ [.rptr [.fn (.func 108) []], .rptr (useR g)]∧(q=(fun x:UseT=>decide (x.sl>g.sl)) x)∧K (.d (bo q))
theorem BJy9:COk 139 BSo9:=by
 rintro _ K ⟨x,g,_,rfl,rfl,hk⟩;refine ⟨_, ?_,hk⟩;refine pcO BZm9 func139 fun Ev bb=> ?_;rw [BOt9];exact ⟨x,rfl,x,rfl,g,rfl,g,rfl,rfl⟩
def BZr9:CT:= [(139,BSo9)]
theorem BQl9:AAb9 prog BZr9:=Zag BJy9 Zai
noncomputable def ASf9:Code:=sub [1,0,1,2,3] (code f133)
def AIh9 (l:List UseT) (g:UseT) (q i:Int):List AV:= [.d (.sl 4 (rowsU l)), .fn (.func 139) [] [.rptr [.fn (.func 108) []], .rptr (useR g)], .bad, .bad, .d (i64 q), .bad, .bad, .d (i64 l.length), .d (i64 i)]++Zam 10 .bad
theorem CDo9 (l:List UseT) (g:UseT) (i:Int):wpc prog ⟨BZr9, [],wl,y,false⟩ 100 ASf9 (AIh9 l g 0 i) [] b (maskK 0 [0,1,4,7,8] K)=(BIf (decide (i<((Zaa l:Nat):Int))) (BIf (true&&decide (0≤i)) (∃(x0:Int) (x1:Int) (x2:Int) (x3:Int),(rowsU l)[Zak i]? =some [i64 x0,i64 x1,i64 x2,i64 x3]∧∃(x6:UseT) (g7:UseT) (q8:Bool), [Zan (Qz30 x0 x1 x2 x3),Zah [Zcw (Fn.func 108) []],Zah (Qz13 g)]= [Zan (Qz6 x6),Zah [Zcw (Fn.func 108) []],Zah (Qz13 g7)]∧q8=decide (Zdl x6>Zdl g7)∧BIf q8 (K .ret (Zad (Zaj 4 (rowsU l))::Zav (Fn.func 139) [] [Zah [Zcw (Fn.func 108) []],Zah (Qz13 g)]::Zab::Zab::Zad (i64 i)::Zab::Zab::Zad (i64 ((Zaa l:Nat):Int))::Zad (i64 i)::bds 10 []) [] b) (K .normal (Zad (Zaj 4 (rowsU l))::Zav (Fn.func 139) [] [Zah [Zcw (Fn.func 108) []],Zah (Qz13 g)]::Zab::Zab::Zad (i64 0)::Zab::Zab::Zad (i64 ((Zaa l:Nat):Int))::Zad (i64 (Zac .i64 (i+1)))::bds 10 []) [] b)) False) (K (Zba 0) (Zad (Zaj 4 (rowsU l))::Zav (Fn.func 139) [] [Zah [Zcw (Fn.func 108) []],Zah (Qz13 g)]::Zab::Zab::Zad (i64 0)::Zab::Zab::Zad (i64 ((Zaa l:Nat):Int))::Zad (i64 i)::bds 10 []) [] b)):=by kernel_rfl
theorem CAn9 (l:List UseT) (g:UseT) (hl:l.length≤9223372036854775807) (h1:l.findIdx? (fun x:UseT=>decide (x.sl>g.sl))=none→∀i:Int,Q (.exit 0) ⟨AIh9 l g 0 i, [],b0⟩) (h2:∀j:Nat,l.findIdx? (fun x:UseT=>decide (x.sl>g.sl))=some j→Q .ret ⟨AIh9 l g j j, [],b0⟩):
 WR Ev ASf9 (l.length+1) ⟨AIh9 l g 0 (0:Nat), [],b0⟩ Q:=by
 refine WR.findL (X:=⟨BZr9, [],wlW Ev,Ev.Y,false⟩) (k:=100) [0,1,4,7,8] mixed (CX.Ok.of BQl9 Zar) l (fun x:UseT=>decide (x.sl>g.sl)) (fun i=>AIh9 l g 0 (i:Nat)) (fun i=>AIh9 l g (i:Nat) (i:Nat)) [] 0 (fun i x hi hxi K k1 k2=> ?_) (fun K k1=> ?_) (fun h=>h1 h _) h2
 ·refine Eq.mpr (CDo9 _ _ _ K l g i) ?_;rw [ABl9 hxi];refine Zas (by simp;omega) (Zas (natI i) ⟨_,_,_,_,rfl,x,g,_,rfl,rfl,Zax (fun g=>k1 g) fun g=> ?_⟩);rw [wrapN (by omega)];exact k2 g
 ·refine Eq.mpr (CDo9 _ _ _ K l g _) ?_;exact Zci (by simp) k1
def BDo9 {β:Type}:WLT β:=fun cd tm hp b K=>∃(l:List UseT) (g:UseT) (q:Int),cd= .loop ASf9∧AAn9 [0,1,4,7,8] 0 tm=AIh9 l g 0 0∧hp= []∧(l.length≤9223372036854775807∧q=idxS (fun x:UseT=>decide (x.sl>g.sl)) l)∧(∀i:Int,q= -1→K (.exit 0) (AIh9 l g 0 i) [] b)∧(∀i:Int,0≤q→K .ret (AIh9 l g q i) [] b)
theorem BDn9:WlOk Ev BDo9:=by
 rintro c tm hp b K ⟨l,g,q,rfl,htm,rfl,⟨hl,rfl⟩,hK1,hK2⟩;refine W.cast (htm▸AAc9 _ tm 0) (Zbg _) ?_;exact W.rounds (CAn9 (Q:=fun e s=>K e s.tm s.hp s.b) l g hl (fun h i=>hK1 i (AAq9 h)) fun j h=>by have:=hK2 j (by rw [AAj9 h];omega);rwa [AAj9 h] at this)
theorem BGc9 (l:List UseT) (g:UseT):wpFn prog ⟨[], [],BDo9,y,false⟩ 100 f133 [.d (.sl 4 (rowsU l)), .fn (.func 139) [] [.rptr [.fn (.func 108) []], .rptr (useR g)]] b R=(∃(l0:List UseT) (g1:UseT) (q2:Int),Zaq ASf9=Zaq ASf9∧(Zad (Zaj 4 (rowsU l))::Zav (Fn.func 139) [] [Zah [Zcw (Fn.func 108) []],Zah (Qz13 g)]::Zab::Zab::Zad (i64 0)::Zab::Zab::Zad (i64 ((Zaa (rowsU l):Nat):Int))::Zad (i64 0)::bds 10 [])=(Zad (Zaj 4 (rowsU l0))::Zav (Fn.func 139) [] [Zah [Zcw (Fn.func 108) []],Zah (Qz13 g1)]::Zab::Zab::Zad (i64 0)::Zab::Zab::Zad (i64 ((Zaa l0:Nat):Int))::Zad (i64 0)::bds 10 [])∧([]:List Blk)= []∧(Zaa l0≤9223372036854775807∧q2=idxS (fun (x3:UseT)=>decide (Zdl x3>Zdl g1)) l0)∧(∀(i:Int),q2=(-1:Int)→R (.d (i64 (-1))) b)∧∀(i:Int),(0:Int)≤q2→R (.d (i64 q2)) b):=by kernel_rfl
def BIx9:CF:=fun args K=>∃(l:List UseT) (g:UseT) (q:Int),args= [.d (.sl 4 (rowsU l)), .fn (.func 139) [] [.rptr [.fn (.func 108) []], .rptr (useR g)]]∧(l.length≤9223372036854775807∧q=idxS (fun x:UseT=>decide (x.sl>g.sl)) l)∧K (.d (i64 q))
theorem BBm9:COk 133 BIx9:=by
 rintro _ K ⟨l,g,_,rfl,⟨hl,rfl⟩,hk⟩;refine ⟨_, ?_,hk⟩;refine pcW @BDo9 Zai BDn9 func133 fun Ev bb=> ?_;rw [BGc9,AAe9];exact ⟨l,g,_,rfl,rfl,rfl,⟨hl,rfl⟩,fun i h=>by rw [h],fun i h=>rfl⟩
section
variable {α:Type} {row:α→List Dv} {k:Nat} (hk:∀x,(row x).length=k)
theorem AOb9 (x:α) (hs:List α):flatA ((x::hs).map row)=(row x).map .d++flatA (hs.map row):=by rw [Zdy,AGr9]
theorem AVd9 (a b:List α):flatA ((a++b).map row)=flatA (a.map row)++flatA (b.map row):=by simp [flatA]
include hk
theorem BAr9:∀hs:List α,(flatA (hs.map row)).length=hs.length*k
 | []=>by simp [flatA]
 |h::hs=>by rw [AOb9,Zbi,BAr9 hs,List.length_map,hk,Zfr,Zda];omega
theorem ASt9:∀(hs:List α) (i:Nat),(flatA (hs.map row)).take (i*k)=flatA ((hs.take i).map row)
 | [],i=>by simp [flatA]
 |h::hs,0=>by simp [flatA]
 | h::hs,i+1=>by
  rw [AOb9,List.take_succ_cons,AOb9,←ASt9 hs i,List.take_append];have e:((row h).map Zad).length=k:=by rw [List.length_map,hk]
  rw [e,List.take_of_length_le (by rw [e,Zda];omega)];congr 2;rw [Zda];omega
theorem BGw9:∀(hs:List α) (i:Nat),(flatA (hs.map row)).drop (i*k)=flatA ((hs.drop i).map row)
 | [],i=>by simp [flatA]
 |h::hs,0=>by simp
 | h::hs,i+1=>by
  rw [AOb9,List.drop_succ_cons,←BGw9 hs i,List.drop_append];have e:((row h).map Zad).length=k:=by rw [List.length_map,hk]
  rw [e,List.drop_eq_nil_of_le (by rw [e,Zda];omega),List.nil_append];congr 1;rw [Zda];omega
theorem fl_at {hs:List α} {j:Nat} {x:α} (h:hs[j]? =some x):((flatA (hs.map row)).drop (j*k)).take k=(row x).map .d:=by
 obtain ⟨hj,rfl⟩:=Zaf.1 h;rw [BGw9 hk,List.drop_eq_getElem_cons hj,AOb9];have e:((row hs[j]).map Zad).length=k:=by rw [List.length_map,hk]
 rw [Zek (by rw [e];exact Zat _),List.take_of_length_le (by rw [e];exact Zat _)]
theorem BXd9 {hs:List α} {i:Nat} (hi:i<hs.length) (x:α):(flatA (hs.map row)).take (i*k)++(row x).map .d++(flatA (hs.map row)).drop (i*k+k)=flatA ((hs.set i x).map row):=by
 have e:i*k+k=(i+1)*k:=by rw [Zda];omega
 rw [e,ASt9 hk,BGw9 hk,List.set_eq_take_append_cons_drop,if_pos hi,AVd9,AOb9,Zbm]
end
theorem WR.delL {α:Type} {P:Program} {Ev:Env P} {X:CX Ev.β} {lp:Code} {b:Ev.β} {Q:Exit→St Ev.β→Prop} {k L:Nat} (keep:List Nat) (hm:P.follows .mixedOrders=true) (hX:X.Ok) (hs:List α) (p:α→Bool) (tmOf:Nat→Nat→List AV) (hpOf:List α→List Blk) (hL:∀c,(hpOf c).length=L) (id:Nat)
 (hr:∀(i j:Nat) (cur:List α) (x:α),cur[j]? =some x→i≤j→j<hs.length→cur.length=hs.length→∀K:Exit→List AV→List Blk→Ev.β→Prop,(p x=true→K .normal (tmOf i (j+1)) (hpOf cur) b)→(p x=false→K .normal (tmOf (i+1) (j+1)) (hpOf (cur.set i x)) b)→wpc P X k lp (tmOf i j) (hpOf cur) b (maskK L keep K))
 (he:∀(i:Nat) (cur:List α) (K:Exit→List AV→List Blk→Ev.β→Prop),cur.length=hs.length→K (.exit id) (tmOf i hs.length) (hpOf cur) b→wpc P X k lp (tmOf i hs.length) (hpOf cur) b (maskK L keep K))
 (hQ:∀cur:List α,cur.length=hs.length→cur.take (hs.filter fun x=> !p x).length=(hs.filter fun x=> !p x)→Q (.exit id) ⟨tmOf (hs.filter fun x=> !p x).length hs.length,hpOf cur,b⟩):
 ∀ (rest:List α) (j i:Nat) (cur:List α),hs.drop j=rest→j≤hs.length→i≤j→cur.length=hs.length→cur.take i=(hs.take j).filter (fun x=> !p x)→cur.drop j=rest→
  WR Ev lp (rest.length+1) ⟨tmOf i j,hpOf cur,b⟩ Q
 | [],j,i,cur,hd,hj,hi,hcl,ht,hcd=>by
  have hjl:j=hs.length:=by have:=List.drop_eq_nil_iff.1 hd;omega
  subst hjl;rw [Zdc] at ht;have hil:i=(hs.filter fun x=> !p x).length:=by rw [←ht,Zcj];omega
  refine Zdr keep hm hX (k:=k) (by rw [hL];exact he i cur _ hcl (by rw [hil] at ht ⊢;exact hQ cur hcl ht))
 | h::rest,j,i,cur,hd,hj,hi,hcl,ht,hcd=>by
  have hj1:j<hs.length:=by
   apply Classical.byContradiction;intro hn;rw [List.drop_eq_nil_of_le (by omega)] at hd;cases hd
  rw [List.drop_eq_getElem_cons hj1] at hd;rw [List.drop_eq_getElem_cons (by omega:j<cur.length)] at hcd;injection hd with hh1 hd1
  injection hcd with hh2 hd2
  have htake:hs.take (j+1)=hs.take j++ [h]:=by rw [List.take_succ_eq_append_getElem hj1,hh1]
  have hx:cur[j]? =some h:=by rw [Zbc (by omega),hh2]
  refine Zdr keep hm hX (k:=k) (by
   rw [hL];refine hr i j cur h hx hi hj1 hcl _ (fun hp=> ?_) fun hp=> ?_
   ·refine WR.delL keep hm hX hs p tmOf hpOf hL id hr he hQ rest (j+1) i cur hd1 hj1 (by omega) hcl ?_ hd2;rw [htake,List.filter_append,ht];simp [hp]
   ·refine WR.delL keep hm hX hs p tmOf hpOf hL id hr he hQ rest (j+1) (i+1) (cur.set i h) hd1 hj1 (by omega) (by simpa using hcl) ?_ ?_
    ·rw [htake,List.filter_append,←ht,List.take_succ_eq_append_getElem (by simp;omega)];simp [hp,List.take_set_of_le]
    ·rw [List.drop_set_of_lt (by omega)];exact hd2)
theorem AFx9 {α:Type} {p:α→Bool}:∀ {hs:List α} {j:Nat},hs.findIdx? p=some j→j<hs.length∧hs.take j=(hs.take (j+1)).filter (fun x=> !p x)
 | [],j,h=>by simp at h
 | x::r,j,h=>by
  rw [Zfo] at h;cases hp:p x with
  |true=>rw [hp] at h;simp at h;subst h;simp [hp]
  | false=>
   rw [hp] at h;simp only [Zcm,if_false,Zap] at h;obtain ⟨j',h1,rfl⟩:=h;obtain ⟨h2,h3⟩:=AFx9 h1;exact ⟨by simp;omega,by simp [hp,h3]⟩
theorem BGx9 {α:Type} {p:α→Bool} {hs:List α} (h:hs.findIdx? p=none):hs.filter (fun x=> !p x)=hs:=by
 have:=Zes.1 h;exact List.filter_eq_self.2 fun x hx=>by rw [this x hx];rfl
def boxA (x:AV):Blk:=⟨[x],false,false,0⟩
theorem SCall.toSl {P:Program} {f k:Nat} {args:List AV} {hp hp':List Blk} {xs:List (List Dv)} (h:SCall P f args hp (.full k xs) hp'):SCall P f args hp (.d (.sl k xs)) hp':=by
 refine ⟨h.1,fun S X yv w m B hv vs hl hr=>CallsIn.mono (h.2 S X yv w m B hv vs hl hr) ?_⟩;rintro e w' ⟨v,S',m',hv',he,h1,h2⟩;have hrv:=h2.rv _ (Zby ..);refine ⟨v,S',m',hv',he,h1,(h2.sub (List.sublist_cons_self _ _)).cons ?_ rfl⟩;cases hrv with|full h=>exact .d h
theorem ATo9.pc {P:Program} {f k:Nat} (hc:ATo9 P f k) (xs:List (List Dv)) (hl:xs.length≤1000000) (hk:∀r∈xs,r.length=k):PCall P f [.d (.sl k xs)] (.d (.sl k xs)):=by
 have h:=hc xs hl;cases xs with
 |nil=>exact PCall.semRes (x:= .full k []) (y:= .d (.sl k [])) (SemV.rows .nil) (h.toP (y:= .full k []) (.r (.v rfl)))
 |cons a r=>exact h.toP (.r (.gref rfl rfl rfl rfl rfl hk))
variable {Ev:Env prog} {b0:Ev.β} {Q:Exit→St Ev.β→Prop}
def GCG:SCT:= [(1000000+59,fun _ _ _=>False)]
theorem BCh9:AAl9 prog GCG:=Zbt (fun _ _ _ h=>h.elim) Zar
theorem BOl9 (xs:List (List Dv)):wpFnS prog ⟨[],GCG,wl,y,false⟩ 100 f48 [.d (.sl 5 xs)] b Kr=(∀(t:Bool),(t=true→xs= [])→BIf t (Kr (Zad (Zdk (.slice none 0 0))) [] b) (BIf (true&&decide (Zaa xs*40≤140737488355328)) (BIf (decide (0<Zaa xs)) (Kr (Zbh 0 0 (Zaa xs) 5) [Blk.mk (flatA xs) false true 0] b) (Kr (AV.full 5 []) [] b)) False)):=by kernel_rfl
theorem BHa9:ATo9 prog 48 5:=fun xs hl=>by
 refine Zgg (n:=100) (u:=false) (fun _=>fun _ _ _ _ _=>False) mixed Zai BCh9 (fun Ev _ _ _ _ _ h=>h.elim) func48 (by rfl) (by rfl) (by split<;>rfl) fun Ev bb=> ?_;rw [BOl9];refine fun t ht=>Zax (fun h=>by rw [ht h];exact ⟨.nilFull rfl,rfl⟩) fun h=>Zas (by simp<;>omega) ?_;cases xs with
 |nil=>exact Zci rfl ⟨.rfl,rfl⟩
 |cons a xs=>exact Zas (by simp) ⟨.rfl,rfl⟩
theorem AFv9 (x:GraT):(graR x).length=5:=rfl
theorem ARg9 (l:List GraT):∀r∈rowsG l,r.length=5:=by
 intro r hr;simp only [rowsG,Zbf] at hr;obtain ⟨x,_,rfl⟩:=hr;rfl
def BSi9:CF:=fun args K=>∃l:List GraT,args= [.d (.sl 5 (rowsG l))]∧l.length≤1000000∧K (.d (.sl 5 (rowsG l)))
theorem BJn9:COk 48 BSi9:=by
 rintro _ K ⟨l,rfl,hl,hk⟩;exact ⟨_,ATo9.pc BHa9 (rowsG l) (by rw [AAd9];exact hl) (ARg9 l),hk⟩
def BEp9 (args:List AV) (hp:List Blk) (K:AV→List Blk→Prop):Prop:=∃(hs:List GraT),args= [.d (.sl 5 (rowsG hs))]∧hs.length≤1000000∧BIf hs.isEmpty (K (.d (.sl 5 [])) hp) (K (.gref hp.length 0 hs.length 5) (hp++ [growB 0 (flatA (rowsG hs))]))
theorem ARe9:∀args hp K,BEp9 args hp K→∃x hp',SCall prog 48 args hp x hp'∧K x hp':=by
 rintro _ hp K ⟨hs,rfl,hl,hK⟩;have h1:=(BHa9 (rowsG hs) (by rw [AAd9];omega)).toS rfl hp;cases hs with
 |nil=>exact ⟨_,_,SCall.toSl h1,by simpa [rowsG,AGg9,BIf] using hK⟩
 | cons a r=>
  refine ⟨_,_,h1, ?_⟩;simpa [rowsG,shift,AGg9,ARa9,blkG,AHr9,BIf,growB] using hK
noncomputable def lpDfG:Code:=sub [1,1,1,0,1,2,3] (code f131)
def tmDfG (v n:Nat) (i j:Int):List AV:= [.gref 2 v n 5, .fn (.func 132) [] [.ptr 1 0, .ptr 0 0], .bad, .bad, .bad, .d (i64 i), .d (i64 j)]++Zam 35 .bad
def UDrG:SCT:= [(1000000+59,fun _ _ _=>False),(132,lendC BJt9)]
theorem CHd9:AAl9 prog UDrG:=Zbt (fun _ _ _ h=>h.elim) (Zbt (AFr9 ATh9) Zar)
def hpDfG (fr:Int) (v':Nat) (cs:List AV):List Blk:= [boxA (.fn (.func 95) [] []),boxA (.fn (.func 96) [] [.rptr [i64 fr]]),growB v' cs]
abbrev Qz61 (v0:Int) (v1:Int):=Zad (i64 v0)::Zad (i64 v1)::bds 35 []
theorem rDfG (v' n:Nat) (i j fr:Int) (cs:List AV):wpc prog ⟨[],UDrG,wl,y,false⟩ 100 lpDfG (tmDfG v' n i j) (hpDfG fr v' cs) b (maskK 3 [0,1,5,6] K)=(v'=v'∧BIf (decide (j<(n:Int))) (v'=v'∧BIf (decide (0≤j)&&decide (j<(n:Int))) (v'=v'∧∃(x0:Int) (x1:Int) (x2:Int) (x3:Int) (x4:Int),Zbq 5 (Zcg (Zak j*5) cs)=(Qz15 x0 x1 x2 x3 x4)∧∃(x5:GraT) (fr6:Int) (q7:Bool), [Zan (Qz15 x0 x1 x2 x3 x4),Zah [Zcw (Fn.func 96) [Zdo [i64 fr]]],Zah [Zcw (Fn.func 95) []]]= [Zan (Qz5 x5),Zah [Zcw (Fn.func 96) [Zdo [i64 fr6]]],Zah [Zcw (Fn.func 95) []]]∧q7=decide (Zel x5<fr6)∧BIf (!q7) (v'=v'∧BIf (decide (0≤i)&&decide (i<(n:Int))) (v'=v'∧BIf (decide (Zak i*5+5≤Zaa cs)) (BIf (Zbl [bk [Zav (Fn.func 95) [] []],bk [Zav (Fn.func 96) [] [Zah [i64 fr]]],Blk.mk (Zbq (Zak i*5) cs++(Qz15 x0 x1 x2 x3 x4)++Zcg (Zak i*5+5) cs) false true v'] fun (blk8:Blk)=>lows 3 blk8.1) (K .normal (Zbh 2 v' n 5::Zav (Fn.func 132) [] [Zae 1 0,Zae 0 0]::bds 3 (Zad (i64 (Zac .i64 (i+1)))::Zad (i64 (Zac .i64 (j+1)))::bds 35 [])) [bk [Zav (Fn.func 95) [] []],bk [Zav (Fn.func 96) [] [Zah [i64 fr]]],Blk.mk (Zbq (Zak i*5) cs++(Qz15 x0 x1 x2 x3 x4)++Zcg (Zak i*5+5) cs) false true v'] b) False) False) False) (BIf (Zbl [bk [Zav (Fn.func 95) [] []],bk [Zav (Fn.func 96) [] [Zah [i64 fr]]],Blk.mk cs false true v'] fun (blk9:Blk)=>lows 3 blk9.1) (K .normal (Zbh 2 v' n 5::Zav (Fn.func 132) [] [Zae 1 0,Zae 0 0]::bds 3 (Zad (i64 i)::Zad (i64 (Zac .i64 (j+1)))::bds 35 [])) [bk [Zav (Fn.func 95) [] []],bk [Zav (Fn.func 96) [] [Zah [i64 fr]]],Blk.mk cs false true v'] b) False)) False) (BIf (Zbl [bk [Zav (Fn.func 95) [] []],bk [Zav (Fn.func 96) [] [Zah [i64 fr]]],Blk.mk cs false true v'] fun (blk10:Blk)=>lows 3 blk10.1) (K (Zba 0) (Zbh 2 v' n 5::Zav (Fn.func 132) [] [Zae 1 0,Zae 0 0]::bds 3 (Qz61 i j)) [bk [Zav (Fn.func 95) [] []],bk [Zav (Fn.func 96) [] [Zah [i64 fr]]],Blk.mk cs false true v'] b) False)):=by kernel_rfl
theorem BHk9 (fr:Int) (v':Nat) (hs:List GraT):Zbl (hpDfG fr v' (flatA (rowsG hs))) (fun blk=>lows 3 blk.1)=true:=by
 simp only [hpDfG,List.all_cons,List.all_nil,Bool.and_true,Zal];exact ⟨rfl,rfl,ACx9 3 _⟩
theorem wrDfG (v':Nat) (fr:Int) (hs:List GraT) (hl:hs.length<1000000)
 (hQ:∀cur:List GraT,cur.length=hs.length→cur.take (hs.filter fun x=> !(fun x:GraT=>decide (x.un<fr)) x).length=(hs.filter fun x=> !(fun x:GraT=>decide (x.un<fr)) x)→Q (.exit 0) ⟨tmDfG v' hs.length ((hs.filter fun x=> !(fun x:GraT=>decide (x.un<fr)) x).length:Nat) hs.length,hpDfG fr v' (flatA (rowsG cur)),b0⟩)
 (j:Nat) (hj:hs.findIdx? (fun x:GraT=>decide (x.un<fr))=some j):WR Ev lpDfG ((hs.drop (j+1)).length+1) ⟨tmDfG v' hs.length (j:Nat) ((j+1:Nat):Int),hpDfG fr v' (flatA (rowsG hs)),b0⟩ Q:=by
 obtain ⟨hj1,hj2⟩:=AFx9 hj;refine WR.delL (X:=⟨[],UDrG,wlW Ev,Ev.Y,false⟩) (k:=100) (L:=3) [0,1,5,6] mixed (CX.Ok.of Zai CHd9) hs (fun x:GraT=>decide (x.un<fr)) (fun i j=>tmDfG v' hs.length (i:Nat) (j:Nat)) (fun c=>hpDfG fr v' (flatA (rowsG c))) (fun _=>rfl) 0 (fun i j cur x hx hi hj hcl K k1 k2=> ?_) (fun i cur K hcl k1=> ?_) hQ (hs.drop (j+1)) (j+1) j hs rfl hj1 (by omega) rfl hj2 rfl
 ·refine Eq.mpr (rDfG _ _ _ K v' hs.length i j fr _) ?_;refine ⟨rfl,Zas (by simp;omega) ⟨rfl,Zas (by simp;omega) ⟨rfl,_,_,_,_,_,by rw [Zcv];exact fl_at AFv9 hx,x,fr,_,rfl,rfl,Zax (fun h1=> ?_) fun h1=> ?_⟩⟩⟩
  ·rw [Zcb] at h1;have hk2:=k2 h1;have e:=BXd9 AFv9 (hs:=cur) (i:=i) (by omega) x;refine ⟨rfl,Zas (by simp;omega) ⟨rfl,Zas (by rw [Zcv];have:=BAr9 AFv9 cur;rw [show flatA (rowsG cur)=flatA (cur.map graR) from rfl,this];simp;omega) ?_⟩⟩;rw [Zcv,wrapN (by omega),wrapN (by omega)];have hlow:=BHk9 fr v' (cur.set i x);simp only [hpDfG,rowsG] at hk2 hlow;rw [←e] at hk2 hlow;exact Zas hlow hk2
  ·rw [Zcx] at h1;rw [wrapN (by omega)];exact Zas (BHk9 fr v' cur) (k1 h1)
 ·refine Eq.mpr (rDfG _ _ _ K v' hs.length i hs.length fr _) ?_;exact ⟨rfl,Zci (by simp) (Zas (BHk9 fr v' cur) k1)⟩
def CCc9 {β:Type}:WLT β:=fun c tm hp b K=>∃(v':Nat) (fr i j:Int) (hs out:List GraT),c= .loop lpDfG∧AAn9 [0,1,5,6] 0 tm=tmDfG v' hs.length i j∧hp=hpDfG fr v' (flatA (rowsG hs))∧(hs.length<1000000∧0≤i∧i=idxS (fun x:GraT=>decide (x.un<fr)) hs∧j=Zac Zbb (i+1)∧out=hs.filter fun x=> !(fun x:GraT=>decide (x.un<fr)) x)∧
 ∀(cur:List GraT),cur.length=hs.length→cur.take out.length=out→K (.exit 0) (tmDfG v' hs.length (out.length:Nat) hs.length) (hpDfG fr v' (flatA (rowsG cur))) b
theorem BLv9:WlOk Ev CCc9:=by
 rintro c tm hp b K ⟨v',fr,i,j,hs,_,rfl,htm,rfl,⟨hl,h0,hi,rfl,rfl⟩,hK⟩;cases hf:hs.findIdx? (fun x:GraT=>decide (x.un<fr)) with
 |none=>rw [AAq9 hf] at hi;omega
 | some j0=>
  rw [AAj9 hf] at hi;subst hi;have hj1:=(AFx9 hf).1;rw [wrapN (by omega)] at htm;refine W.cast (htm▸AAc9 _ tm 0) (Zbg _) ?_;exact W.rounds (wrDfG (Q:=fun e s=>K e s.tm s.hp s.b) v' fr hs hl hK j0 hf)
def TDfG:CT:= [(4000011,cNone)]
theorem BTe9:AAb9 prog TDfG:=Zag (ABw9 _) Zai
def UDfG:SCT:= [(1000000+59,fun _ _ _=>False),(54,lendC BIv9)]
theorem BTc9:AAl9 prog UDfG:=Zbt (fun _ _ _ h=>h.elim) (Zbt (AFr9 BBk9) Zar)
def wlDfG {β:Type} (y:ADo9 β):WLT β:=wlZ prog ⟨TDfG,UDfG,fun _ _ _ _ _=>False,y,false⟩ CCc9
theorem CFn9 (v' n:Nat) (fr:Int) (cs:List AV):wpc prog ⟨TDfG,UDfG,wlDfG y,y,false⟩ 100 (code f131) (ACf9 f131 [.gref 2 v' n 5, .fn (.func 132) [] [.ptr 1 0, .ptr 0 0]]) (hpDfG fr v' cs) b (fnKS prog f131 Kr)=(v'=v'∧∃(xs0:List (List Dv)),cs=flatA xs0∧Zaa xs0=n∧(∀(r:List Dv),r∈xs0→Zaa r=5)∧∃(l1:List GraT) (fr2:Int) (q3:Int), [Zad (Zaj 5 xs0),Zav (Fn.func 132) [] [Zah [Zcw (Fn.func 96) [Zdo [i64 fr]]],Zah [Zcw (Fn.func 95) []]]]= [Zad (Zaj 5 (rowsG l1)),Zav (Fn.func 132) [] [Zah [Zcw (Fn.func 96) [Zdo [i64 fr2]]],Zah [Zcw (Fn.func 95) []]]]∧(Zaa l1≤9223372036854775807∧q3=idxS (fun (x4:GraT)=>decide (Zel x4<fr2)) l1)∧BIf (q3==(-1:Int)) (Kr (Zbh 2 v' n 5) [bk [Zav (Fn.func 95) [] []],bk [Zav (Fn.func 96) [] [Zah [i64 fr]]],Blk.mk cs false true v'] b) (∃(v5:Nat) (fr6:Int) (i7:Int) (j8:Int) (hs9:List GraT) (out10:List GraT),Zaq lpDfG=Zaq lpDfG∧(Zbh 2 v' n 5::Zav (Fn.func 132) [] [Zae 1 0,Zae 0 0]::bds 3 (Zad (i64 q3)::Zad (i64 (Zac .i64 (q3+1)))::bds 35 []))=(Zbh 2 v5 (Zaa hs9) 5::Zav (Fn.func 132) [] [Zae 1 0,Zae 0 0]::bds 3 (Qz61 i7 j8))∧ [bk [Zav (Fn.func 95) [] []],bk [Zav (Fn.func 96) [] [Zah [i64 fr]]],Blk.mk cs false true v']= [bk [Zav (Fn.func 95) [] []],bk [Zav (Fn.func 96) [] [Zah [i64 fr6]]],Blk.mk (flatA (rowsG hs9)) false true v5]∧(Zaa hs9<1000000∧(0:Int)≤i7∧i7=idxS (fun (x11:GraT)=>decide (Zel x11<fr6)) hs9∧j8=Zac .i64 (i7+1)∧out10=Zcf (fun (x12:GraT)=> !decide (Zel x12<fr6)) hs9)∧∀(cur:List GraT),Zaa cur=Zaa hs9→Zbq (Zaa out10) cur=out10→v5=v5∧BIf (true&&decide (((Zaa out10:Nat):Int)≤((Zaa hs9:Nat):Int))) (BIf (true&&decide (((Zaa out10:Nat):Int)≤((Zaa hs9:Nat):Int))) (v5=v5∧Kr (Zbh 2 (v5+1) (Zak ((Zaa out10:Nat):Int)) 5) [bk [Zav (Fn.func 95) [] []],bk [Zav (Fn.func 96) [] [Zah [i64 fr6]]],Blk.mk (Zbq (Zak ((Zaa out10:Nat):Int)*5) (Zbq (Zak ((Zaa out10:Nat):Int)*5) (flatA (rowsG cur))++flatA (Zam (Zaa hs9 - Zak ((Zaa out10:Nat):Int)) [i64 0,i64 0,i64 0,i64 0,i64 0]))) false true (v5+1)] b) False) False)):=by kernel_rfl
theorem BXs9 (fr:Int):wpc prog ⟨TDfG,UDfG,wlDfG y,y,false⟩ 100 (code f131) (ACf9 f131 [.d (.sl 5 []), .fn (.func 132) [] [.ptr 1 0, .ptr 0 0]]) [boxA (.fn (.func 95) [] []),boxA (.fn (.func 96) [] [.rptr [i64 fr]])] b (fnKS prog f131 Kr)=(∃(l0:List GraT) (fr1:Int) (q2:Int), [Zad (Zaj 5 []),Zav (Fn.func 132) [] [Zah [Zcw (Fn.func 96) [Zdo [i64 fr]]],Zah [Zcw (Fn.func 95) []]]]= [Zad (Zaj 5 (rowsG l0)),Zav (Fn.func 132) [] [Zah [Zcw (Fn.func 96) [Zdo [i64 fr1]]],Zah [Zcw (Fn.func 95) []]]]∧(Zaa l0≤9223372036854775807∧q2=idxS (fun (x3:GraT)=>decide (Zel x3<fr1)) l0)∧BIf (q2==(-1:Int)) (Kr (Zad (Zaj 5 [])) [bk [Zav (Fn.func 95) [] []],bk [Zav (Fn.func 96) [] [Zah [i64 fr]]]] b) (∃(v4:Nat) (fr5:Int) (i6:Int) (j7:Int) (hs8:List GraT) (out9:List GraT),Zaq lpDfG=Zaq lpDfG∧(Zad (Zaj 5 [])::Zav (Fn.func 132) [] [Zae 1 0,Zae 0 0]::bds 3 (Zad (i64 q2)::Zad (i64 (Zac .i64 (q2+1)))::bds 35 []))=(Zbh 2 v4 (Zaa hs8) 5::Zav (Fn.func 132) [] [Zae 1 0,Zae 0 0]::bds 3 (Qz61 i6 j7))∧ [bk [Zav (Fn.func 95) [] []],bk [Zav (Fn.func 96) [] [Zah [i64 fr]]]]= [bk [Zav (Fn.func 95) [] []],bk [Zav (Fn.func 96) [] [Zah [i64 fr5]]],Blk.mk (flatA (rowsG hs8)) false true v4]∧(Zaa hs8<1000000∧(0:Int)≤i6∧i6=idxS (fun (x10:GraT)=>decide (Zel x10<fr5)) hs8∧j7=Zac .i64 (i6+1)∧out9=Zcf (fun (x11:GraT)=> !decide (Zel x11<fr5)) hs8)∧∀(cur:List GraT),Zaa cur=Zaa hs8→Zbq (Zaa out9) cur=out9→v4=v4∧BIf (true&&decide (((Zaa out9:Nat):Int)≤((Zaa hs8:Nat):Int))) (BIf (true&&decide (((Zaa out9:Nat):Int)≤((Zaa hs8:Nat):Int))) (v4=v4∧Kr (Zbh 2 (v4+1) (Zak ((Zaa out9:Nat):Int)) 5) [bk [Zav (Fn.func 95) [] []],bk [Zav (Fn.func 96) [] [Zah [i64 fr5]]],Blk.mk (Zbq (Zak ((Zaa out9:Nat):Int)*5) (Zbq (Zak ((Zaa out9:Nat):Int)*5) (flatA (rowsG cur))++flatA (Zam (Zaa hs8 - Zak ((Zaa out9:Nat):Int)) [i64 0,i64 0,i64 0,i64 0,i64 0]))) false true (v4+1)] b) False) False)):=by kernel_rfl
def GCA:SCT:= [(1000000+63,fun _ _ _=>False)]
theorem AWe9:AAl9 prog GCA:=Zbt (fun _ _ _ h=>h.elim) Zar
theorem BOm9 (xs:List (List Dv)):wpFnS prog ⟨[],GCA,wl,y,false⟩ 100 f97 [.d (.sl 3 xs)] b Kr=(∀(t:Bool),(t=true→xs= [])→BIf t (Kr (Zad (Zdk (.slice none 0 0))) [] b) (BIf (true&&decide (Zaa xs*24≤140737488355328)) (BIf (decide (0<Zaa xs)) (Kr (Zbh 0 0 (Zaa xs) 3) [Blk.mk (flatA xs) false true 0] b) (Kr (AV.full 3 []) [] b)) False)):=by kernel_rfl
theorem BHb9:ATo9 prog 97 3:=fun xs hl=>by
 refine Zgg (n:=100) (u:=false) (fun _=>fun _ _ _ _ _=>False) mixed Zai AWe9 (fun Ev _ _ _ _ _ h=>h.elim) func97 (by rfl) (by rfl) (by split<;>rfl) fun Ev bb=> ?_;rw [BOm9];refine fun t ht=>Zax (fun h=>by rw [ht h];exact ⟨.nilFull rfl,rfl⟩) fun h=>Zas (by simp<;>omega) ?_;cases xs with
 |nil=>exact Zci rfl ⟨.rfl,rfl⟩
 |cons a xs=>exact Zas (by simp) ⟨.rfl,rfl⟩
theorem AMy9 (x:AskT):(askR x).length=3:=rfl
theorem ANu9 (l:List AskT):∀r∈rowsA l,r.length=3:=by
 intro r hr;simp only [rowsA,Zbf] at hr;obtain ⟨x,_,rfl⟩:=hr;rfl
def BSj9:CF:=fun args K=>∃l:List AskT,args= [.d (.sl 3 (rowsA l))]∧l.length≤1000000∧K (.d (.sl 3 (rowsA l)))
theorem BJo9:COk 97 BSj9:=by
 rintro _ K ⟨l,rfl,hl,hk⟩;exact ⟨_,ATo9.pc BHb9 (rowsA l) (by rw [AAi9];exact hl) (ANu9 l),hk⟩
def BQx9 (args:List AV) (hp:List Blk) (K:AV→List Blk→Prop):Prop:=∃(hs:List AskT),args= [.d (.sl 3 (rowsA hs))]∧hs.length≤1000000∧BIf hs.isEmpty (K (.d (.sl 3 [])) hp) (K (.gref hp.length 0 hs.length 3) (hp++ [growB 0 (flatA (rowsA hs))]))
theorem BEq9:∀args hp K,BQx9 args hp K→∃x hp',SCall prog 97 args hp x hp'∧K x hp':=by
 rintro _ hp K ⟨hs,rfl,hl,hK⟩;have h1:=(BHb9 (rowsA hs) (by rw [AAi9];omega)).toS rfl hp;cases hs with
 |nil=>exact ⟨_,_,SCall.toSl h1,by simpa [rowsA,AGg9,BIf] using hK⟩
 | cons a r=>
  refine ⟨_,_,h1, ?_⟩;simpa [rowsA,shift,AGg9,ARa9,blkG,AHr9,BIf,growB] using hK
noncomputable def lpDfA:Code:=sub [1,1,1,0,1,2,3] (code f147)
def tmDfA (v n:Nat) (i j:Int):List AV:= [.gref 2 v n 3, .fn (.func 148) [] [.ptr 1 0, .ptr 0 0], .bad, .bad, .bad, .d (i64 i), .d (i64 j)]++Zam 35 .bad
def UDrA:SCT:= [(1000000+63,fun _ _ _=>False),(148,lendC BJu9)]
theorem CHe9:AAl9 prog UDrA:=Zbt (fun _ _ _ h=>h.elim) (Zbt (AFr9 ATi9) Zar)
def hpDfA (sl:Int) (v':Nat) (cs:List AV):List Blk:= [boxA (.fn (.func 118) [] []),boxA (.fn (.func 138) [] [.rptr [i64 sl]]),growB v' cs]
theorem rDfA (v' n:Nat) (i j sl:Int) (cs:List AV):wpc prog ⟨[],UDrA,wl,y,false⟩ 100 lpDfA (tmDfA v' n i j) (hpDfA sl v' cs) b (maskK 3 [0,1,5,6] K)=(v'=v'∧BIf (decide (j<(n:Int))) (v'=v'∧BIf (decide (0≤j)&&decide (j<(n:Int))) (v'=v'∧∃(x0:Int) (x1:Int) (x2:Int),Zbq 3 (Zcg (Zak j*3) cs)=(Qz22 x0 x1 x2)∧∃(x3:AskT) (sl4:Int) (q5:Bool), [Zan (Qz22 x0 x1 x2),Zah [Zcw (Fn.func 138) [Zdo [i64 sl]]],Zah [Zcw (Fn.func 118) []]]= [Zan (Qz11 x3),Zah [Zcw (Fn.func 138) [Zdo [i64 sl4]]],Zah [Zcw (Fn.func 118) []]]∧q5=(Zde x3==sl4)∧BIf (!q5) (v'=v'∧BIf (decide (0≤i)&&decide (i<(n:Int))) (v'=v'∧BIf (decide (Zak i*3+3≤Zaa cs)) (BIf (Zbl [bk [Zav (Fn.func 118) [] []],bk [Zav (Fn.func 138) [] [Zah [i64 sl]]],Blk.mk (Zbq (Zak i*3) cs++(Qz22 x0 x1 x2)++Zcg (Zak i*3+3) cs) false true v'] fun (blk6:Blk)=>lows 3 blk6.1) (K .normal (Zbh 2 v' n 3::Zav (Fn.func 148) [] [Zae 1 0,Zae 0 0]::bds 3 (Zad (i64 (Zac .i64 (i+1)))::Zad (i64 (Zac .i64 (j+1)))::bds 35 [])) [bk [Zav (Fn.func 118) [] []],bk [Zav (Fn.func 138) [] [Zah [i64 sl]]],Blk.mk (Zbq (Zak i*3) cs++(Qz22 x0 x1 x2)++Zcg (Zak i*3+3) cs) false true v'] b) False) False) False) (BIf (Zbl [bk [Zav (Fn.func 118) [] []],bk [Zav (Fn.func 138) [] [Zah [i64 sl]]],Blk.mk cs false true v'] fun (blk7:Blk)=>lows 3 blk7.1) (K .normal (Zbh 2 v' n 3::Zav (Fn.func 148) [] [Zae 1 0,Zae 0 0]::bds 3 (Zad (i64 i)::Zad (i64 (Zac .i64 (j+1)))::bds 35 [])) [bk [Zav (Fn.func 118) [] []],bk [Zav (Fn.func 138) [] [Zah [i64 sl]]],Blk.mk cs false true v'] b) False)) False) (BIf (Zbl [bk [Zav (Fn.func 118) [] []],bk [Zav (Fn.func 138) [] [Zah [i64 sl]]],Blk.mk cs false true v'] fun (blk8:Blk)=>lows 3 blk8.1) (K (Zba 0) (Zbh 2 v' n 3::Zav (Fn.func 148) [] [Zae 1 0,Zae 0 0]::bds 3 (Qz61 i j)) [bk [Zav (Fn.func 118) [] []],bk [Zav (Fn.func 138) [] [Zah [i64 sl]]],Blk.mk cs false true v'] b) False)):=by kernel_rfl
theorem BHl9 (sl:Int) (v':Nat) (hs:List AskT):Zbl (hpDfA sl v' (flatA (rowsA hs))) (fun blk=>lows 3 blk.1)=true:=by
 simp only [hpDfA,List.all_cons,List.all_nil,Bool.and_true,Zal];exact ⟨rfl,rfl,ACx9 3 _⟩
theorem wrDfA (v':Nat) (sl:Int) (hs:List AskT) (hl:hs.length<1000000)
 (hQ:∀cur:List AskT,cur.length=hs.length→cur.take (hs.filter fun x=> !(fun x:AskT=>x.sl==sl) x).length=(hs.filter fun x=> !(fun x:AskT=>x.sl==sl) x)→Q (.exit 0) ⟨tmDfA v' hs.length ((hs.filter fun x=> !(fun x:AskT=>x.sl==sl) x).length:Nat) hs.length,hpDfA sl v' (flatA (rowsA cur)),b0⟩)
 (j:Nat) (hj:hs.findIdx? (fun x:AskT=>x.sl==sl)=some j):WR Ev lpDfA ((hs.drop (j+1)).length+1) ⟨tmDfA v' hs.length (j:Nat) ((j+1:Nat):Int),hpDfA sl v' (flatA (rowsA hs)),b0⟩ Q:=by
 obtain ⟨hj1,hj2⟩:=AFx9 hj;refine WR.delL (X:=⟨[],UDrA,wlW Ev,Ev.Y,false⟩) (k:=100) (L:=3) [0,1,5,6] mixed (CX.Ok.of Zai CHe9) hs (fun x:AskT=>x.sl==sl) (fun i j=>tmDfA v' hs.length (i:Nat) (j:Nat)) (fun c=>hpDfA sl v' (flatA (rowsA c))) (fun _=>rfl) 0 (fun i j cur x hx hi hj hcl K k1 k2=> ?_) (fun i cur K hcl k1=> ?_) hQ (hs.drop (j+1)) (j+1) j hs rfl hj1 (by omega) rfl hj2 rfl
 ·refine Eq.mpr (rDfA _ _ _ K v' hs.length i j sl _) ?_;refine ⟨rfl,Zas (by simp;omega) ⟨rfl,Zas (by simp;omega) ⟨rfl,_,_,_,by rw [Zcv];exact fl_at AMy9 hx,x,sl,_,rfl,rfl,Zax (fun h1=> ?_) fun h1=> ?_⟩⟩⟩
  ·rw [Zcb] at h1;have hk2:=k2 h1;have e:=BXd9 AMy9 (hs:=cur) (i:=i) (by omega) x;refine ⟨rfl,Zas (by simp;omega) ⟨rfl,Zas (by rw [Zcv];have:=BAr9 AMy9 cur;rw [show flatA (rowsA cur)=flatA (cur.map askR) from rfl,this];simp;omega) ?_⟩⟩;rw [Zcv,wrapN (by omega),wrapN (by omega)];have hlow:=BHl9 sl v' (cur.set i x);simp only [hpDfA,rowsA] at hk2 hlow;rw [←e] at hk2 hlow;exact Zas hlow hk2
  ·rw [Zcx] at h1;rw [wrapN (by omega)];exact Zas (BHl9 sl v' cur) (k1 h1)
 ·refine Eq.mpr (rDfA _ _ _ K v' hs.length i hs.length sl _) ?_;exact ⟨rfl,Zci (by simp) (Zas (BHl9 sl v' cur) k1)⟩
def CCd9 {β:Type}:WLT β:=fun c tm hp b K=>∃(v':Nat) (sl i j:Int) (hs out:List AskT),c= .loop lpDfA∧AAn9 [0,1,5,6] 0 tm=tmDfA v' hs.length i j∧hp=hpDfA sl v' (flatA (rowsA hs))∧(hs.length<1000000∧0≤i∧i=idxS (fun x:AskT=>x.sl==sl) hs∧j=Zac Zbb (i+1)∧out=hs.filter fun x=> !(fun x:AskT=>x.sl==sl) x)∧
 ∀(cur:List AskT),cur.length=hs.length→cur.take out.length=out→K (.exit 0) (tmDfA v' hs.length (out.length:Nat) hs.length) (hpDfA sl v' (flatA (rowsA cur))) b
theorem BLw9:WlOk Ev CCd9:=by
 rintro c tm hp b K ⟨v',sl,i,j,hs,_,rfl,htm,rfl,⟨hl,h0,hi,rfl,rfl⟩,hK⟩;cases hf:hs.findIdx? (fun x:AskT=>x.sl==sl) with
 |none=>rw [AAq9 hf] at hi;omega
 | some j0=>
  rw [AAj9 hf] at hi;subst hi;have hj1:=(AFx9 hf).1;rw [wrapN (by omega)] at htm;refine W.cast (htm▸AAc9 _ tm 0) (Zbg _) ?_;exact W.rounds (wrDfA (Q:=fun e s=>K e s.tm s.hp s.b) v' sl hs hl hK j0 hf)
def TDfA:CT:= [(4000011,cNone)]
theorem BTf9:AAb9 prog TDfA:=Zag (ABw9 _) Zai
def UDfA:SCT:= [(1000000+63,fun _ _ _=>False),(90,lendC BIw9)]
theorem BTd9:AAl9 prog UDfA:=Zbt (fun _ _ _ h=>h.elim) (Zbt (AFr9 BBl9) Zar)
def wlDfA {β:Type} (y:ADo9 β):WLT β:=wlZ prog ⟨TDfA,UDfA,fun _ _ _ _ _=>False,y,false⟩ CCd9
theorem CFp9 (v' n:Nat) (sl:Int) (cs:List AV):wpc prog ⟨TDfA,UDfA,wlDfA y,y,false⟩ 100 (code f147) (ACf9 f147 [.gref 2 v' n 3, .fn (.func 148) [] [.ptr 1 0, .ptr 0 0]]) (hpDfA sl v' cs) b (fnKS prog f147 Kr)=(v'=v'∧∃(xs0:List (List Dv)),cs=flatA xs0∧Zaa xs0=n∧(∀(r:List Dv),r∈xs0→Zaa r=3)∧∃(l1:List AskT) (sl2:Int) (q3:Int), [Zad (Zaj 3 xs0),Zav (Fn.func 148) [] [Zah [Zcw (Fn.func 138) [Zdo [i64 sl]]],Zah [Zcw (Fn.func 118) []]]]= [Zad (Zaj 3 (rowsA l1)),Zav (Fn.func 148) [] [Zah [Zcw (Fn.func 138) [Zdo [i64 sl2]]],Zah [Zcw (Fn.func 118) []]]]∧(Zaa l1≤9223372036854775807∧q3=idxS (fun (x4:AskT)=>Zde x4==sl2) l1)∧BIf (q3==(-1:Int)) (Kr (Zbh 2 v' n 3) [bk [Zav (Fn.func 118) [] []],bk [Zav (Fn.func 138) [] [Zah [i64 sl]]],Blk.mk cs false true v'] b) (∃(v5:Nat) (sl6:Int) (i7:Int) (j8:Int) (hs9:List AskT) (out10:List AskT),Zaq lpDfA=Zaq lpDfA∧(Zbh 2 v' n 3::Zav (Fn.func 148) [] [Zae 1 0,Zae 0 0]::bds 3 (Zad (i64 q3)::Zad (i64 (Zac .i64 (q3+1)))::bds 35 []))=(Zbh 2 v5 (Zaa hs9) 3::Zav (Fn.func 148) [] [Zae 1 0,Zae 0 0]::bds 3 (Qz61 i7 j8))∧ [bk [Zav (Fn.func 118) [] []],bk [Zav (Fn.func 138) [] [Zah [i64 sl]]],Blk.mk cs false true v']= [bk [Zav (Fn.func 118) [] []],bk [Zav (Fn.func 138) [] [Zah [i64 sl6]]],Blk.mk (flatA (rowsA hs9)) false true v5]∧(Zaa hs9<1000000∧(0:Int)≤i7∧i7=idxS (fun (x11:AskT)=>Zde x11==sl6) hs9∧j8=Zac .i64 (i7+1)∧out10=Zcf (fun (x12:AskT)=> !AskT.sl x12==sl6) hs9)∧∀(cur:List AskT),Zaa cur=Zaa hs9→Zbq (Zaa out10) cur=out10→v5=v5∧BIf (true&&decide (((Zaa out10:Nat):Int)≤((Zaa hs9:Nat):Int))) (BIf (true&&decide (((Zaa out10:Nat):Int)≤((Zaa hs9:Nat):Int))) (v5=v5∧Kr (Zbh 2 (v5+1) (Zak ((Zaa out10:Nat):Int)) 3) [bk [Zav (Fn.func 118) [] []],bk [Zav (Fn.func 138) [] [Zah [i64 sl6]]],Blk.mk (Zbq (Zak ((Zaa out10:Nat):Int)*3) (Zbq (Zak ((Zaa out10:Nat):Int)*3) (flatA (rowsA cur))++flatA (Zam (Zaa hs9 - Zak ((Zaa out10:Nat):Int)) [i64 0,i64 0,i64 0]))) false true (v5+1)] b) False) False)):=by kernel_rfl
theorem BXt9 (sl:Int):wpc prog ⟨TDfA,UDfA,wlDfA y,y,false⟩ 100 (code f147) (ACf9 f147 [.d (.sl 3 []), .fn (.func 148) [] [.ptr 1 0, .ptr 0 0]]) [boxA (.fn (.func 118) [] []),boxA (.fn (.func 138) [] [.rptr [i64 sl]])] b (fnKS prog f147 Kr)=(∃(l0:List AskT) (sl1:Int) (q2:Int), [Zad (Zaj 3 []),Zav (Fn.func 148) [] [Zah [Zcw (Fn.func 138) [Zdo [i64 sl]]],Zah [Zcw (Fn.func 118) []]]]= [Zad (Zaj 3 (rowsA l0)),Zav (Fn.func 148) [] [Zah [Zcw (Fn.func 138) [Zdo [i64 sl1]]],Zah [Zcw (Fn.func 118) []]]]∧(Zaa l0≤9223372036854775807∧q2=idxS (fun (x3:AskT)=>Zde x3==sl1) l0)∧BIf (q2==(-1:Int)) (Kr (Zad (Zaj 3 [])) [bk [Zav (Fn.func 118) [] []],bk [Zav (Fn.func 138) [] [Zah [i64 sl]]]] b) (∃(v4:Nat) (sl5:Int) (i6:Int) (j7:Int) (hs8:List AskT) (out9:List AskT),Zaq lpDfA=Zaq lpDfA∧(Zad (Zaj 3 [])::Zav (Fn.func 148) [] [Zae 1 0,Zae 0 0]::bds 3 (Zad (i64 q2)::Zad (i64 (Zac .i64 (q2+1)))::bds 35 []))=(Zbh 2 v4 (Zaa hs8) 3::Zav (Fn.func 148) [] [Zae 1 0,Zae 0 0]::bds 3 (Qz61 i6 j7))∧ [bk [Zav (Fn.func 118) [] []],bk [Zav (Fn.func 138) [] [Zah [i64 sl]]]]= [bk [Zav (Fn.func 118) [] []],bk [Zav (Fn.func 138) [] [Zah [i64 sl5]]],Blk.mk (flatA (rowsA hs8)) false true v4]∧(Zaa hs8<1000000∧(0:Int)≤i6∧i6=idxS (fun (x10:AskT)=>Zde x10==sl5) hs8∧j7=Zac .i64 (i6+1)∧out9=Zcf (fun (x11:AskT)=> !AskT.sl x11==sl5) hs8)∧∀(cur:List AskT),Zaa cur=Zaa hs8→Zbq (Zaa out9) cur=out9→v4=v4∧BIf (true&&decide (((Zaa out9:Nat):Int)≤((Zaa hs8:Nat):Int))) (BIf (true&&decide (((Zaa out9:Nat):Int)≤((Zaa hs8:Nat):Int))) (v4=v4∧Kr (Zbh 2 (v4+1) (Zak ((Zaa out9:Nat):Int)) 3) [bk [Zav (Fn.func 118) [] []],bk [Zav (Fn.func 138) [] [Zah [i64 sl5]]],Blk.mk (Zbq (Zak ((Zaa out9:Nat):Int)*3) (Zbq (Zak ((Zaa out9:Nat):Int)*3) (flatA (rowsA cur))++flatA (Zam (Zaa hs8 - Zak ((Zaa out9:Nat):Int)) [i64 0,i64 0,i64 0]))) false true (v4+1)] b) False) False)):=by kernel_rfl
def GCU:SCT:= [(1000000+61,fun _ _ _=>False)]
theorem CAa9:AAl9 prog GCU:=Zbt (fun _ _ _ h=>h.elim) Zar
theorem BOk9 (xs:List (List Dv)):wpFnS prog ⟨[],GCU,wl,y,false⟩ 100 f93 [.d (.sl 4 xs)] b Kr=(∀(t:Bool),(t=true→xs= [])→BIf t (Kr (Zad (Zdk (.slice none 0 0))) [] b) (BIf (true&&decide (Zaa xs*32≤140737488355328)) (BIf (decide (0<Zaa xs)) (Kr (Zbh 0 0 (Zaa xs) 4) [Blk.mk (flatA xs) false true 0] b) (Kr (AV.full 4 []) [] b)) False)):=by kernel_rfl
theorem BXh9:ATo9 prog 93 4:=fun xs hl=>by
 refine Zgg (n:=100) (u:=false) (fun _=>fun _ _ _ _ _=>False) mixed Zai CAa9 (fun Ev _ _ _ _ _ h=>h.elim) func93 (by rfl) (by rfl) (by split<;>rfl) fun Ev bb=> ?_;rw [BOk9];refine fun t ht=>Zax (fun h=>by rw [ht h];exact ⟨.nilFull rfl,rfl⟩) fun h=>Zas (by simp<;>omega) ?_;cases xs with
 |nil=>exact Zci rfl ⟨.rfl,rfl⟩
 |cons a xs=>exact Zas (by simp) ⟨.rfl,rfl⟩
theorem BQy9 (l:List UseT):∀r∈rowsU l,r.length=4:=by
 intro r hr;simp only [rowsU,Zbf] at hr;obtain ⟨x,_,rfl⟩:=hr;rfl
def BJm9:CF:=fun args K=>∃l:List UseT,args= [.d (.sl 4 (rowsU l))]∧l.length≤1000000∧K (.d (.sl 4 (rowsU l)))
theorem ATg9:COk 93 BJm9:=by
 rintro _ K ⟨l,rfl,hl,hk⟩;exact ⟨_,ATo9.pc BXh9 (rowsU l) (by rw [AAe9];exact hl) (BQy9 l),hk⟩
theorem AXq9:Tryz.f131.body=some (code f131):=by rfl
def delVG (v':Nat) (fr:Int) (hs:List GraT):Nat:=if (hs.findIdx? (fun x:GraT=>decide (x.un<fr))).isSome then v'+1 else v'
theorem CFo9 (Ev:Env prog):CX.Ok Ev ⟨TDfG,UDfG,wlDfG Ev.Y,Ev.Y,false⟩:=
 CX.Ok.ofWl BTe9 BTc9 (CAu9 (X:=⟨TDfG,UDfG,fun _ _ _ _ _=>False,Ev.Y,false⟩) (CX.Ok.ofWl BTe9 BTc9 fun _ _ _ _ _ h=>h.elim) BLv9)
theorem CCv9 (fr:Int):SCall prog 131 [.d (.sl 5 []), .fn (.func 132) [] [.ptr 1 0, .ptr 0 0]] [boxA (.fn (.func 95) [] []),boxA (.fn (.func 96) [] [.rptr [i64 fr]])] (.d (.sl 5 [])) [boxA (.fn (.func 95) [] []),boxA (.fn (.func 96) [] [.rptr [i64 fr]])]:=by
 refine Zgd func131 AXq9 (by rfl) fun Ev b=> ?_;refine AAy9 (X:=⟨TDfG,UDfG,wlDfG Ev.Y,Ev.Y,false⟩) (n:=100) mixed (CFo9 Ev) ?_ fun e tm hp b hK=>AFa9 hK;rw [BXs9];exact ⟨[],fr, -1,rfl,⟨by simp,rfl⟩,Zas (by decide) ⟨rfl,rfl⟩⟩
theorem CIp9 (v':Nat) (fr:Int) (hs:List GraT) (hl:hs.length<1000000):
 SCall prog 131 [.gref 2 v' hs.length 5, .fn (.func 132) [] [.ptr 1 0, .ptr 0 0]] (hpDfG fr v' (flatA (rowsG hs))) (.gref 2 (delVG v' fr hs) (hs.filter (fun x:GraT=> !(fun x:GraT=>decide (x.un<fr)) x)).length 5) (hpDfG fr (delVG v' fr hs) (flatA (rowsG (hs.filter (fun x:GraT=> !(fun x:GraT=>decide (x.un<fr)) x))))):=by
 refine Zgd func131 AXq9 (by rfl) fun Ev b=> ?_;refine AAy9 (X:=⟨TDfG,UDfG,wlDfG Ev.Y,Ev.Y,false⟩) (n:=100) mixed (CFo9 Ev) ?_ fun e tm hp b hK=>AFa9 hK;refine Eq.mpr (CFn9 _ _ _ v' hs.length fr _) ?_;refine ⟨rfl,rowsG hs,rfl,AAd9 hs,ARg9 hs,hs,fr,_,rfl,⟨by omega,rfl⟩,Zax (fun h1=> ?_) fun h1=> ?_⟩
 ·have hn:hs.findIdx? (fun x:GraT=>decide (x.un<fr))=none:=by
   cases hf:hs.findIdx? (fun x:GraT=>decide (x.un<fr)) with
   |none=>rfl
   |some j=>rw [AAj9 hf] at h1;simp at h1
  rw [delVG,hn,BGx9 hn];exact ⟨rfl,rfl⟩
 ·cases hf:hs.findIdx? (fun x:GraT=>decide (x.un<fr)) with
  |none=>rw [AAq9 hf] at h1;simp at h1
  | some j=>
   have hle:(hs.filter (fun x:GraT=> !(fun x:GraT=>decide (x.un<fr)) x)).length≤hs.length:=Zcd _ _;refine ⟨v',fr,_,_,hs,_,rfl,rfl,rfl,⟨hl,by rw [AAj9 hf];omega,rfl,rfl,rfl⟩,fun cur hcl hct=>⟨rfl,Zas (by simp;exact hle) (Zas (by simp;exact hle) ⟨rfl, ?_⟩)⟩⟩;rw [Zcv,delVG,hf];refine ⟨rfl, ?_⟩;have hcur:flatA (rowsG cur)=flatA (cur.map graR):=rfl;have e:((flatA (rowsG cur)).take ((hs.filter (fun x:GraT=> !(fun x:GraT=>decide (x.un<fr)) x)).length*5)).length=(hs.filter (fun x:GraT=> !(fun x:GraT=>decide (x.un<fr)) x)).length*5:=by
    rw [Zcj,hcur,BAr9 AFv9,hcl];omega
   rw [Zek (by rw [e];exact Zat _),List.take_take,Nat.min_self,hcur,ASt9 AFv9,hct];rfl
def sDelG (args:List AV) (hp:List Blk) (K:AV→List Blk→Prop):Prop:=match hp with
 | [b0,b1]=>∃(fr:Int),args= [.d (.sl 5 []), .fn (.func 132) [] [.ptr 1 0, .ptr 0 0]]∧b0=boxA (.fn (.func 95) [] [])∧b1=boxA (.fn (.func 96) [] [.rptr [i64 fr]])∧K (.d (.sl 5 [])) [boxA (.fn (.func 95) [] []),boxA (.fn (.func 96) [] [.rptr [i64 fr]])]
 | [b0,b1,b2]=>∃(v' n:Nat) (fr:Int) (hs out:List GraT),args= [.gref 2 v' n 5, .fn (.func 132) [] [.ptr 1 0, .ptr 0 0]]∧b0=boxA (.fn (.func 95) [] [])∧b1=boxA (.fn (.func 96) [] [.rptr [i64 fr]])∧b2=growB v' (flatA (rowsG hs))∧(n=hs.length∧hs.length<1000000∧out=hs.filter (fun x:GraT=> !(fun x:GraT=>decide (x.un<fr)) x))∧
  ∀v',K (.gref 2 v' out.length 5) [boxA (.fn (.func 95) [] []),boxA (.fn (.func 96) [] [.rptr [i64 fr]]),growB v' (flatA (rowsG out))]
 |_=>False
theorem BVl9:∀args hp K,sDelG args hp K→∃x hp',SCall prog 131 args hp x hp'∧K x hp':=by
 intro args hp K h;unfold sDelG at h;split at h
 ·obtain ⟨fr,rfl,rfl,rfl,h⟩:=h;exact ⟨_,_,CCv9 fr,h⟩
 ·obtain ⟨v',_,fr,hs,_,rfl,rfl,rfl,rfl,⟨rfl,hl,rfl⟩,h⟩:=h;exact ⟨_,_,CIp9 v' fr hs hl,h _⟩
 ·exact h.elim
def UWoG:SCT:= [(1000000+59,fun _ _ _=>False),(48,BEp9),(131,sDelG)]
theorem CGz9:AAl9 prog UWoG:=Zbt (fun _ _ _ h=>h.elim) (Zbt ARe9 (Zbt BVl9 Zar))
theorem CIk9 (hs:List GraT) (fr:Int):wpFn prog ⟨[],UWoG,wl,y,false⟩ 100 f94 [.d (.sl 5 (rowsG hs)), .fn (.func 95) [] [], .fn (.func 96) [] [.rptr [i64 fr]]] b R=(∃(hs0:List GraT), [Zad (Zaj 5 (rowsG hs))]= [Zad (Zaj 5 (rowsG hs0))]∧Zaa hs0≤1000000∧BIf (List.isEmpty hs0) (∃(fr1:Int), [Zad (Zaj 5 []),Zav (Fn.func 132) [] [Zae 1 0,Zae 0 0]]= [Zad (Zaj 5 []),Zav (Fn.func 132) [] [Zae 1 0,Zae 0 0]]∧bk [Zav (Fn.func 95) [] []]=bk [Zav (Fn.func 95) [] []]∧bk [Zav (Fn.func 96) [] [Zah [i64 fr]]]=bk [Zav (Fn.func 96) [] [Zah [i64 fr1]]]∧R (.d (Zaj 5 [])) b) (∃(v2:Nat) (n3:Nat) (fr4:Int) (hs5:List GraT) (out6:List GraT), [Zbh 2 0 (Zaa hs0) 5,Zav (Fn.func 132) [] [Zae 1 0,Zae 0 0]]= [Zbh 2 v2 n3 5,Zav (Fn.func 132) [] [Zae 1 0,Zae 0 0]]∧bk [Zav (Fn.func 95) [] []]=bk [Zav (Fn.func 95) [] []]∧bk [Zav (Fn.func 96) [] [Zah [i64 fr]]]=bk [Zav (Fn.func 96) [] [Zah [i64 fr4]]]∧Blk.mk (flatA (rowsG hs0)) false true 0=Blk.mk (flatA (rowsG hs5)) false true v2∧(n3=Zaa hs5∧Zaa hs5<1000000∧out6=Zcf (fun (x7:GraT)=> !decide (Zel x7<fr4)) hs5)∧∀(v':Nat),v'=v'∧∃(xs8:List (List Dv)),flatA (rowsG out6)=flatA xs8∧Zaa xs8=Zaa out6∧(∀(r:List Dv),r∈xs8→Zaa r=5)∧R (.d (Zaj 5 xs8)) b)):=by kernel_rfl
def cWoG:CF:=fun args K=>∃(hs z:List GraT) (fr:Int),args= [.d (.sl 5 (rowsG hs)), .fn (.func 95) [] [], .fn (.func 96) [] [.rptr [i64 fr]]]∧(hs.length<1000000∧z=hs.filter (fun x:GraT=> !(fun x:GraT=>decide (x.un<fr)) x))∧K (.d (.sl 5 (rowsG z)))
theorem CFt9:COk 94 cWoG:=by
 rintro _ K ⟨hs,_,fr,rfl,⟨hl,rfl⟩,hk⟩;refine ⟨_, ?_,hk⟩;refine Zfw (n:=100) (u:=false) mixed Zai CGz9 func94 (by rfl) (by rfl) fun Ev bb=> ?_;rw [CIk9];refine ⟨hs,rfl,by omega,Zax (fun h1=> ?_) fun h1=> ?_⟩
 ·have h2:hs= []:=List.isEmpty_iff.1 h1;subst h2;exact ⟨fr,rfl,rfl,rfl,rfl⟩
 ·refine ⟨0,_,fr,hs,_,rfl,rfl,rfl,rfl,⟨rfl,hl,rfl⟩,fun v'=>⟨rfl,rowsG (hs.filter (fun x:GraT=> !(fun x:GraT=>decide (x.un<fr)) x)),rfl,AAd9 _,ARg9 _,rfl⟩⟩
theorem AXr9:Tryz.f147.body=some (code f147):=by rfl
def delVA (v':Nat) (sl:Int) (hs:List AskT):Nat:=if (hs.findIdx? (fun x:AskT=>x.sl==sl)).isSome then v'+1 else v'
theorem CFq9 (Ev:Env prog):CX.Ok Ev ⟨TDfA,UDfA,wlDfA Ev.Y,Ev.Y,false⟩:=
 CX.Ok.ofWl BTf9 BTd9 (CAu9 (X:=⟨TDfA,UDfA,fun _ _ _ _ _=>False,Ev.Y,false⟩) (CX.Ok.ofWl BTf9 BTd9 fun _ _ _ _ _ h=>h.elim) BLw9)
theorem CCw9 (sl:Int):SCall prog 147 [.d (.sl 3 []), .fn (.func 148) [] [.ptr 1 0, .ptr 0 0]] [boxA (.fn (.func 118) [] []),boxA (.fn (.func 138) [] [.rptr [i64 sl]])] (.d (.sl 3 [])) [boxA (.fn (.func 118) [] []),boxA (.fn (.func 138) [] [.rptr [i64 sl]])]:=by
 refine Zgd func147 AXr9 (by rfl) fun Ev b=> ?_;refine AAy9 (X:=⟨TDfA,UDfA,wlDfA Ev.Y,Ev.Y,false⟩) (n:=100) mixed (CFq9 Ev) ?_ fun e tm hp b hK=>AFa9 hK;rw [BXt9];exact ⟨[],sl, -1,rfl,⟨by simp,rfl⟩,Zas (by decide) ⟨rfl,rfl⟩⟩
theorem CIq9 (v':Nat) (sl:Int) (hs:List AskT) (hl:hs.length<1000000):
 SCall prog 147 [.gref 2 v' hs.length 3, .fn (.func 148) [] [.ptr 1 0, .ptr 0 0]] (hpDfA sl v' (flatA (rowsA hs))) (.gref 2 (delVA v' sl hs) (hs.filter (fun x:AskT=> !(fun x:AskT=>x.sl==sl) x)).length 3) (hpDfA sl (delVA v' sl hs) (flatA (rowsA (hs.filter (fun x:AskT=> !(fun x:AskT=>x.sl==sl) x))))):=by
 refine Zgd func147 AXr9 (by rfl) fun Ev b=> ?_;refine AAy9 (X:=⟨TDfA,UDfA,wlDfA Ev.Y,Ev.Y,false⟩) (n:=100) mixed (CFq9 Ev) ?_ fun e tm hp b hK=>AFa9 hK;refine Eq.mpr (CFp9 _ _ _ v' hs.length sl _) ?_;refine ⟨rfl,rowsA hs,rfl,AAi9 hs,ANu9 hs,hs,sl,_,rfl,⟨by omega,rfl⟩,Zax (fun h1=> ?_) fun h1=> ?_⟩
 ·have hn:hs.findIdx? (fun x:AskT=>x.sl==sl)=none:=by
   cases hf:hs.findIdx? (fun x:AskT=>x.sl==sl) with
   |none=>rfl
   |some j=>rw [AAj9 hf] at h1;simp at h1
  rw [delVA,hn,BGx9 hn];exact ⟨rfl,rfl⟩
 ·cases hf:hs.findIdx? (fun x:AskT=>x.sl==sl) with
  |none=>rw [AAq9 hf] at h1;simp at h1
  | some j=>
   have hle:(hs.filter (fun x:AskT=> !(fun x:AskT=>x.sl==sl) x)).length≤hs.length:=Zcd _ _;refine ⟨v',sl,_,_,hs,_,rfl,rfl,rfl,⟨hl,by rw [AAj9 hf];omega,rfl,rfl,rfl⟩,fun cur hcl hct=>⟨rfl,Zas (by simp;exact hle) (Zas (by simp;exact hle) ⟨rfl, ?_⟩)⟩⟩;rw [Zcv,delVA,hf];refine ⟨rfl, ?_⟩;have hcur:flatA (rowsA cur)=flatA (cur.map askR):=rfl;have e:((flatA (rowsA cur)).take ((hs.filter (fun x:AskT=> !(fun x:AskT=>x.sl==sl) x)).length*3)).length=(hs.filter (fun x:AskT=> !(fun x:AskT=>x.sl==sl) x)).length*3:=by
    rw [Zcj,hcur,BAr9 AMy9,hcl];omega
   rw [Zek (by rw [e];exact Zat _),List.take_take,Nat.min_self,hcur,ASt9 AMy9,hct];rfl
def sDelA (args:List AV) (hp:List Blk) (K:AV→List Blk→Prop):Prop:=match hp with
 | [b0,b1]=>∃(sl:Int),args= [.d (.sl 3 []), .fn (.func 148) [] [.ptr 1 0, .ptr 0 0]]∧b0=boxA (.fn (.func 118) [] [])∧b1=boxA (.fn (.func 138) [] [.rptr [i64 sl]])∧K (.d (.sl 3 [])) [boxA (.fn (.func 118) [] []),boxA (.fn (.func 138) [] [.rptr [i64 sl]])]
 | [b0,b1,b2]=>∃(v' n:Nat) (sl:Int) (hs out:List AskT),args= [.gref 2 v' n 3, .fn (.func 148) [] [.ptr 1 0, .ptr 0 0]]∧b0=boxA (.fn (.func 118) [] [])∧b1=boxA (.fn (.func 138) [] [.rptr [i64 sl]])∧b2=growB v' (flatA (rowsA hs))∧(n=hs.length∧hs.length<1000000∧out=hs.filter (fun x:AskT=> !(fun x:AskT=>x.sl==sl) x))∧
  ∀v',K (.gref 2 v' out.length 3) [boxA (.fn (.func 118) [] []),boxA (.fn (.func 138) [] [.rptr [i64 sl]]),growB v' (flatA (rowsA out))]
 |_=>False
theorem BVm9:∀args hp K,sDelA args hp K→∃x hp',SCall prog 147 args hp x hp'∧K x hp':=by
 intro args hp K h;unfold sDelA at h;split at h
 ·obtain ⟨sl,rfl,rfl,rfl,h⟩:=h;exact ⟨_,_,CCw9 sl,h⟩
 ·obtain ⟨v',_,sl,hs,_,rfl,rfl,rfl,rfl,⟨rfl,hl,rfl⟩,h⟩:=h;exact ⟨_,_,CIq9 v' sl hs hl,h _⟩
 ·exact h.elim
def UWoA:SCT:= [(1000000+63,fun _ _ _=>False),(97,BQx9),(147,sDelA)]
theorem CHa9:AAl9 prog UWoA:=Zbt (fun _ _ _ h=>h.elim) (Zbt BEq9 (Zbt BVm9 Zar))
theorem CIl9 (hs:List AskT) (sl:Int):wpFn prog ⟨[],UWoA,wl,y,false⟩ 100 f137 [.d (.sl 3 (rowsA hs)), .fn (.func 118) [] [], .fn (.func 138) [] [.rptr [i64 sl]]] b R=(∃(hs0:List AskT), [Zad (Zaj 3 (rowsA hs))]= [Zad (Zaj 3 (rowsA hs0))]∧Zaa hs0≤1000000∧BIf (List.isEmpty hs0) (∃(sl1:Int), [Zad (Zaj 3 []),Zav (Fn.func 148) [] [Zae 1 0,Zae 0 0]]= [Zad (Zaj 3 []),Zav (Fn.func 148) [] [Zae 1 0,Zae 0 0]]∧bk [Zav (Fn.func 118) [] []]=bk [Zav (Fn.func 118) [] []]∧bk [Zav (Fn.func 138) [] [Zah [i64 sl]]]=bk [Zav (Fn.func 138) [] [Zah [i64 sl1]]]∧R (.d (Zaj 3 [])) b) (∃(v2:Nat) (n3:Nat) (sl4:Int) (hs5:List AskT) (out6:List AskT), [Zbh 2 0 (Zaa hs0) 3,Zav (Fn.func 148) [] [Zae 1 0,Zae 0 0]]= [Zbh 2 v2 n3 3,Zav (Fn.func 148) [] [Zae 1 0,Zae 0 0]]∧bk [Zav (Fn.func 118) [] []]=bk [Zav (Fn.func 118) [] []]∧bk [Zav (Fn.func 138) [] [Zah [i64 sl]]]=bk [Zav (Fn.func 138) [] [Zah [i64 sl4]]]∧Blk.mk (flatA (rowsA hs0)) false true 0=Blk.mk (flatA (rowsA hs5)) false true v2∧(n3=Zaa hs5∧Zaa hs5<1000000∧out6=Zcf (fun (x7:AskT)=> !AskT.sl x7==sl4) hs5)∧∀(v':Nat),v'=v'∧∃(xs8:List (List Dv)),flatA (rowsA out6)=flatA xs8∧Zaa xs8=Zaa out6∧(∀(r:List Dv),r∈xs8→Zaa r=3)∧R (.d (Zaj 3 xs8)) b)):=by kernel_rfl
def cWoA:CF:=fun args K=>∃(hs z:List AskT) (sl:Int),args= [.d (.sl 3 (rowsA hs)), .fn (.func 118) [] [], .fn (.func 138) [] [.rptr [i64 sl]]]∧(hs.length<1000000∧z=hs.filter (fun x:AskT=> !(fun x:AskT=>x.sl==sl) x))∧K (.d (.sl 3 (rowsA z)))
theorem CFu9:COk 137 cWoA:=by
 rintro _ K ⟨hs,_,sl,rfl,⟨hl,rfl⟩,hk⟩;refine ⟨_, ?_,hk⟩;refine Zfw (n:=100) (u:=false) mixed Zai CHa9 func137 (by rfl) (by rfl) fun Ev bb=> ?_;rw [CIl9];refine ⟨hs,rfl,by omega,Zax (fun h1=> ?_) fun h1=> ?_⟩
 ·have h2:hs= []:=List.isEmpty_iff.1 h1;subst h2;exact ⟨sl,rfl,rfl,rfl,rfl⟩
 ·refine ⟨0,_,sl,hs,_,rfl,rfl,rfl,rfl,⟨rfl,hl,rfl⟩,fun v'=>⟨rfl,rowsA (hs.filter (fun x:AskT=> !(fun x:AskT=>x.sl==sl) x)),rfl,AAi9 _,ANu9 _,rfl⟩⟩
def TEx:CT:= [(93,BJm9),(97,BSj9),(94,cWoG)]
theorem CKz9:AAb9 prog TEx:=Zag ATg9 (Zag BJo9 (Zag CFt9 Zai))
def TUa:CT:= [(137,cWoA)]
theorem CJw9:AAb9 prog TUa:=Zag CFu9 Zai
abbrev Qz41 (v0:List UseT) (v1:List GraT) (v2:List AskT):List AV:= [Zad (Zaj 4 (rowsU v0)),Zad (Zaj 5 (rowsG v1)),Zad (Zaj 3 (rowsA v2))]
theorem BOg9 (t:TabT) (fr:Int):wpFn prog ⟨TEx, [],wl,y,false⟩ 100 f47 [tabA t, .d (i64 fr)] b R=(∃(l0:List UseT), [Zad (Zaj 4 (rowsU (Zbv t)))]= [Zad (Zaj 4 (rowsU l0))]∧Zaa l0≤1000000∧∃(hs1:List GraT) (z2:List GraT) (fr3:Int), [Zad (Zaj 5 (rowsG (Zbx t))),Zav (Fn.func 95) [] [],Zav (Fn.func 96) [] [Zah [i64 fr]]]= [Zad (Zaj 5 (rowsG hs1)),Zav (Fn.func 95) [] [],Zav (Fn.func 96) [] [Zah [i64 fr3]]]∧(Zaa hs1<1000000∧z2=Zcf (fun (x4:GraT)=> !decide (Zel x4<fr3)) hs1)∧∃(l5:List AskT), [Zad (Zaj 3 (rowsA (Zck t)))]= [Zad (Zaj 3 (rowsA l5))]∧Zaa l5≤1000000∧R (.agg (Qz41 l0 z2 l5)) b):=by kernel_rfl
theorem BEa9 (t:TabT) (sl:Int):wpFn prog ⟨TUa, [],wl,y,false⟩ 100 f105 [tabA t, .d (i64 sl)] b R=(∃(hs0:List AskT) (z1:List AskT) (sl2:Int), [Zad (Zaj 3 (rowsA (Zck t))),Zav (Fn.func 118) [] [],Zav (Fn.func 138) [] [Zah [i64 sl]]]= [Zad (Zaj 3 (rowsA hs0)),Zav (Fn.func 118) [] [],Zav (Fn.func 138) [] [Zah [i64 sl2]]]∧(Zaa hs0<1000000∧z1=Zcf (fun (x3:AskT)=> !AskT.sl x3==sl2) hs0)∧R (.d (Zaj 3 (rowsA z1))) b):=by kernel_rfl
def TabLt (t:TabT):Prop:=t.us.length<1000000∧t.gs.length<1000000∧t.ak.length<1000000
def ABv9 (t:TabT) (fr:Int):TabT:=⟨t.us,t.gs.filter fun x=> !decide (x.un<fr),t.ak⟩
def BSf9:CF:=fun args K=>∃(t z:TabT) (fr:Int),args= [tabA t, .d (i64 fr)]∧(TabLt t∧z=ABv9 t fr)∧K (tabA z)
theorem BJh9:COk 47 BSf9:=by
 rintro _ K ⟨t,_,fr,rfl,⟨h,rfl⟩,hk⟩;refine ⟨_, ?_,hk⟩;refine pcO CKz9 func47 fun Ev bb=> ?_;rw [BOg9];exact ⟨t.us,rfl,by have:=h.1;omega,t.gs,_,fr,rfl,⟨h.2.1,rfl⟩,t.ak,rfl,by have:=h.2.2;omega,rfl⟩
def AJp9 (t:TabT) (sl:Int):List AskT:=t.ak.filter fun x=> !(x.sl==sl)
def BYe9:CF:=fun args K=>∃(t:TabT) (z:List AskT) (sl:Int),args= [tabA t, .d (i64 sl)]∧(TabLt t∧z=AJp9 t sl)∧K (.d (.sl 3 (rowsA z)))
theorem AXu9:COk 105 BYe9:=by
 rintro _ K ⟨t,_,sl,rfl,⟨h,rfl⟩,hk⟩;refine ⟨_, ?_,hk⟩;refine pcO CJw9 func105 fun Ev bb=> ?_;rw [BEa9];exact ⟨t.ak,_,sl,rfl,⟨h.2.2,rfl⟩,rfl⟩
def nilSl:AV:= .d (.s (.slice none 0 0))
theorem BWx9 (n:Int):wpFnS prog ⟨[],GCG,wl,y,false⟩ 100 f146 [nilSl, .d (i64 n)] b Kr=(BIf (decide (n<(0:Int))) False (BIf (decide (Zac .i64 (n - 0)>(0:Int))) (BIf (true&&decide ((0:Int)<Zac .i64 (n - 0))&&decide (Zac .i64 (n - 0)*(40:Int)≤(281474976710656:Int))&&decide (Zac .i64 (n - 0)≤(9223372036854775807:Int))&&true&&true&&true&&true) (0=0∧Kr (Zbh 0 1 0 5) [Blk.mk [] false true 1] b) False) (Kr (Zad (Zdk (.slice none 0 0))) [] b))):=by kernel_rfl
theorem BWw9 (n:Int):wpFnS prog ⟨[],GCU,wl,y,false⟩ 100 f149 [nilSl, .d (i64 n)] b Kr=(BIf (decide (n<(0:Int))) False (BIf (decide (Zac .i64 (n - 0)>(0:Int))) (BIf (true&&decide ((0:Int)<Zac .i64 (n - 0))&&decide (Zac .i64 (n - 0)*(32:Int)≤(281474976710656:Int))&&decide (Zac .i64 (n - 0)≤(9223372036854775807:Int))&&true&&true&&true&&true) (0=0∧Kr (Zbh 0 1 0 4) [Blk.mk [] false true 1] b) False) (Kr (Zad (Zdk (.slice none 0 0))) [] b))):=by kernel_rfl
theorem CFg9 (n:Int) (h0:0<n) (hn:n≤1000000):FCall prog 146 [nilSl, .d (i64 n)] (.gref 0 1 0 5) [growB 1 []]:=by
 refine FCall.ofFnW (n:=100) (u:=false) (fun _=>fun _ _ _ _ _=>False) mixed Zai BCh9 (fun Ev _ _ _ _ _ h=>h.elim) func146 (by rfl) (by rfl) (by rfl) fun Ev bb=> ?_;rw [BWx9];have e:Zac Zbb (n - 0)=n:=by rw [AAw9 (by omega) (by omega)];omega
 rw [e];refine Zci (by simp<;>omega) (Zas (by simp<;>omega) (Zas ?_ ⟨rfl,rfl,rfl⟩));simp only [Bool.and_true,Zec,Zal,decide_eq_true_eq];omega
theorem CFf9 (n:Int) (h0:0<n) (hn:n≤1000000):FCall prog 149 [nilSl, .d (i64 n)] (.gref 0 1 0 4) [growB 1 []]:=by
 refine FCall.ofFnW (n:=100) (u:=false) (fun _=>fun _ _ _ _ _=>False) mixed Zai CAa9 (fun Ev _ _ _ _ _ h=>h.elim) func149 (by rfl) (by rfl) (by rfl) fun Ev bb=> ?_;rw [BWw9];have e:Zac Zbb (n - 0)=n:=by rw [AAw9 (by omega) (by omega)];omega
 rw [e];refine Zci (by simp<;>omega) (Zas (by simp<;>omega) (Zas ?_ ⟨rfl,rfl,rfl⟩));simp only [Bool.and_true,Zec,Zal,decide_eq_true_eq];omega
def CCz9 (args:List AV) (hp:List Blk) (K:AV→List Blk→Prop):Prop:=∃(n:Int),args= [nilSl, .d (i64 n)]∧(0<n∧n≤1000000)∧K (.gref hp.length 1 0 5) (hp++ [growB 1 []])
theorem BMu9:∀args hp K,CCz9 args hp K→∃x hp',SCall prog 146 args hp x hp'∧K x hp':=by
 rintro _ hp K ⟨n,rfl,⟨h0,hn⟩,h⟩;exact ⟨_,_,(CFg9 n h0 hn).toS rfl hp,by simpa [shift,AKp9,AGg9,ARa9,growB] using h⟩
def CCy9 (args:List AV) (hp:List Blk) (K:AV→List Blk→Prop):Prop:=∃(n:Int),args= [nilSl, .d (i64 n)]∧(0<n∧n≤1000000)∧K (.gref hp.length 1 0 4) (hp++ [growB 1 []])
theorem BMt9:∀args hp K,CCy9 args hp K→∃x hp',SCall prog 149 args hp x hp'∧K x hp':=by
 rintro _ hp K ⟨n,rfl,⟨h0,hn⟩,h⟩;exact ⟨_,_,(CFf9 n h0 hn).toS rfl hp,by simpa [shift,AKp9,AGg9,ARa9,growB] using h⟩
def UCoG:SCT:= [(146,CCz9),(1000059,fun _ _ _=>False)]
theorem CHg9:AAl9 prog UCoG:=Zbt BMu9 BCh9
def UCoU:SCT:= [(149,CCy9),(1000061,fun _ _ _=>False)]
theorem CHf9:AAl9 prog UCoU:=Zbt BMt9 CAa9
theorem BXw9 (x z m:List (List Dv)):wpFn prog ⟨[],UCoG,wl,y,true⟩ 1000 f136 [.full 1 [[.sl 5 x], [.sl 5 z], [.sl 5 m]]] b R=(∃(xs0:List (List Dv)),some [Zaj 5 x]=some [Zaj 5 xs0]∧BIf (decide (Zac .i64 ((0:Int)+((Zaa xs0:Nat):Int))<(0:Int))) False (∃(xs1:List (List Dv)),some [Zaj 5 z]=some [Zaj 5 xs1]∧BIf (decide (Zac .i64 (Zac .i64 ((0:Int)+((Zaa xs0:Nat):Int))+((Zaa xs1:Nat):Int))<(0:Int))) False (∃(xs2:List (List Dv)),some [Zaj 5 m]=some [Zaj 5 xs2]∧BIf (decide (Zac .i64 (Zac .i64 (Zac .i64 ((0:Int)+((Zaa xs0:Nat):Int))+((Zaa xs1:Nat):Int))+((Zaa xs2:Nat):Int))<(0:Int))) False (∃(n3:Int), [Zad (Zdk (.slice none 0 0)),Zad (i64 (Zac .i64 (Zac .i64 (Zac .i64 ((0:Int)+((Zaa xs0:Nat):Int))+((Zaa xs1:Nat):Int))+((Zaa xs2:Nat):Int))))]= [Zad (Zdk (.slice none 0 0)),Zad (i64 n3)]∧((0:Int)<n3∧n3≤(1000000:Int))∧∃(xs4:List (List Dv)),some [Zaj 5 x]=some [Zaj 5 xs4]∧1=1∧BIf (decide ((0+Zaa xs4)*40≤140737488355328)) (∃(xs5:List (List Dv)),some [Zaj 5 z]=some [Zaj 5 xs5]∧2=2∧BIf (decide ((0+Zaa xs4+Zaa xs5)*40≤140737488355328)) (∃(xs6:List (List Dv)),some [Zaj 5 m]=some [Zaj 5 xs6]∧3=3∧BIf (decide ((0+Zaa xs4+Zaa xs5+Zaa xs6)*40≤140737488355328)) (4=4∧∃(xs7:List (List Dv)), []++flatA xs4++flatA xs5++flatA xs6=flatA xs7∧Zaa xs7=0+Zaa xs4+Zaa xs5+Zaa xs6∧(∀(r:List Dv),r∈xs7→Zaa r=5)∧R (.d (Zaj 5 xs7)) b) False) False) False)))):=by kernel_rfl
theorem BXv9 (x z m:List (List Dv)):wpFn prog ⟨[],UCoU,wl,y,true⟩ 1000 f140 [.full 1 [[.sl 4 x], [.sl 4 z], [.sl 4 m]]] b R=(∃(xs0:List (List Dv)),some [Zaj 4 x]=some [Zaj 4 xs0]∧BIf (decide (Zac .i64 ((0:Int)+((Zaa xs0:Nat):Int))<(0:Int))) False (∃(xs1:List (List Dv)),some [Zaj 4 z]=some [Zaj 4 xs1]∧BIf (decide (Zac .i64 (Zac .i64 ((0:Int)+((Zaa xs0:Nat):Int))+((Zaa xs1:Nat):Int))<(0:Int))) False (∃(xs2:List (List Dv)),some [Zaj 4 m]=some [Zaj 4 xs2]∧BIf (decide (Zac .i64 (Zac .i64 (Zac .i64 ((0:Int)+((Zaa xs0:Nat):Int))+((Zaa xs1:Nat):Int))+((Zaa xs2:Nat):Int))<(0:Int))) False (∃(n3:Int), [Zad (Zdk (.slice none 0 0)),Zad (i64 (Zac .i64 (Zac .i64 (Zac .i64 ((0:Int)+((Zaa xs0:Nat):Int))+((Zaa xs1:Nat):Int))+((Zaa xs2:Nat):Int))))]= [Zad (Zdk (.slice none 0 0)),Zad (i64 n3)]∧((0:Int)<n3∧n3≤(1000000:Int))∧∃(xs4:List (List Dv)),some [Zaj 4 x]=some [Zaj 4 xs4]∧1=1∧BIf (decide ((0+Zaa xs4)*32≤140737488355328)) (∃(xs5:List (List Dv)),some [Zaj 4 z]=some [Zaj 4 xs5]∧2=2∧BIf (decide ((0+Zaa xs4+Zaa xs5)*32≤140737488355328)) (∃(xs6:List (List Dv)),some [Zaj 4 m]=some [Zaj 4 xs6]∧3=3∧BIf (decide ((0+Zaa xs4+Zaa xs5+Zaa xs6)*32≤140737488355328)) (4=4∧∃(xs7:List (List Dv)), []++flatA xs4++flatA xs5++flatA xs6=flatA xs7∧Zaa xs7=0+Zaa xs4+Zaa xs5+Zaa xs6∧(∀(r:List Dv),r∈xs7→Zaa r=4)∧R (.d (Zaj 4 xs7)) b) False) False) False)))):=by kernel_rfl
theorem CEe9 (x z m:List GraT) (h0:0<x.length+z.length+m.length) (hl:x.length+z.length+m.length≤1000000):
 PCall prog 136 [.full 1 [[.sl 5 (rowsG x)], [.sl 5 (rowsG z)], [.sl 5 (rowsG m)]]] (.d (.sl 5 (rowsG (x++z++m)))):=by
 refine Zfw (n:=1000) (u:=true) mixed Zai CHg9 func136 (by rfl) (by rfl) fun Ev bb=> ?_;rw [BXw9];have e1:Zac Zbb ((0:Int)+(((rowsG x).length:Nat):Int))=((x.length:Nat):Int):=by rw [AAd9,AAw9 (by omega) (by omega)];omega
 have e2:Zac Zbb (((x.length:Nat):Int)+(((rowsG z).length:Nat):Int))=((x.length+z.length:Nat):Int):=by rw [AAd9,AAw9 (by omega) (by omega)];omega
 have e3:Zac Zbb (((x.length+z.length:Nat):Int)+(((rowsG m).length:Nat):Int))=((x.length+z.length+m.length:Nat):Int):=by rw [AAd9,AAw9 (by omega) (by omega)];omega
 refine ⟨rowsG x,rfl, ?_⟩;rw [e1];refine Zci (by simp) ⟨rowsG z,rfl, ?_⟩;rw [e2];refine Zci (by simp;omega) ⟨rowsG m,rfl, ?_⟩;rw [e3];refine Zci (by simp;omega) ⟨_,rfl,⟨by omega,by omega⟩,rowsG x,rfl,rfl,Zas (by rw [AAd9];simp;omega) ⟨rowsG z,rfl,rfl,Zas (by rw [AAd9,AAd9];simp;omega) ⟨rowsG m,rfl,rfl,Zas (by rw [AAd9,AAd9,AAd9];simp;omega) ⟨rfl,rowsG (x++z++m), ?_, ?_,ARg9 _,rfl⟩⟩⟩⟩
 ·have f:∀l:List GraT,flatA (rowsG l)=flatA (l.map graR):=fun _=>rfl;rw [f,f,f,f,AVd9,AVd9,List.nil_append]
 ·rw [AAd9,AAd9,AAd9,AAd9,Zbi,Zbi];omega
def CGk9:CF:=fun args K=>∃(x m q:List GraT) (g:GraT),args= [.full 1 [[.sl 5 (rowsG x)], [.sl 5 [graR g]], [.sl 5 (rowsG m)]]]∧(x.length+m.length<1000000∧q=x++ [g]++m)∧K (.d (.sl 5 (rowsG q)))
theorem BPs9:COk 136 CGk9:=by
 rintro _ K ⟨x,m,_,g,rfl,⟨hl,rfl⟩,hk⟩;exact ⟨_,CEe9 x [g] m (by simp;omega) (by simp;omega),hk⟩
def TInG:CT:= [(136,CGk9),(54,BIy9)]
theorem CHo9:AAb9 prog TInG:=Zag BPs9 (Zag BBn9 Zai)
theorem CEu9 (l:List GraT) (g:GraT):wpFn prog ⟨TInG, [],wl,y,false⟩ 100 f104 [.d (.sl 5 (rowsG l)),graA g, .fn (.func 95) [] []] b R=(∃(l0:List GraT) (g1:GraT) (q2:Int), [Zad (Zaj 5 (rowsG l)),Zav (Fn.func 135) [] [Zah [Zcw (Fn.func 95) []],Zah (Qz14 g)]]= [Zad (Zaj 5 (rowsG l0)),Zav (Fn.func 135) [] [Zah [Zcw (Fn.func 95) []],Zah (Qz14 g1)]]∧(Zaa l0≤9223372036854775807∧q2=idxS (fun (x3:GraT)=>decide (Zds x3>Zds g1)) l0)∧BIf (decide (q2<(0:Int))) (BIf (true&&decide ((0:Int)≤(0:Int)∧(0:Int)≤((Zaa (rowsG l):Nat):Int)∧((Zaa (rowsG l):Nat):Int)≤((Zaa (rowsG l):Nat):Int)∧((Zaa (rowsG l):Nat):Int)≤((Zaa (rowsG l):Nat):Int))) (BIf (true&&decide ((0:Int)≤((Zaa (rowsG l):Nat):Int)∧((Zaa (rowsG l):Nat):Int)≤((Zaa (rowsG l):Nat):Int)∧((Zaa (rowsG l):Nat):Int)≤((Zaa (rowsG l):Nat):Int)∧((Zaa (rowsG l):Nat):Int)≤((Zaa (rowsG l):Nat):Int))) (∃(x4:List GraT) (m5:List GraT) (q6:List GraT) (g7:GraT), [AV.full 1 [[Zaj 5 (Zbq (Zak ((Zaa (rowsG l):Nat):Int) - Zak (0:Int)) (Zcg (Zak (0:Int)) (rowsG l)))], [Zaj 5 [Qz14 g]], [Zaj 5 (Zbq (Zak ((Zaa (rowsG l):Nat):Int) - Zak ((Zaa (rowsG l):Nat):Int)) (Zcg (Zak ((Zaa (rowsG l):Nat):Int)) (rowsG l)))]]]= [AV.full 1 [[Zaj 5 (rowsG x4)], [Zaj 5 [Qz14 g7]], [Zaj 5 (rowsG m5)]]]∧(Zaa x4+Zaa m5<1000000∧q6=x4++ [g7]++m5)∧R (.d (Zaj 5 (rowsG q6))) b) False) False) (BIf (true&&decide ((0:Int)≤(0:Int)∧(0:Int)≤q2∧q2≤((Zaa (rowsG l):Nat):Int)∧((Zaa (rowsG l):Nat):Int)≤((Zaa (rowsG l):Nat):Int))) (BIf (true&&decide ((0:Int)≤q2∧q2≤((Zaa (rowsG l):Nat):Int)∧((Zaa (rowsG l):Nat):Int)≤((Zaa (rowsG l):Nat):Int)∧((Zaa (rowsG l):Nat):Int)≤((Zaa (rowsG l):Nat):Int))) (∃(x8:List GraT) (m9:List GraT) (q10:List GraT) (g11:GraT), [AV.full 1 [[Zaj 5 (Zbq (Zak q2 - Zak (0:Int)) (Zcg (Zak (0:Int)) (rowsG l)))], [Zaj 5 [Qz14 g]], [Zaj 5 (Zbq (Zak ((Zaa (rowsG l):Nat):Int) - Zak q2) (Zcg (Zak q2) (rowsG l)))]]]= [AV.full 1 [[Zaj 5 (rowsG x8)], [Zaj 5 [Qz14 g11]], [Zaj 5 (rowsG m9)]]]∧(Zaa x8+Zaa m9<1000000∧q10=x8++ [g11]++m9)∧R (.d (Zaj 5 (rowsG q10))) b) False) False)):=by kernel_rfl
theorem CEd9 (x z m:List UseT) (h0:0<x.length+z.length+m.length) (hl:x.length+z.length+m.length≤1000000):
 PCall prog 140 [.full 1 [[.sl 4 (rowsU x)], [.sl 4 (rowsU z)], [.sl 4 (rowsU m)]]] (.d (.sl 4 (rowsU (x++z++m)))):=by
 refine Zfw (n:=1000) (u:=true) mixed Zai CHf9 func140 (by rfl) (by rfl) fun Ev bb=> ?_;rw [BXv9];have e1:Zac Zbb ((0:Int)+(((rowsU x).length:Nat):Int))=((x.length:Nat):Int):=by rw [AAe9,AAw9 (by omega) (by omega)];omega
 have e2:Zac Zbb (((x.length:Nat):Int)+(((rowsU z).length:Nat):Int))=((x.length+z.length:Nat):Int):=by rw [AAe9,AAw9 (by omega) (by omega)];omega
 have e3:Zac Zbb (((x.length+z.length:Nat):Int)+(((rowsU m).length:Nat):Int))=((x.length+z.length+m.length:Nat):Int):=by rw [AAe9,AAw9 (by omega) (by omega)];omega
 refine ⟨rowsU x,rfl, ?_⟩;rw [e1];refine Zci (by simp) ⟨rowsU z,rfl, ?_⟩;rw [e2];refine Zci (by simp;omega) ⟨rowsU m,rfl, ?_⟩;rw [e3];refine Zci (by simp;omega) ⟨_,rfl,⟨by omega,by omega⟩,rowsU x,rfl,rfl,Zas (by rw [AAe9];simp;omega) ⟨rowsU z,rfl,rfl,Zas (by rw [AAe9,AAe9];simp;omega) ⟨rowsU m,rfl,rfl,Zas (by rw [AAe9,AAe9,AAe9];simp;omega) ⟨rfl,rowsU (x++z++m), ?_, ?_,BQy9 _,rfl⟩⟩⟩⟩
 ·have f:∀l:List UseT,flatA (rowsU l)=flatA (l.map useR):=fun _=>rfl;rw [f,f,f,f,AVd9,AVd9,List.nil_append]
 ·rw [AAe9,AAe9,AAe9,AAe9,Zbi,Zbi];omega
def CGj9:CF:=fun args K=>∃(x m q:List UseT) (g:UseT),args= [.full 1 [[.sl 4 (rowsU x)], [.sl 4 [useR g]], [.sl 4 (rowsU m)]]]∧(x.length+m.length<1000000∧q=x++ [g]++m)∧K (.d (.sl 4 (rowsU q)))
theorem BPr9:COk 140 CGj9:=by
 rintro _ K ⟨x,m,_,g,rfl,⟨hl,rfl⟩,hk⟩;exact ⟨_,CEd9 x [g] m (by simp;omega) (by simp;omega),hk⟩
def TInU:CT:= [(140,CGj9),(133,BIx9)]
theorem CHn9:AAb9 prog TInU:=Zag BPr9 (Zag BBm9 Zai)
theorem CEt9 (l:List UseT) (g:UseT):wpFn prog ⟨TInU, [],wl,y,false⟩ 100 f107 [.d (.sl 4 (rowsU l)),useA g, .fn (.func 108) [] []] b R=(∃(l0:List UseT) (g1:UseT) (q2:Int), [Zad (Zaj 4 (rowsU l)),Zav (Fn.func 139) [] [Zah [Zcw (Fn.func 108) []],Zah (Qz13 g)]]= [Zad (Zaj 4 (rowsU l0)),Zav (Fn.func 139) [] [Zah [Zcw (Fn.func 108) []],Zah (Qz13 g1)]]∧(Zaa l0≤9223372036854775807∧q2=idxS (fun (x3:UseT)=>decide (Zdl x3>Zdl g1)) l0)∧BIf (decide (q2<(0:Int))) (BIf (true&&decide ((0:Int)≤(0:Int)∧(0:Int)≤((Zaa (rowsU l):Nat):Int)∧((Zaa (rowsU l):Nat):Int)≤((Zaa (rowsU l):Nat):Int)∧((Zaa (rowsU l):Nat):Int)≤((Zaa (rowsU l):Nat):Int))) (BIf (true&&decide ((0:Int)≤((Zaa (rowsU l):Nat):Int)∧((Zaa (rowsU l):Nat):Int)≤((Zaa (rowsU l):Nat):Int)∧((Zaa (rowsU l):Nat):Int)≤((Zaa (rowsU l):Nat):Int)∧((Zaa (rowsU l):Nat):Int)≤((Zaa (rowsU l):Nat):Int))) (∃(x4:List UseT) (m5:List UseT) (q6:List UseT) (g7:UseT), [AV.full 1 [[Zaj 4 (Zbq (Zak ((Zaa (rowsU l):Nat):Int) - Zak (0:Int)) (Zcg (Zak (0:Int)) (rowsU l)))], [Zaj 4 [Qz13 g]], [Zaj 4 (Zbq (Zak ((Zaa (rowsU l):Nat):Int) - Zak ((Zaa (rowsU l):Nat):Int)) (Zcg (Zak ((Zaa (rowsU l):Nat):Int)) (rowsU l)))]]]= [AV.full 1 [[Zaj 4 (rowsU x4)], [Zaj 4 [Qz13 g7]], [Zaj 4 (rowsU m5)]]]∧(Zaa x4+Zaa m5<1000000∧q6=x4++ [g7]++m5)∧R (.d (Zaj 4 (rowsU q6))) b) False) False) (BIf (true&&decide ((0:Int)≤(0:Int)∧(0:Int)≤q2∧q2≤((Zaa (rowsU l):Nat):Int)∧((Zaa (rowsU l):Nat):Int)≤((Zaa (rowsU l):Nat):Int))) (BIf (true&&decide ((0:Int)≤q2∧q2≤((Zaa (rowsU l):Nat):Int)∧((Zaa (rowsU l):Nat):Int)≤((Zaa (rowsU l):Nat):Int)∧((Zaa (rowsU l):Nat):Int)≤((Zaa (rowsU l):Nat):Int))) (∃(x8:List UseT) (m9:List UseT) (q10:List UseT) (g11:UseT), [AV.full 1 [[Zaj 4 (Zbq (Zak q2 - Zak (0:Int)) (Zcg (Zak (0:Int)) (rowsU l)))], [Zaj 4 [Qz13 g]], [Zaj 4 (Zbq (Zak ((Zaa (rowsU l):Nat):Int) - Zak q2) (Zcg (Zak q2) (rowsU l)))]]]= [AV.full 1 [[Zaj 4 (rowsU x8)], [Zaj 4 [Qz13 g11]], [Zaj 4 (rowsU m9)]]]∧(Zaa x8+Zaa m9<1000000∧q10=x8++ [g11]++m9)∧R (.d (Zaj 4 (rowsU q10))) b) False) False)):=by kernel_rfl
def insP {α:Type} (p:α→Bool) (g:α):List α→List α
 | []=> [g]
 |x::r=>if p x=true then g::x::r else x::insP p g r
theorem APm9 {α:Type} {p:α→Bool} {g:α}:∀ {l:List α},l.findIdx? p=none→insP p g l=l++ [g]
 | [],_=>rfl
 | x::r,h=>by
  rw [Zfo] at h;cases hp:p x with
  |true=>rw [hp] at h;simp at h
  | false=>
   rw [hp] at h;simp only [Zcm,if_false,Option.map_eq_none_iff] at h;rw [insP,hp,if_neg (by decide),APm9 h];rfl
theorem APl9 {α:Type} {p:α→Bool} {g:α}:∀ {l:List α} {j:Nat},l.findIdx? p=some j→insP p g l=l.take j++ [g]++l.drop j
 | [],j,h=>by simp at h
 | x::r,j,h=>by
  rw [Zfo] at h;cases hp:p x with
  |true=>rw [hp] at h;simp at h;subst h;rw [insP,hp,if_pos rfl];rfl
  | false=>
   rw [hp] at h;simp only [Zcm,if_false,Zap] at h;obtain ⟨j',h1,rfl⟩:=h;rw [insP,hp,if_neg (by decide),APl9 h1];rfl
theorem AWu9 {α:Type} (row:α→List Dv) (l:List α) (i:Nat):((l.map row).take i)=(l.take i).map row:=by simp
theorem AWv9 {α:Type} (row:α→List Dv) (l:List α) (i:Nat):((l.map row).drop i)=(l.drop i).map row:=by simp
def insSG (g:GraT) (l:List GraT):List GraT:=insP (fun x:GraT=>decide (x.sl>g.sl)) g l
def cInsG:CF:=fun args K=>∃(l z:List GraT) (g:GraT),args= [.d (.sl 5 (rowsG l)),graA g, .fn (.func 95) [] []]∧(l.length<1000000∧z=insSG g l)∧K (.d (.sl 5 (rowsG z)))
theorem BYp9:COk 104 cInsG:=by
 rintro _ K ⟨l,_,g,rfl,⟨hl,rfl⟩,hk⟩;refine ⟨_, ?_,hk⟩;refine pcO CHo9 func104 fun Ev bb=> ?_;rw [CEu9,AAd9];refine ⟨l,g,_,rfl,⟨by omega,rfl⟩, ?_⟩;cases hf:l.findIdx? (fun x:GraT=>decide (x.sl>g.sl)) with
 | none=>
  rw [AAq9 hf];refine Zas (by decide) (Zas (by simp) (Zas (by simp) ⟨l, [],_,g, ?_,⟨by simpa using hl,rfl⟩, ?_⟩))
  ·simp only [rowsG,Zcv,Zez,Zfc,Nat.sub_zero,Nat.sub_self,List.take_zero,List.map_nil];rw [show (l.map graR).take l.length=l.map graR by rw [List.take_of_length_le (by simp)]]
  ·rw [insSG,APm9 hf,Zco]
 | some j=>
  have hj:=(AFx9 hf).1;rw [AAj9 hf];refine Zci (by simp) (Zas (by simp;omega) (Zas (by simp;omega) ⟨l.take j,l.drop j,_,g, ?_,⟨by rw [Zcj,List.length_drop];omega,rfl⟩, ?_⟩))
  ·simp only [rowsG,Zcv,Zez,Zfc,Nat.sub_zero];rw [show ((l.map graR).drop j).take (l.length - j)=(l.drop j).map graR by rw [AWv9,List.take_of_length_le (by simp)],AWu9]
  ·rw [insSG,APl9 hf]
def insSU (g:UseT) (l:List UseT):List UseT:=insP (fun x:UseT=>decide (x.sl>g.sl)) g l
def cInsU:CF:=fun args K=>∃(l z:List UseT) (g:UseT),args= [.d (.sl 4 (rowsU l)),useA g, .fn (.func 108) [] []]∧(l.length<1000000∧z=insSU g l)∧K (.d (.sl 4 (rowsU z)))
theorem BYo9:COk 107 cInsU:=by
 rintro _ K ⟨l,_,g,rfl,⟨hl,rfl⟩,hk⟩;refine ⟨_, ?_,hk⟩;refine pcO CHn9 func107 fun Ev bb=> ?_;rw [CEt9,AAe9];refine ⟨l,g,_,rfl,⟨by omega,rfl⟩, ?_⟩;cases hf:l.findIdx? (fun x:UseT=>decide (x.sl>g.sl)) with
 | none=>
  rw [AAq9 hf];refine Zas (by decide) (Zas (by simp) (Zas (by simp) ⟨l, [],_,g, ?_,⟨by simpa using hl,rfl⟩, ?_⟩))
  ·simp only [rowsU,Zcv,Zez,Zfc,Nat.sub_zero,Nat.sub_self,List.take_zero,List.map_nil];rw [show (l.map useR).take l.length=l.map useR by rw [List.take_of_length_le (by simp)]]
  ·rw [insSU,APm9 hf,Zco]
 | some j=>
  have hj:=(AFx9 hf).1;rw [AAj9 hf];refine Zci (by simp) (Zas (by simp;omega) (Zas (by simp;omega) ⟨l.take j,l.drop j,_,g, ?_,⟨by rw [Zcj,List.length_drop];omega,rfl⟩, ?_⟩))
  ·simp only [rowsU,Zcv,Zez,Zfc,Nat.sub_zero];rw [show ((l.map useR).drop j).take (l.length - j)=(l.drop j).map useR by rw [AWv9,List.take_of_length_le (by simp)],AWu9]
  ·rw [insSU,APl9 hf]
def useI (u:UseT):AV:= .d (.s (.iface 149 (.agg #[.int .i64 u.sl, .int .i64 u.of, .int .i64 u.pe, .int .i64 u.st])))
def graI (g:GraT):AV:= .d (.s (.iface 140 (.agg #[.int .i64 g.sl, .int .i64 g.of, .int .i64 g.pe, .int .i64 g.st, .int .i64 g.un])))
def TRfd:CT:= [(4000001,cNone),(73,BPb9),(84,BYt9),(170,BPu9),(167,BPv9)]
theorem AYz9:AAb9 prog TRfd:=Zag (ABw9 _) (Zag AQa9 (Zag AYt9 (Zag AQd9 (Zag AQe9 Zai))))
def wlRfd {β:Type} (y:ADo9 β):WLT β:=wlI prog TRfd IVa y (fun _ _ _ _ _=>False)
theorem CDd9 (t:TabT) (ly:LayT) (u:UseT):wpFn prog ⟨TRfd, [],wlRfd y,y,false⟩ 100 f103 [tabA t,layA ly,useI u] b R=(∃(t0:TabT) (l1:LayT) (q2:Bool), [Zan (Qz1 t),Zan (Qz3 ly)]= [Zan (Qz1 t0),Zan (Qz3 l1)]∧(TabOk t0∧q2=ACq9 t0 l1)∧BIf (!q2) (R (.d (i64 1)) b) (true=true∧∃(u3:UseT) (l4:LayT) (z5:Bool), [Zan (Qz6 u),Zan (Qz3 ly)]= [Zan (Qz6 u3),Zan (Qz3 l4)]∧z5=useOk u3 l4∧BIf (!z5) (R (.d (i64 1)) b) (∃(u6:UseT), [Zan (Qz6 u)]= [Zan (Qz6 u6)]∧∃(t7:TabT) (s8:Int) (q9:Bool), [Zan (Qz1 t),Zad (i64 (Zdl u6))]= [Zan (Qz1 t7),Zad (i64 s8)]∧(TabOk t7∧q9=busyT t7 s8)∧BIf q9 (R (.d (i64 5)) b) (BIf (decide (Zac .i64 (((Zaa (rowsU (Zbv t)):Nat):Int)+((Zaa (rowsG (Zbx t)):Nat):Int))≥(24:Int))) (R (.d (i64 10)) b) (R (.d (i64 0)) b))))):=by kernel_rfl
theorem CDf9 (t:TabT) (ly:LayT) (u:GraT):wpFn prog ⟨TRfd, [],wlRfd y,y,false⟩ 100 f103 [tabA t,layA ly,graI u] b R=(∃(t0:TabT) (l1:LayT) (q2:Bool), [Zan (Qz1 t),Zan (Qz3 ly)]= [Zan (Qz1 t0),Zan (Qz3 l1)]∧(TabOk t0∧q2=ACq9 t0 l1)∧BIf (!q2) (R (.d (i64 1)) b) (true=true∧∃(u3:GraT) (l4:LayT) (z5:Bool), [Zan (Qz5 u),Zan (Qz3 ly)]= [Zan (Qz5 u3),Zan (Qz3 l4)]∧z5=graOk u3 l4∧BIf (!z5) (R (.d (i64 1)) b) (∃(u6:GraT), [Zan (Qz5 u)]= [Zan (Qz5 u6)]∧∃(t7:TabT) (s8:Int) (q9:Bool), [Zan (Qz1 t),Zad (i64 (Zds u6))]= [Zan (Qz1 t7),Zad (i64 s8)]∧(TabOk t7∧q9=busyT t7 s8)∧BIf q9 (R (.d (i64 5)) b) (BIf (decide (Zac .i64 (((Zaa (rowsU (Zbv t)):Nat):Int)+((Zaa (rowsG (Zbx t)):Nat):Int))≥(24:Int))) (R (.d (i64 10)) b) (R (.d (i64 0)) b))))):=by kernel_rfl
def refS (t:TabT) (ly:LayT) (sl:Int) (ok:Bool):Int:=if ACq9 t ly&&ok then (if busyT t sl then 5 else if (t.us.length:Int)+(t.gs.length:Int)≥24 then 10 else 0) else 1
theorem CIu9 (t:TabT) (ly:LayT) (u:UseT) (ht:TabOk t):PCall prog 103 [tabA t,layA ly,useI u] (.d (i64 (refS t ly u.sl (useOk u ly)))):=by
 refine PCall.ofFnE (n:=100) (u:=false) (fun Ev=>wlRfd Ev.Y) mixed AYz9 Zar (fun Ev=>CBp9 mixed AYz9 ATn9 fun _ _ _ _ _ h=>h.elim) func103 (by rfl) (by rfl) fun Ev bb=> ?_;rw [CDd9,AAe9,AAd9];have hw:Zac Zbb ((t.us.length:Int)+(t.gs.length:Int))=(t.us.length:Int)+(t.gs.length:Int):=AAw9 (by have:=ht.1;have:=ht.2.1;omega) (by have:=ht.1;have:=ht.2.1;omega);rw [hw];refine ⟨t,ly,_,rfl,⟨ht,rfl⟩,Zax (fun h1=> ?_) fun h1=>⟨rfl,u,ly,_,rfl,rfl,Zax (fun h2=> ?_) fun h2=>⟨u,rfl,t,u.sl,_,rfl,⟨ht,rfl⟩,Zax (fun h3=> ?_) fun h3=>Zax (fun h4=> ?_) fun h4=> ?_⟩⟩⟩
 ·rw [Zcb] at h1;rw [refS,h1];rfl
 ·rw [Zcb] at h2;rw [refS,h2,Zcn];rfl
 all_goals (rw [Zcx] at h1 h2;rw [refS,h1,h2,h3])
 ·rfl
 ·rw [if_pos (by rfl),if_neg (by decide),if_pos (of_decide_eq_true h4)]
 ·rw [if_pos (by rfl),if_neg (by decide),if_neg (of_decide_eq_false h4)]
def cRefU:CF:=fun args K=>∃(t:TabT) (ly:LayT) (u:UseT) (q:Int),args= [tabA t,layA ly,useI u]∧(TabOk t∧q=refS t ly u.sl (useOk u ly))∧K (.d (i64 q))
theorem BYi9:COk 103 cRefU:=by
 rintro _ K ⟨t,ly,u,_,rfl,⟨h,rfl⟩,hk⟩;exact ⟨_,CIu9 t ly u h,hk⟩
theorem CIv9 (t:TabT) (ly:LayT) (u:GraT) (ht:TabOk t):PCall prog 103 [tabA t,layA ly,graI u] (.d (i64 (refS t ly u.sl (graOk u ly)))):=by
 refine PCall.ofFnE (n:=100) (u:=false) (fun Ev=>wlRfd Ev.Y) mixed AYz9 Zar (fun Ev=>CBp9 mixed AYz9 ATn9 fun _ _ _ _ _ h=>h.elim) func103 (by rfl) (by rfl) fun Ev bb=> ?_;rw [CDf9,AAe9,AAd9];have hw:Zac Zbb ((t.us.length:Int)+(t.gs.length:Int))=(t.us.length:Int)+(t.gs.length:Int):=AAw9 (by have:=ht.1;have:=ht.2.1;omega) (by have:=ht.1;have:=ht.2.1;omega);rw [hw];refine ⟨t,ly,_,rfl,⟨ht,rfl⟩,Zax (fun h1=> ?_) fun h1=>⟨rfl,u,ly,_,rfl,rfl,Zax (fun h2=> ?_) fun h2=>⟨u,rfl,t,u.sl,_,rfl,⟨ht,rfl⟩,Zax (fun h3=> ?_) fun h3=>Zax (fun h4=> ?_) fun h4=> ?_⟩⟩⟩
 ·rw [Zcb] at h1;rw [refS,h1];rfl
 ·rw [Zcb] at h2;rw [refS,h2,Zcn];rfl
 all_goals (rw [Zcx] at h1 h2;rw [refS,h1,h2,h3])
 ·rfl
 ·rw [if_pos (by rfl),if_neg (by decide),if_pos (of_decide_eq_true h4)]
 ·rw [if_pos (by rfl),if_neg (by decide),if_neg (of_decide_eq_false h4)]
def cRefG:CF:=fun args K=>∃(t:TabT) (ly:LayT) (u:GraT) (q:Int),args= [tabA t,layA ly,graI u]∧(TabOk t∧q=refS t ly u.sl (graOk u ly))∧K (.d (i64 q))
theorem BYj9:COk 103 cRefG:=by
 rintro _ K ⟨t,ly,u,_,rfl,⟨h,rfl⟩,hk⟩;exact ⟨_,CIv9 t ly u h,hk⟩
def TAu:CT:= [(103,cRefU),(107,cInsU),(48,BSi9),(105,BYe9)]
theorem CLc9:AAb9 prog TAu:=Zag BYi9 (Zag BYo9 (Zag BJn9 (Zag AXu9 Zai)))
def TAg:CT:= [(103,cRefG),(104,cInsG),(93,BJm9),(105,BYe9)]
theorem CLd9:AAb9 prog TAg:=Zag BYj9 (Zag BYp9 (Zag ATg9 (Zag AXu9 Zai)))
abbrev Qz4:List AV:= [Zad (Zdk (.slice none 0 0)),Zad (Zdk (.slice none 0 0)),Zad (Zdk (.slice none 0 0))]
abbrev Qz49 (v0:TabT) (v1:LayT) (v2:UseT):List AV:= [Zan (Qz1 v0),Zan (Qz3 v1),Zad (Zdk (Value.iface 149 (Value.agg (Array.mk [Zei Zbb (Zdl v2),Zei Zbb (UseT.of v2),Zei Zbb (UseT.pe v2),Zei Zbb (UseT.st v2)]))))]
theorem CGw9 (t:TabT) (ly:LayT) (u:UseT):wpFn prog ⟨TAu, [],wl,y,false⟩ 100 f56 [tabA t,layA ly,useA u] b R=(∃(t0:TabT) (ly1:LayT) (u2:UseT) (q3:Int),(Qz49 t ly u)=(Qz49 t0 ly1 u2)∧(TabOk t0∧q3=refS t0 ly1 (Zdl u2) (useOk u2 ly1))∧BIf (q3 !=(0:Int)) (R (.tup [Zan Qz4,Zad (i64 q3)]) b) (∃(l4:List UseT) (z5:List UseT) (g6:UseT), [Zad (Zaj 4 (rowsU (Zbv t))),Zan (Qz6 u),Zav (Fn.func 108) [] []]= [Zad (Zaj 4 (rowsU l4)),Zan (Qz6 g6),Zav (Fn.func 108) [] []]∧(Zaa l4<1000000∧z5=insSU g6 l4)∧∃(l7:List GraT), [Zad (Zaj 5 (rowsG (Zbx t)))]= [Zad (Zaj 5 (rowsG l7))]∧Zaa l7≤1000000∧∃(t8:TabT) (z9:List AskT) (sl10:Int), [Zan (Qz1 t),Zad (i64 (Zdl u))]= [Zan (Qz1 t8),Zad (i64 sl10)]∧(TabLt t8∧z9=AJp9 t8 sl10)∧R (.tup [Zan (Qz41 z5 l7 z9),Zad (i64 0)]) b)):=by kernel_rfl
abbrev Qz45 (v0:TabT) (v1:LayT) (v2:GraT):List AV:= [Zan (Qz1 v0),Zan (Qz3 v1),Zad (Zdk (Value.iface 140 (Value.agg (Array.mk [Zei Zbb (Zds v2),Zei Zbb (GraT.of v2),Zei Zbb (GraT.pe v2),Zei Zbb (GraT.st v2),Zei Zbb (Zel v2)]))))]
theorem CGx9 (t:TabT) (ly:LayT) (u:GraT):wpFn prog ⟨TAg, [],wl,y,false⟩ 100 f52 [tabA t,layA ly,graA u] b R=(∃(t0:TabT) (ly1:LayT) (u2:GraT) (q3:Int),(Qz45 t ly u)=(Qz45 t0 ly1 u2)∧(TabOk t0∧q3=refS t0 ly1 (Zds u2) (graOk u2 ly1))∧BIf (q3 !=(0:Int)) (R (.tup [Zan Qz4,Zad (i64 q3)]) b) (∃(l4:List UseT), [Zad (Zaj 4 (rowsU (Zbv t)))]= [Zad (Zaj 4 (rowsU l4))]∧Zaa l4≤1000000∧∃(l5:List GraT) (z6:List GraT) (g7:GraT), [Zad (Zaj 5 (rowsG (Zbx t))),Zan (Qz5 u),Zav (Fn.func 95) [] []]= [Zad (Zaj 5 (rowsG l5)),Zan (Qz5 g7),Zav (Fn.func 95) [] []]∧(Zaa l5<1000000∧z6=insSG g7 l5)∧∃(t8:TabT) (z9:List AskT) (sl10:Int), [Zan (Qz1 t),Zad (i64 (Zds u))]= [Zan (Qz1 t8),Zad (i64 sl10)]∧(TabLt t8∧z9=AJp9 t8 sl10)∧R (.tup [Zan (Qz41 l4 z6 z9),Zad (i64 0)]) b)):=by kernel_rfl
theorem AOv9 (e:Int):LeV (AV.tup [Zan [Zad (Zdk (Zdj none 0 0)),Zad (Zdk (Zdj none 0 0)),Zad (Zdk (Zdj none 0 0))],Zad (i64 e)]) (AV.tup [tabA ⟨[], [], []⟩,Zad (i64 e)]):=
 LeV.tups (.cons (LeV.aggs (by repeat' (first|exact .nil|refine .cons .rfl ?_|refine .cons (.nil rfl) ?_))) (.cons .rfl .nil))
def refEU (t:TabT) (ly:LayT) (u:UseT):Int:=refS t ly u.sl (useOk u ly)
def addSU (t:TabT) (ly:LayT) (u:UseT):TabT:=if refEU t ly u=0 then ⟨insSU u t.us,t.gs,AJp9 t u.sl⟩ else ⟨[], [], []⟩
theorem CIy9 (t:TabT) (ly:LayT) (u:UseT) (ht:TabOk t):PCall prog 56 [tabA t,layA ly,useA u] (.tup [tabA (addSU t ly u), .d (i64 (refEU t ly u))]):=by
 refine PCall.ofFnV (n:=100) (u:=false) (fun _=>fun _ _ _ _ _=>False) mixed CLc9 Zar (fun Ev _ _ _ _ _ h=>h.elim) func56 (by rfl) (by rfl) fun Ev bb=> ?_;rw [CGw9];refine ⟨t,ly,u,_,rfl,⟨ht,rfl⟩,Zax (fun h1=> ?_) fun h1=>⟨t.us,_,u,rfl,⟨by have:=ht.1;omega,rfl⟩,t.gs,rfl,by have:=ht.2.1;omega,t,_,u.sl,rfl,⟨⟨by have:=ht.1;omega,by have:=ht.2.1;omega,by have:=ht.2.2;omega⟩,rfl⟩, ?_⟩⟩
 ·have h2:¬refEU t ly u=0:=by rw [refEU];simpa using h1
  rw [addSU,if_neg h2];exact AOv9 _
 ·have h2:refEU t ly u=0:=by rw [refEU];simpa using h1
  rw [addSU,if_pos h2,h2];exact .rfl
def cAddU:CF:=fun args K=>∃(t z:TabT) (ly:LayT) (u:UseT) (e:Int),args= [tabA t,layA ly,useA u]∧(TabOk t∧z=addSU t ly u∧e=refEU t ly u)∧K (.tup [tabA z, .d (i64 e)])
theorem BYx9:COk 56 cAddU:=by
 rintro _ K ⟨t,_,ly,u,_,rfl,⟨h,rfl,rfl⟩,hk⟩;exact ⟨_,CIy9 t ly u h,hk⟩
def refEG (t:TabT) (ly:LayT) (u:GraT):Int:=refS t ly u.sl (graOk u ly)
def addSG (t:TabT) (ly:LayT) (u:GraT):TabT:=if refEG t ly u=0 then ⟨t.us,insSG u t.gs,AJp9 t u.sl⟩ else ⟨[], [], []⟩
theorem CIz9 (t:TabT) (ly:LayT) (u:GraT) (ht:TabOk t):PCall prog 52 [tabA t,layA ly,graA u] (.tup [tabA (addSG t ly u), .d (i64 (refEG t ly u))]):=by
 refine PCall.ofFnV (n:=100) (u:=false) (fun _=>fun _ _ _ _ _=>False) mixed CLd9 Zar (fun Ev _ _ _ _ _ h=>h.elim) func52 (by rfl) (by rfl) fun Ev bb=> ?_;rw [CGx9];refine ⟨t,ly,u,_,rfl,⟨ht,rfl⟩,Zax (fun h1=> ?_) fun h1=>⟨t.us,rfl,by have:=ht.1;omega,t.gs,_,u,rfl,⟨by have:=ht.2.1;omega,rfl⟩,t,_,u.sl,rfl,⟨⟨by have:=ht.1;omega,by have:=ht.2.1;omega,by have:=ht.2.2;omega⟩,rfl⟩, ?_⟩⟩
 ·have h2:¬refEG t ly u=0:=by rw [refEG];simpa using h1
  rw [addSG,if_neg h2];exact AOv9 _
 ·have h2:refEG t ly u=0:=by rw [refEG];simpa using h1
  rw [addSG,if_pos h2,h2];exact .rfl
def cAddG:CF:=fun args K=>∃(t z:TabT) (ly:LayT) (u:GraT) (e:Int),args= [tabA t,layA ly,graA u]∧(TabOk t∧z=addSG t ly u∧e=refEG t ly u)∧K (.tup [tabA z, .d (i64 e)])
theorem BYy9:COk 52 cAddG:=by
 rintro _ K ⟨t,_,ly,u,_,rfl,⟨h,rfl,rfl⟩,hk⟩;exact ⟨_,CIz9 t ly u h,hk⟩
noncomputable def lpG1:Code:=sub [1,8,1,1,1,1,0,1,2,3] (code f13)
def tmG1 (s:SideT) (me fr:Int) (x:AV) (n i:Int):List AV:= [.bad, .bad, .d (i64 me), .bad, .d (i64 fr), .ptr 0 0, .ptr 1 0, .bad, .bad, .bad, .ptr 2 0, .rptr (sideD s)]++Zam 31 .bad++ [x, .d (i64 n), .d (i64 i)]++Zam 90 .bad
def grtB (us:List UseT) (x:AV) (ak:List AskT):Blk:=⟨[.d (.sl 4 (rowsU us)),x, .d (.sl 3 (rowsA ak))],false,false,0⟩
def resB:Blk:=⟨[.d (.s (.slice none 0 0)), .d (.s (.slice none 0 0)), .d (.s (.slice none 0 0))],false,false,0⟩
def TG1:CT:= [(37,cFind),(49,APz9),(50,CFy9)]
theorem CHr9:AAb9 prog TG1:=Zag AVu9 (Zag AMv9 (Zag BPg9 Zai))
theorem rG1 (s:SideT) (ly:LayT) (us:List UseT) (ak:List AskT) (me fr:Int) (n:Nat) (i:Int) (cs:List AV):wpc prog ⟨TG1,GCG,wl,y,false⟩ 100 lpG1 (tmG1 s me fr (.gref 3 0 n 5) n i) [layB ly,grtB us (.gref 3 0 n 5) ak,resB,growB 0 cs] b (maskK 4 [2,4,5,6,10,11,43,44,45] K)=(BIf (decide (i<(n:Int))) (0=0∧BIf (decide (0≤i)&&decide (i<(n:Int))) (0=0∧∃(x0:Int) (x1:Int) (x2:Int) (x3:Int) (x4:Int),Zbq 5 (Zcg (Zak i*5) cs)=(Qz15 x0 x1 x2 x3 x4)∧∃(s5:SideT) (pe6:Int) (q7:NearT) (e8:Bool), [Zah (Qz2 s),Zad (i64 x2)]= [Zah (Qz2 s5),Zad (i64 pe6)]∧(Zaa (Zau s5)≤9223372036854775807∧q7=nearO (sFind s5 pe6)∧e8=Option.isSome (sFind s5 pe6))∧BIf e8 (∃(s9:SideT) (n10:NearT) (q11:Bool), [Zah (Qz2 s),nearA q7]= [Zah (Qz2 s9),nearA n10]∧q11=APo9 s9 n10∧BIf q11 (∃(s12:SideT) (n13:NearT) (sl14:Int) (of15:Int) (q16:Bool), [Zah (Qz2 s),nearA q7,Zan [Zad (i64 x0),Zad (i64 x1)]]= [Zah (Qz2 s12),nearA n13,Zan [Zad (i64 sl14),Zad (i64 of15)]]∧((Zaa (Zcl n13)≤9223372036854775807∧Zaa (Zdw n13)≤9223372036854775807)∧q16=ANg9 s12 n13 sl14 of15)∧BIf q16 (0=0∧BIf (decide (0≤i)&&decide (i<(n:Int))) (0=0∧0=0∧BIf (decide (Zak i*5+4+1≤Zaa cs)) (BIf (Zbl [bk (Qz3 ly),bk [Zad (Zaj 4 (rowsU us)),Zbh 3 0 n 5,Zad (Zaj 3 (rowsA ak))],bk Qz4,Blk.mk (Zbq (Zak i*5+4) cs++ [Zad (i64 (if Zac .i64 (fr+8)>x4 then Zac .i64 (fr+8) else x4))]++Zcg (Zak i*5+4+1) cs) false true 0] fun (blk17:Blk)=>lows 4 blk17.1) (K .normal (Zab::Zab::Zad (i64 me)::Zab::Zad (i64 fr)::Zae 0 0::Zae 1 0::bds 3 (Zae 2 0::Zah (Qz2 s)::bds 31 (Zbh 3 0 n 5::Zad (i64 (n:Int))::Zad (i64 (Zac .i64 (i+1)))::bds 90 []))) [bk (Qz3 ly),bk [Zad (Zaj 4 (rowsU us)),Zbh 3 0 n 5,Zad (Zaj 3 (rowsA ak))],bk Qz4,Blk.mk (Zbq (Zak i*5+4) cs++ [Zad (i64 (if Zac .i64 (fr+8)>x4 then Zac .i64 (fr+8) else x4))]++Zcg (Zak i*5+4+1) cs) false true 0] b) False) False) False) (BIf (Zbl [bk (Qz3 ly),bk [Zad (Zaj 4 (rowsU us)),Zbh 3 0 n 5,Zad (Zaj 3 (rowsA ak))],bk Qz4,Blk.mk cs false true 0] fun (blk18:Blk)=>lows 4 blk18.1) (K .normal (Zab::Zab::Zad (i64 me)::Zab::Zad (i64 fr)::Zae 0 0::Zae 1 0::bds 3 (Zae 2 0::Zah (Qz2 s)::bds 31 (Zbh 3 0 n 5::Zad (i64 (n:Int))::Zad (i64 (Zac .i64 (i+1)))::bds 90 []))) [bk (Qz3 ly),bk [Zad (Zaj 4 (rowsU us)),Zbh 3 0 n 5,Zad (Zaj 3 (rowsA ak))],bk Qz4,Blk.mk cs false true 0] b) False)) (BIf (Zbl [bk (Qz3 ly),bk [Zad (Zaj 4 (rowsU us)),Zbh 3 0 n 5,Zad (Zaj 3 (rowsA ak))],bk Qz4,Blk.mk cs false true 0] fun (blk19:Blk)=>lows 4 blk19.1) (K .normal (Zab::Zab::Zad (i64 me)::Zab::Zad (i64 fr)::Zae 0 0::Zae 1 0::bds 3 (Zae 2 0::Zah (Qz2 s)::bds 31 (Zbh 3 0 n 5::Zad (i64 (n:Int))::Zad (i64 (Zac .i64 (i+1)))::bds 90 []))) [bk (Qz3 ly),bk [Zad (Zaj 4 (rowsU us)),Zbh 3 0 n 5,Zad (Zaj 3 (rowsA ak))],bk Qz4,Blk.mk cs false true 0] b) False)) (BIf (Zbl [bk (Qz3 ly),bk [Zad (Zaj 4 (rowsU us)),Zbh 3 0 n 5,Zad (Zaj 3 (rowsA ak))],bk Qz4,Blk.mk cs false true 0] fun (blk20:Blk)=>lows 4 blk20.1) (K .normal (Zab::Zab::Zad (i64 me)::Zab::Zad (i64 fr)::Zae 0 0::Zae 1 0::bds 3 (Zae 2 0::Zah (Qz2 s)::bds 31 (Zbh 3 0 n 5::Zad (i64 (n:Int))::Zad (i64 (Zac .i64 (i+1)))::bds 90 []))) [bk (Qz3 ly),bk [Zad (Zaj 4 (rowsU us)),Zbh 3 0 n 5,Zad (Zaj 3 (rowsA ak))],bk Qz4,Blk.mk cs false true 0] b) False)) False) (BIf (Zbl [bk (Qz3 ly),bk [Zad (Zaj 4 (rowsU us)),Zbh 3 0 n 5,Zad (Zaj 3 (rowsA ak))],bk Qz4,Blk.mk cs false true 0] fun (blk21:Blk)=>lows 4 blk21.1) (K (Zba 0) (Zab::Zab::Zad (i64 me)::Zab::Zad (i64 fr)::Zae 0 0::Zae 1 0::bds 3 (Zae 2 0::Zah (Qz2 s)::bds 31 (Zbh 3 0 n 5::Zad (i64 (n:Int))::Zad (i64 i)::bds 90 []))) [bk (Qz3 ly),bk [Zad (Zaj 4 (rowsU us)),Zbh 3 0 n 5,Zad (Zaj 3 (rowsA ak))],bk Qz4,Blk.mk cs false true 0] b) False)):=by kernel_rfl
variable {Ev:Env prog} {b0:Ev.β} {Q:Exit→St Ev.β→Prop}
def AGj9 (s:SideT) (g:GraT):Bool:=(sFind s g.pe).isSome&&(APo9 s (nearO (sFind s g.pe))&&ANg9 s (nearO (sFind s g.pe)) g.sl g.of)
def BAf9 (fr:Int) (g:GraT):GraT:=⟨g.sl,g.of,g.pe,g.st,if Zac Zbb (fr+8)>g.un then Zac Zbb (fr+8) else g.un⟩
def AEg9 (s:SideT) (fr:Int) (g:GraT):GraT:=if AGj9 s g=true then BAf9 fr g else g
def curG (s:SideT) (fr:Int) (gs:List GraT) (i:Nat):List GraT:=(gs.take i).map (AEg9 s fr)++gs.drop i
theorem BXu9 (s:SideT) (fr:Int) (gs:List GraT) (i:Nat):(curG s fr gs i).length=gs.length:=by simp [curG];omega
theorem BRr9 {s:SideT} {fr:Int} {gs:List GraT} {i:Nat} {g:GraT} (h:gs[i]? =some g):(curG s fr gs i)[i]? =some g:=by
 have hi:=(Zaf.1 h).1;rw [curG,List.getElem?_append_right (by simp;omega)];simp only [List.length_map,Zcj,Nat.min_eq_left (Nat.le_of_lt hi),Nat.sub_self];rw [List.getElem?_drop];simpa using h
theorem AXs9 {s:SideT} {fr:Int} {gs:List GraT} {i:Nat} {g:GraT} (h:gs[i]? =some g):curG s fr gs (i+1)=(curG s fr gs i).set i (AEg9 s fr g):=by
 have hi:=(Zaf.1 h).1;rw [curG,curG,Zem,h,List.set_append_right _ _ (by simp;omega)];simp only [List.length_map,Zcj,Nat.min_eq_left (Nat.le_of_lt hi),Nat.sub_self,Option.toList_some,List.map_append,Zdy,List.map_nil,Zbm,Zdv,List.nil_append];congr 1;rw [List.drop_eq_getElem_cons hi,List.set_cons_zero]
theorem APw9 {s:SideT} {fr:Int} {gs:List GraT} {i:Nat} {g:GraT} (h:gs[i]? =some g) (hr:AGj9 s g=false):curG s fr gs (i+1)=curG s fr gs i:=by
 rw [AXs9 h,AEg9,hr,if_neg (by decide)];exact ABm9 (BRr9 h)
theorem CFc9 {cur:List GraT} {i:Nat} {g:GraT} (h:cur[i]? =some g) (z:Int):(flatA (rowsG cur)).take (i*5+4)++ [Zad (i64 z)]++(flatA (rowsG cur)).drop (i*5+4+1)=flatA (rowsG (cur.set i ⟨g.sl,g.of,g.pe,g.st,z⟩)):=by
 have hi:=(Zaf.1 h).1;have e:=BXd9 AFv9 (hs:=cur) (i:=i) hi ⟨g.sl,g.of,g.pe,g.st,z⟩;have ea:=fl_at AFv9 h;have f:∀l:List GraT,flatA (rowsG l)=flatA (l.map graR):=fun _=>rfl;rw [f,f,←e,List.take_add];have e4:((flatA (cur.map graR)).drop (i*5)).take 4=((graR g).map Zad).take 4:=by rw [←ea,List.take_take];rfl
 rw [e4];simp only [graR,Zdy,List.map_nil,List.take_succ_cons,List.take_zero,Zbm,Zdv,List.nil_append]
def g1B (ly:LayT) (us:List UseT) (ak:List AskT) (n:Nat) (gs:List GraT):List Blk:= [layB ly,grtB us (.gref 3 0 n 5) ak,resB,growB 0 (flatA (rowsG gs))]
theorem CJd9 (ly:LayT) (us:List UseT) (ak:List AskT) (n:Nat) (gs:List GraT):Zbl (g1B ly us ak n gs) (fun blk=>lows 4 blk.1)=true:=by
 simp only [g1B,List.all_cons,List.all_nil,Bool.and_true,Zal];exact ⟨rfl,rfl,rfl,ACx9 4 _⟩
def AGx9 (s:SideT):Prop:=s.ns.length≤9223372036854775807∧∀x∈s.ns,ACi9 x
theorem BFk9 {s:SideT} (hs:AGx9 s) (pe:Int):ACi9 (nearO (sFind s pe)):=by
 cases h:sFind s pe with
 |none=>exact ⟨by decide,by decide,by decide⟩
 |some n=>exact hs.2 n (List.mem_of_find?_eq_some h)
theorem wrG1 (s:SideT) (ly:LayT) (us:List UseT) (ak:List AskT) (me fr:Int) (gs:List GraT) (hs:AGx9 s) (hl:gs.length<1000000)
 (hQ:Q (.exit 0) ⟨tmG1 s me fr (.gref 3 0 gs.length 5) gs.length gs.length,g1B ly us ak gs.length (curG s fr gs gs.length),b0⟩):WR Ev lpG1 (gs.length+1) ⟨tmG1 s me fr (.gref 3 0 gs.length 5) gs.length (0:Nat),g1B ly us ak gs.length (curG s fr gs 0),b0⟩ Q:=by
 have low:=CJd9 ly us ak gs.length;refine WR.scanG (X:=⟨TG1,GCG,wlW Ev,Ev.Y,false⟩) (k:=100) (L:=4) [2,4,5,6,10,11,43,44,45] mixed (CX.Ok.of CHr9 BCh9) gs (fun _=>false) (fun i=>tmG1 s me fr (.gref 3 0 gs.length 5) gs.length (i:Nat)) (fun i=>g1B ly us ak gs.length (curG s fr gs i)) (fun _=>rfl) 0 0 (fun i g _ hi hg K _ k2=> ?_) (fun K k1=> ?_) (fun _=>hQ) (fun h=>by simp at h) gs.length 0 (by simp) (Zat _) rfl
 ·refine Eq.mpr (rG1 _ _ _ K s ly us ak me fr gs.length i _) ?_;have hk:=k2 rfl;have hc:=BRr9 (s:=s) (fr:=fr) hg;have hn:=BFk9 hs g.pe;refine Zas (by simp;omega) ⟨rfl,Zas (by simp;omega) ⟨rfl,_,_,_,_,_,by rw [Zcv];exact fl_at AFv9 hc,s,g.pe,_,_,rfl,⟨hs.1,rfl,rfl⟩,Zax (fun h1=>⟨s,nearO (sFind s g.pe),_,rfl,rfl,Zax (fun h2=>⟨s,nearO (sFind s g.pe),g.sl,g.of,_,rfl,⟨⟨by have:=hn.1;omega,by have:=hn.2.2;omega⟩,rfl⟩,Zax (fun h3=> ?_) fun h3=> ?_⟩) fun h2=> ?_⟩) fun h1=> ?_⟩⟩
  ·have hr:AGj9 s g=true:=by rw [AGj9,h1,h2,h3];rfl
   have e4:=CFc9 hc (BAf9 fr g).un;have es:curG s fr gs (i+1)=(curG s fr gs i).set i ⟨g.sl,g.of,g.pe,g.st,(BAf9 fr g).un⟩:=by rw [AXs9 hg,AEg9,if_pos hr];rfl
   have hl2:=low (curG s fr gs (i+1));simp only [g1B,es,←e4] at hk hl2;refine ⟨rfl,Zas (by simp;omega) ⟨rfl,rfl,Zas ?_ ?_⟩⟩
   ·have:=BAr9 AFv9 (curG s fr gs i);rw [Zcv,show flatA (rowsG (curG s fr gs i))=flatA ((curG s fr gs i).map graR) from rfl,this,BXu9];simp;omega
   ·rw [Zcv,wrapN (by omega)];exact Zas hl2 hk
  ·have hr:AGj9 s g=false:=by rw [AGj9,h1,h2,h3];rfl
   rw [APw9 hg hr] at hk;rw [wrapN (by omega)];exact Zas (low _) hk
  ·have hr:AGj9 s g=false:=by rw [AGj9,h1,h2];rfl
   rw [APw9 hg hr] at hk;rw [wrapN (by omega)];exact Zas (low _) hk
  ·have hr:AGj9 s g=false:=by rw [AGj9,h1];rfl
   rw [APw9 hg hr] at hk;rw [wrapN (by omega)];exact Zas (low _) hk
 ·refine Eq.mpr (rG1 _ _ _ K s ly us ak me fr gs.length gs.length _) ?_;exact Zci (by simp) (Zas (low _) k1)
theorem BGo9 {tm:List AV} {hp:List Blk} {c off:Nat} {blk:Blk} {x y:AV} {gs:List Nat} (hc:hp[c]? =some blk) (hx:blk.cells[off]? =some x) (hs:SealR hp x y) (hg:∀g∈occ x,g∈gs) (ho:y.isOwn=false) (hcg:(frz hp gs)[c]? =some blk):
 FrzOk ⟨tm,hp, []⟩ ⟨tm,(frz hp gs).set c {blk with cells:=blk.cells.set off y}, []⟩:=by
 intro S X yv w m B hv a hr;obtain ⟨hl,hr,hpv⟩:=hr;obtain ⟨S',h1,h2,h3,h4⟩:=Rel.frzAll gs hr;refine ⟨S',⟨Agree.refl _ _ _,h1,h2,MStep.refl m⟩,hl, ?_,hpv⟩;have hr':Rel S X yv w m ((tm.zip a.tmps.toList++B)++AAa9 hp hv) hp hv:=by simpa using hr
 have hvl:c<hv.length:=by rw [hr'.hl];exact (Zaf.1 hc).1
 have hcv:hv[c]? =some hv[c]:=Zbc hvl;obtain ⟨pre,post,e1,e2⟩:=ABp9 hcg hcv;have e3:=e2 {blk with cells:=blk.cells.set off y} hv[c];have hvs:hv.set c hv[c]=hv:=ABm9 hcv;rw [hvs] at e3;have hcp:AAa9 (frz hp gs) hv=AAa9 hp hv:=AEs9 hv (APr9 gs hp);have h3':Rel S' X yv w m ((blk.cells.zip hv[c])++((tm.zip a.tmps.toList++B)++(pre++post))) (frz hp gs) hv:=by
  refine Rel.perm (A:=(tm.zip a.tmps.toList++B)++AAa9 hp hv) (by simpa using h3) ?_;rw [←hcp,e1];have:((tm.zip a.tmps.toList++B)++(pre++blk.cells.zip hv[c]++post)).Perm ((blk.cells.zip hv[c])++((tm.zip a.tmps.toList++B)++(pre++post))):=by
   have p1:(pre++blk.cells.zip hv[c]++post).Perm (blk.cells.zip hv[c]++(pre++post)):=by
    rw [←Zbm];exact List.Perm.append_right _ Zer
   refine (List.Perm.append_left _ p1).trans ?_;rw [←Zbm,←Zbm (blk.cells.zip hv[c])];exact List.Perm.append_right _ Zer
  exact this
 have key:∀(l:List AV) (vs:List Value) (o:Nat),l[o]? =some x→(∀p∈l.zip vs,RV S w m yv p.1 p.2)→RP S' w m yv (l.zip vs) ((l.set o y).zip vs):=by
  intro l;induction l with
  |nil=>intro vs o h;simp at h
  | cons z l ih=>
   intro vs o h hrv;cases vs with
   |nil=>rw [List.zip_nil_right,List.zip_nil_right];exact .nil
   | cons v vs=>
    cases o with
    | zero=>
     simp at h;subst h;refine .turn ?_ (AMb9 ho) ?_
     ·exact (AJt9 hr' h1 hs (fun g hgg p hp i hi=>h4 g (hg g hgg) p hp i hi) (hrv (z,v) (by simp))).opened
     ·have:∀q:List (AV×Value),RP S' w m yv q q:=fun q=>by
       induction q with
       |nil=>exact .nil
       |cons p q ih=>exact .keep ih
      exact this _
    | succ o=>
     simp only [List.set_cons_succ,List.zip_cons_cons];exact .keep (ih vs o (by simpa using h) fun p hp=>hrv p (List.mem_cons_of_mem _ hp))
 have h5:=Rel.rp (key blk.cells hv[c] off hx fun p hp=>hr'.rv p (List.mem_append_right _ (by rw [←hcp,e1];exact List.mem_append_left _ (List.mem_append_right _ hp)))) h3';have h6:Rel S' X yv w m ((tm.zip a.tmps.toList++B)++AAa9 ((frz hp gs).set c {blk with cells:=blk.cells.set off y}) hv) (frz hp gs) hv:=by
  refine h5.perm ?_;rw [e3];have p1:(pre++(blk.cells.set off y).zip hv[c]++post).Perm ((blk.cells.set off y).zip hv[c]++(pre++post)):=by
   rw [←Zbm];exact List.Perm.append_right _ Zer
  refine List.Perm.symm ((List.Perm.append_left _ p1).trans ?_);rw [←Zbm,←Zbm ((blk.cells.set off y).zip hv[c])];exact List.Perm.append_right _ Zer
 have h7:Rel S' X yv w m ((tm.zip a.tmps.toList++B)++AAa9 ((frz hp gs).set c {blk with cells:=blk.cells.set off y}) hv) ((frz hp gs).set c {blk with cells:=blk.cells.set off y}) hv:=by
  refine ⟨h6.lt,h6.rv,h6.pw,h6.nm,h6.sp,h6.mnd,by rw [List.length_set];exact h6.ml,by rw [List.length_set];exact h6.hl,fun g b' p vs g1 g2 g3=> ?_,h6.gl⟩;by_cases hgc:c=g
  ·subst hgc;rw [List.getElem?_set_self (Zaf.1 hcg).1] at g1;cases g1;have:=h6.bl c blk p vs hcg g2 g3;simpa using this
  ·rw [List.getElem?_set_ne hgc] at g1;exact h6.bl g b' p vs g1 g2 g3
 simpa using h7
def frozB (cs:List AV):Blk:=⟨cs,true,true,0⟩
noncomputable def lpG2:Code:=sub [1,8,1,1,1,1,1,1,0,1,2,3] (code f13)
noncomputable def lpG3:Code:=sub [1,8,1,1,1,1,1,1,0,1,2,3,1,1,0,2,1,1,1,2,3] (code f13)
def tmG2 (s:SideT) (me fr:Int) (i:Int):List AV:= [.bad, .bad, .d (i64 me), .bad, .d (i64 fr), .ptr 0 0, .ptr 1 0, .bad, .bad, .bad, .ptr 2 0, .rptr (sideD s)]++Zam 72 .bad++ [.d (.sl 31 (rowsN s.ns)), .d (i64 s.ns.length), .d (i64 i)]++Zam 49 .bad
def tmG3 (L:Nat) (s:SideT) (me fr:Int) (i:Int) (ak:List AskT) (j:Int):List AV:= [.bad, .bad, .d (i64 me), .bad, .d (i64 fr), .ptr 0 0, .ptr 1 0, .bad, .bad, .bad, .ptr 2 0, .rptr (sideD s)]++Zam 6 .bad++ [.ptr L 0]++Zam 65 .bad++ [.d (.sl 31 (rowsN s.ns)), .d (i64 s.ns.length), .d (i64 i)]++Zam 9 .bad++ [.d (.sl 3 (rowsA ak)), .d (i64 ak.length), .d (i64 j)]++Zam 37 .bad
def TG3:CT:= [(49,APz9),(51,BRz9),(52,cAddG)]
theorem BQp9:AAb9 prog TG3:=Zag AMv9 (Zag BIp9 (Zag BYy9 Zai))
abbrev Qz42 (v0:LayT) (v1:TabT) (v2:NearT):= [bk (Qz3 v0),bk (Qz1 v1),bk Qz4,nearB v2]
theorem rG3_3 (s:SideT) (ly:LayT) (t:TabT) (n:NearT) (me fr i:Int) (ak:List AskT) (j:Int):wpc prog ⟨TG3, [],wl,y,false⟩ 100 lpG3 (tmG3 3 s me fr i ak j) [layB ly,tabB t,resB,nearB n] b (maskK 4 [2,4,5,6,10,11,18,84,85,86,96,97,98] K)=(BIf (decide (j<((Zaa ak:Nat):Int))) (BIf (true&&decide (0≤j)) (∃(x0:Int) (x1:Int) (x2:Int),(rowsA ak)[Zak j]? =some [i64 x0,i64 x1,i64 x2]∧BIf (x2 !=me) (K .normal (Zab::Zab::Zad (i64 me)::Zab::Zad (i64 fr)::Zae 0 0::Zae 1 0::bds 3 (Zae 2 0::Zah (Qz2 s)::bds 6 (Zae 3 0::bds 65 (Zad (Zaj 31 (rowsN (Zau s)))::Zad (i64 ((Zaa (Zau s):Nat):Int))::Zad (i64 i)::bds 9 (Zad (Zaj 3 (rowsA ak))::Zad (i64 ((Zaa ak:Nat):Int))::Zad (i64 (Zac .i64 (j+1)))::bds 37 []))))) (Qz42 ly t n) b) (∃(s5:SideT) (sl6:Int) (of7:Int) (but8:Int) (q9:Bool), [Zah (Qz2 s),Zan [Zad (i64 x0),Zad (i64 x1)],Zad (i64 (Zcy n))]= [Zah (Qz2 s5),Zan [Zad (i64 sl6),Zad (i64 of7)],Zad (i64 but8)]∧((Zaa (Zau s5)≤9223372036854775807∧(∀(x:NearT),x∈Zau s5→AAo9 x)∧layOk (Zct s5)=true)∧q9=usedS (Zau s5) sl6 of7 but8)∧BIf q9 (K .normal (Zab::Zab::Zad (i64 me)::Zab::Zad (i64 fr)::Zae 0 0::Zae 1 0::bds 3 (Zae 2 0::Zah (Qz2 s)::bds 6 (Zae 3 0::bds 65 (Zad (Zaj 31 (rowsN (Zau s)))::Zad (i64 ((Zaa (Zau s):Nat):Int))::Zad (i64 i)::bds 9 (Zad (Zaj 3 (rowsA ak))::Zad (i64 ((Zaa ak:Nat):Int))::Zad (i64 (Zac .i64 (j+1)))::bds 37 []))))) (Qz42 ly t n) b) (∃(t10:TabT) (z11:TabT) (ly12:LayT) (u13:GraT) (e14:Int), [Zan (Qz1 t),Zan (Qz3 ly),Zan [Zad (i64 x0),Zad (i64 x1),Zad (i64 (Zcy n)),Zad (i64 fr),Zad (i64 (Zac .i64 (fr+8)))]]= [Zan (Qz1 t10),Zan (Qz3 ly12),Zan (Qz5 u13)]∧(TabOk t10∧z11=addSG t10 ly12 u13∧e14=refEG t10 ly12 u13)∧BIf (e14==(0:Int)) (K .normal (Zab::Zab::Zad (i64 me)::Zab::Zad (i64 fr)::Zae 0 0::Zae 1 0::bds 3 (Zae 2 0::Zah (Qz2 s)::bds 6 (Zae 3 0::bds 65 (Zad (Zaj 31 (rowsN (Zau s)))::Zad (i64 ((Zaa (Zau s):Nat):Int))::Zad (i64 i)::bds 9 (Zad (Zaj 3 (rowsA ak))::Zad (i64 ((Zaa ak:Nat):Int))::Zad (i64 (Zac .i64 (j+1)))::bds 37 []))))) (Qz42 ly z11 n) b) (K .normal (Zab::Zab::Zad (i64 me)::Zab::Zad (i64 fr)::Zae 0 0::Zae 1 0::bds 3 (Zae 2 0::Zah (Qz2 s)::bds 6 (Zae 3 0::bds 65 (Zad (Zaj 31 (rowsN (Zau s)))::Zad (i64 ((Zaa (Zau s):Nat):Int))::Zad (i64 i)::bds 9 (Zad (Zaj 3 (rowsA ak))::Zad (i64 ((Zaa ak:Nat):Int))::Zad (i64 (Zac .i64 (j+1)))::bds 37 []))))) (Qz42 ly t n) b)))) False) (K (Zba 4) (Zab::Zab::Zad (i64 me)::Zab::Zad (i64 fr)::Zae 0 0::Zae 1 0::bds 3 (Zae 2 0::Zah (Qz2 s)::bds 6 (Zae 3 0::bds 65 (Zad (Zaj 31 (rowsN (Zau s)))::Zad (i64 ((Zaa (Zau s):Nat):Int))::Zad (i64 i)::bds 9 (Zad (Zaj 3 (rowsA ak))::Zad (i64 ((Zaa ak:Nat):Int))::Zad (i64 j)::bds 37 []))))) (Qz42 ly t n) b)):=by kernel_rfl
abbrev Qz29 (v0:LayT) (v1:TabT) (v2:List AV) (v3:NearT):= [bk (Qz3 v0),bk (Qz1 v1),bk Qz4,Blk.mk v2 true true 0,nearB v3]
theorem rG3_4 (s:SideT) (ly:LayT) (t:TabT) (n:NearT) (me fr i:Int) (ak:List AskT) (j:Int) (cs:List AV):wpc prog ⟨TG3, [],wl,y,false⟩ 100 lpG3 (tmG3 4 s me fr i ak j) [layB ly,tabB t,resB,frozB cs,nearB n] b (maskK 5 [2,4,5,6,10,11,18,84,85,86,96,97,98] K)=(BIf (decide (j<((Zaa ak:Nat):Int))) (BIf (true&&decide (0≤j)) (∃(x0:Int) (x1:Int) (x2:Int),(rowsA ak)[Zak j]? =some [i64 x0,i64 x1,i64 x2]∧BIf (x2 !=me) (BIf (Zbl (Qz29 ly t cs n) fun (blk5:Blk)=>lows 5 blk5.1) (K .normal (Zab::Zab::Zad (i64 me)::Zab::Zad (i64 fr)::Zae 0 0::Zae 1 0::bds 3 (Zae 2 0::Zah (Qz2 s)::bds 6 (Zae 4 0::bds 65 (Zad (Zaj 31 (rowsN (Zau s)))::Zad (i64 ((Zaa (Zau s):Nat):Int))::Zad (i64 i)::bds 9 (Zad (Zaj 3 (rowsA ak))::Zad (i64 ((Zaa ak:Nat):Int))::Zad (i64 (Zac .i64 (j+1)))::bds 37 []))))) (Qz29 ly t cs n) b) False) (∃(s6:SideT) (sl7:Int) (of8:Int) (but9:Int) (q10:Bool), [Zah (Qz2 s),Zan [Zad (i64 x0),Zad (i64 x1)],Zad (i64 (Zcy n))]= [Zah (Qz2 s6),Zan [Zad (i64 sl7),Zad (i64 of8)],Zad (i64 but9)]∧((Zaa (Zau s6)≤9223372036854775807∧(∀(x:NearT),x∈Zau s6→AAo9 x)∧layOk (Zct s6)=true)∧q10=usedS (Zau s6) sl7 of8 but9)∧BIf q10 (BIf (Zbl (Qz29 ly t cs n) fun (blk11:Blk)=>lows 5 blk11.1) (K .normal (Zab::Zab::Zad (i64 me)::Zab::Zad (i64 fr)::Zae 0 0::Zae 1 0::bds 3 (Zae 2 0::Zah (Qz2 s)::bds 6 (Zae 4 0::bds 65 (Zad (Zaj 31 (rowsN (Zau s)))::Zad (i64 ((Zaa (Zau s):Nat):Int))::Zad (i64 i)::bds 9 (Zad (Zaj 3 (rowsA ak))::Zad (i64 ((Zaa ak:Nat):Int))::Zad (i64 (Zac .i64 (j+1)))::bds 37 []))))) (Qz29 ly t cs n) b) False) (∃(t12:TabT) (z13:TabT) (ly14:LayT) (u15:GraT) (e16:Int), [Zan (Qz1 t),Zan (Qz3 ly),Zan [Zad (i64 x0),Zad (i64 x1),Zad (i64 (Zcy n)),Zad (i64 fr),Zad (i64 (Zac .i64 (fr+8)))]]= [Zan (Qz1 t12),Zan (Qz3 ly14),Zan (Qz5 u15)]∧(TabOk t12∧z13=addSG t12 ly14 u15∧e16=refEG t12 ly14 u15)∧BIf (e16==(0:Int)) (BIf (Zbl (Qz29 ly z13 cs n) fun (blk17:Blk)=>lows 5 blk17.1) (K .normal (Zab::Zab::Zad (i64 me)::Zab::Zad (i64 fr)::Zae 0 0::Zae 1 0::bds 3 (Zae 2 0::Zah (Qz2 s)::bds 6 (Zae 4 0::bds 65 (Zad (Zaj 31 (rowsN (Zau s)))::Zad (i64 ((Zaa (Zau s):Nat):Int))::Zad (i64 i)::bds 9 (Zad (Zaj 3 (rowsA ak))::Zad (i64 ((Zaa ak:Nat):Int))::Zad (i64 (Zac .i64 (j+1)))::bds 37 []))))) (Qz29 ly z13 cs n) b) False) (BIf (Zbl (Qz29 ly t cs n) fun (blk18:Blk)=>lows 5 blk18.1) (K .normal (Zab::Zab::Zad (i64 me)::Zab::Zad (i64 fr)::Zae 0 0::Zae 1 0::bds 3 (Zae 2 0::Zah (Qz2 s)::bds 6 (Zae 4 0::bds 65 (Zad (Zaj 31 (rowsN (Zau s)))::Zad (i64 ((Zaa (Zau s):Nat):Int))::Zad (i64 i)::bds 9 (Zad (Zaj 3 (rowsA ak))::Zad (i64 ((Zaa ak:Nat):Int))::Zad (i64 (Zac .i64 (j+1)))::bds 37 []))))) (Qz29 ly t cs n) b) False)))) False) (BIf (Zbl (Qz29 ly t cs n) fun (blk19:Blk)=>lows 5 blk19.1) (K (Zba 4) (Zab::Zab::Zad (i64 me)::Zab::Zad (i64 fr)::Zae 0 0::Zae 1 0::bds 3 (Zae 2 0::Zah (Qz2 s)::bds 6 (Zae 4 0::bds 65 (Zad (Zaj 31 (rowsN (Zau s)))::Zad (i64 ((Zaa (Zau s):Nat):Int))::Zad (i64 i)::bds 9 (Zad (Zaj 3 (rowsA ak))::Zad (i64 ((Zaa ak:Nat):Int))::Zad (i64 j)::bds 37 []))))) (Qz29 ly t cs n) b) False)):=by kernel_rfl
variable {Ev:Env prog} {b0:Ev.β} {Q:Exit→St Ev.β→Prop}
def newG (fr:Int) (n:NearT) (a:AskT):GraT:=⟨a.sl,a.of,n.fm,fr,Zac Zbb (fr+8)⟩
def AAs9 (s:SideT) (ly:LayT) (me fr:Int) (n:NearT) (t:TabT) (a:AskT):TabT:=
 if (a.pe !=me||usedS s.ns a.sl a.of n.fm)=true then t else if refEG t ly (newG fr n a)=0 then addSG t ly (newG fr n a) else t
theorem ALh9 {t:TabT} {l:LayT} (h:ACq9 t l=true):t.us.length+t.gs.length≤24∧t.ak.length≤24:=by
 unfold ACq9 at h;split at h<;>try (cases h;done)
 split at h<;>try (cases h;done)
 split at h<;>try (cases h;done)
 split at h<;>try (cases h;done)
 split at h<;>try (cases h;done)
 split at h<;>try (cases h;done)
 omega
theorem AUy9 {α:Type} (p:α→Bool) (g:α):∀l:List α,(insP p g l).length=l.length+1
 | []=>rfl
 | x::r=>by
  rw [insP];split
  ·rfl
  ·rw [Zfr,AUy9 p g r,Zfr]
theorem AHa9 {t:TabT} {ly:LayT} {sl:Int} {ok:Bool} (h:refS t ly sl ok=0):ACq9 t ly=true∧ok=true∧busyT t sl=false∧t.us.length+t.gs.length<24:=by
 unfold refS at h;split at h
 ·rename_i h1;rw [Zal] at h1;split at h
  ·cases h
  ·rename_i h2;split at h
   ·cases h
   ·rename_i h3;exact ⟨h1.1,h1.2,by simpa using h2,by omega⟩
 ·cases h
theorem BKs9 {t:TabT} {ly:LayT} {u:GraT} (h:refEG t ly u=0):TabOk (addSG t ly u):=by
 obtain ⟨h1,_,_,h4⟩:=AHa9 h;have h5:=ALh9 h1;rw [addSG,if_pos h];refine ⟨by simp only;omega, ?_, ?_⟩
 ·simp only [insSG,AUy9];omega
 ·have:=Zcd (fun x:AskT=> !(x.sl==u.sl)) t.ak;simp only [AJp9];omega
theorem BKr9 {t:TabT} {ly:LayT} {u:UseT} (h:refEU t ly u=0):TabOk (addSU t ly u):=by
 obtain ⟨h1,_,_,h4⟩:=AHa9 h;have h5:=ALh9 h1;rw [addSU,if_pos h];refine ⟨?_,by simp only;omega, ?_⟩
 ·simp only [insSU,AUy9];omega
 ·have:=Zcd (fun x:AskT=> !(x.sl==u.sl)) t.ak;simp only [AJp9];omega
theorem BAq9 {s:SideT} {ly:LayT} {me fr:Int} {n:NearT} {t:TabT} {a:AskT} (h:TabOk t):TabOk (AAs9 s ly me fr n t a):=by
 unfold AAs9;split
 ·exact h
 ·split
  ·rename_i h1;exact BKs9 h1
  ·exact h
theorem AXn9 {s:SideT} {ly:LayT} {me fr:Int} {n:NearT}:∀(l:List AskT) {t:TabT},TabOk t→TabOk (l.foldl (AAs9 s ly me fr n) t)
 | [],t,h=>h
 |a::l,t,h=>AXn9 l (BAq9 h)
theorem ACe9 {α β:Type} (f:β→α→β) (t:β) {l:List α} {i:Nat} {a:α} (h:l[i]? =some a):(l.take (i+1)).foldl f t=f ((l.take i).foldl f t) a:=by
 rw [Zem,h,List.foldl_append];rfl
def g3B_3 (ly:LayT) (n:NearT) (t:TabT):List Blk:= [layB ly,tabB t,resB,nearB n]
theorem BXc9 (ly:LayT) (n:NearT) (t:TabT):Zbl (g3B_3 ly n t) (fun blk=>lows 4 blk.1)=true:=by
 simp only [g3B_3,List.all_cons,List.all_nil,Bool.and_true,Zal];exact ⟨rfl,rfl,rfl,rfl⟩
theorem CId9 (s:SideT) (ly:LayT) (t:TabT) (n:NearT) (me fr i:Int) (ak:List AskT) (hs:ANa9 s) (ht:TabOk t) (hl:ak.length<1000000)
 (hQ:Q (.exit 4) ⟨tmG3 3 s me fr i ak ak.length,g3B_3 ly n (ak.foldl (AAs9 s ly me fr n) t),b0⟩):WR Ev lpG3 (ak.length+1) ⟨tmG3 3 s me fr i ak (0:Nat),g3B_3 ly n t,b0⟩ Q:=by
 have low:=BXc9 ly n;refine WR.scanG (X:=⟨TG3, [],wlW Ev,Ev.Y,false⟩) (k:=100) (L:=4) [2,4,5,6,10,11,18,84,85,86,96,97,98] mixed (CX.Ok.of BQp9 Zar) ak (fun _=>false) (fun j=>tmG3 3 s me fr i ak (j:Nat)) (fun j=>g3B_3 ly n ((ak.take j).foldl (AAs9 s ly me fr n) t)) (fun _=>rfl) 4 0 (fun j a _ hj ha K _ k2=> ?_) (fun K k1=> ?_) (fun _=>by rw [Zdc];exact hQ) (fun h=>by simp at h) ak.length 0 (by simp) (Zat _) rfl
 ·have hk:=k2 rfl;have htj:TabOk ((ak.take j).foldl (AAs9 s ly me fr n) t):=AXn9 _ ht;rw [ACe9 _ _ ha] at hk;generalize (ak.take j).foldl (AAs9 s ly me fr n) t=tj at hk htj ⊢;refine Eq.mpr (rG3_3 _ _ _ K s ly tj n me fr i ak j) ?_;refine Zas (by simp;omega) (Zas (natI j) ⟨_,_,_,ABd9 ha,Zax (fun h1=> ?_) fun h1=>⟨s,a.sl,a.of,n.fm,_,rfl,⟨hs,rfl⟩,Zax (fun h2=> ?_) fun h2=>⟨tj,_,ly,newG fr n a,_,rfl,⟨htj,rfl,rfl⟩,Zax (fun h3=> ?_) fun h3=> ?_⟩⟩⟩)
  ·rw [wrapN (by omega)];have e:AAs9 s ly me fr n tj a=tj:=by rw [AAs9,show (a.pe !=me)=true from h1];rfl
   rw [e] at hk;exact hk
  ·rw [wrapN (by omega)];have e:AAs9 s ly me fr n tj a=tj:=by rw [AAs9,h2,Zdf];rfl
   rw [e] at hk;exact hk
  ·rw [wrapN (by omega)];have h3':refEG tj ly (newG fr n a)=0:=by simpa using h3
   have e:AAs9 s ly me fr n tj a=addSG tj ly (newG fr n a):=by rw [AAs9,show (a.pe !=me)=false from h1,h2,if_pos h3'];rfl
   rw [e] at hk;exact hk
  ·rw [wrapN (by omega)];have h3':¬refEG tj ly (newG fr n a)=0:=by simpa using h3
   have e:AAs9 s ly me fr n tj a=tj:=by rw [AAs9,show (a.pe !=me)=false from h1,h2,if_neg h3'];rfl
   rw [e] at hk;exact hk
 ·refine Eq.mpr (rG3_3 _ _ _ K s ly _ n me fr i ak ak.length) ?_;exact Zci (by simp) k1
def BUj9 {β:Type}:WLT β:=fun cd tm hp b K=>∃(s:SideT) (ly:LayT) (t:TabT) (n:NearT) (me fr i:Int) (ak:List AskT) (q:TabT),cd= .loop lpG3∧AAn9 [2,4,5,6,10,11,18,84,85,86,96,97,98] 0 tm=tmG3 3 s me fr i ak 0∧hp=g3B_3 ly n t∧(ANa9 s∧TabOk t∧ak.length<1000000∧q=ak.foldl (AAs9 s ly me fr n) t)∧K (.exit 4) (tmG3 3 s me fr i ak ak.length) (g3B_3 ly n q) b
theorem BLu9:WlOk Ev BUj9:=by
 rintro c tm hp b K ⟨s,ly,t,n,me,fr,i,ak,_,rfl,htm,rfl,⟨hs,ht,hl,rfl⟩,hK⟩;refine W.cast (htm▸AAc9 _ tm 0) (Zbg _) ?_;exact W.rounds (CId9 (Q:=fun e s=>K e s.tm s.hp s.b) s ly t n me fr i ak hs ht hl hK)
def g3B_4 (cs:List AV) (ly:LayT) (n:NearT) (t:TabT):List Blk:= [layB ly,tabB t,resB,frozB cs,nearB n]
theorem BXb9 (cs:List AV) (hcs:lows 5 cs=true) (ly:LayT) (n:NearT) (t:TabT):Zbl (g3B_4 cs ly n t) (fun blk=>lows 5 blk.1)=true:=by
 simp only [g3B_4,List.all_cons,List.all_nil,Bool.and_true,Zal];exact ⟨rfl,rfl,rfl,hcs,rfl⟩
theorem CIc9 (cs:List AV) (hcs:lows 5 cs=true) (s:SideT) (ly:LayT) (t:TabT) (n:NearT) (me fr i:Int) (ak:List AskT) (hs:ANa9 s) (ht:TabOk t) (hl:ak.length<1000000)
 (hQ:Q (.exit 4) ⟨tmG3 4 s me fr i ak ak.length,g3B_4 cs ly n (ak.foldl (AAs9 s ly me fr n) t),b0⟩):WR Ev lpG3 (ak.length+1) ⟨tmG3 4 s me fr i ak (0:Nat),g3B_4 cs ly n t,b0⟩ Q:=by
 have low:=BXb9 cs hcs ly n;refine WR.scanG (X:=⟨TG3, [],wlW Ev,Ev.Y,false⟩) (k:=100) (L:=5) [2,4,5,6,10,11,18,84,85,86,96,97,98] mixed (CX.Ok.of BQp9 Zar) ak (fun _=>false) (fun j=>tmG3 4 s me fr i ak (j:Nat)) (fun j=>g3B_4 cs ly n ((ak.take j).foldl (AAs9 s ly me fr n) t)) (fun _=>rfl) 4 0 (fun j a _ hj ha K _ k2=> ?_) (fun K k1=> ?_) (fun _=>by rw [Zdc];exact hQ) (fun h=>by simp at h) ak.length 0 (by simp) (Zat _) rfl
 ·have hk:=k2 rfl;have htj:TabOk ((ak.take j).foldl (AAs9 s ly me fr n) t):=AXn9 _ ht;rw [ACe9 _ _ ha] at hk;generalize (ak.take j).foldl (AAs9 s ly me fr n) t=tj at hk htj ⊢;refine Eq.mpr (rG3_4 _ _ _ K s ly tj n me fr i ak j cs) ?_;refine Zas (by simp;omega) (Zas (natI j) ⟨_,_,_,ABd9 ha,Zax (fun h1=> ?_) fun h1=>⟨s,a.sl,a.of,n.fm,_,rfl,⟨hs,rfl⟩,Zax (fun h2=> ?_) fun h2=>⟨tj,_,ly,newG fr n a,_,rfl,⟨htj,rfl,rfl⟩,Zax (fun h3=> ?_) fun h3=> ?_⟩⟩⟩)
  ·rw [wrapN (by omega)];have e:AAs9 s ly me fr n tj a=tj:=by rw [AAs9,show (a.pe !=me)=true from h1];rfl
   rw [e] at hk;exact Zas (low tj) hk
  ·rw [wrapN (by omega)];have e:AAs9 s ly me fr n tj a=tj:=by rw [AAs9,h2,Zdf];rfl
   rw [e] at hk;exact Zas (low tj) hk
  ·rw [wrapN (by omega)];have h3':refEG tj ly (newG fr n a)=0:=by simpa using h3
   have e:AAs9 s ly me fr n tj a=addSG tj ly (newG fr n a):=by rw [AAs9,show (a.pe !=me)=false from h1,h2,if_pos h3'];rfl
   rw [e] at hk;exact Zas (low _) hk
  ·rw [wrapN (by omega)];have h3':¬refEG tj ly (newG fr n a)=0:=by simpa using h3
   have e:AAs9 s ly me fr n tj a=tj:=by rw [AAs9,show (a.pe !=me)=false from h1,h2,if_neg h3'];rfl
   rw [e] at hk;exact Zas (low _) hk
 ·refine Eq.mpr (rG3_4 _ _ _ K s ly _ n me fr i ak ak.length cs) ?_;exact Zci (by simp) (Zas (low _) k1)
def BUi9 {β:Type}:WLT β:=fun cd tm hp b K=>∃(cs:List AV) (s:SideT) (ly:LayT) (t:TabT) (n:NearT) (me fr i:Int) (ak:List AskT) (q:TabT),cd= .loop lpG3∧AAn9 [2,4,5,6,10,11,18,84,85,86,96,97,98] 0 tm=tmG3 4 s me fr i ak 0∧hp=g3B_4 cs ly n t∧(lows 5 cs=true∧ANa9 s∧TabOk t∧ak.length<1000000∧q=ak.foldl (AAs9 s ly me fr n) t)∧K (.exit 4) (tmG3 4 s me fr i ak ak.length) (g3B_4 cs ly n q) b
theorem BLt9:WlOk Ev BUi9:=by
 rintro c tm hp b K ⟨cs,s,ly,t,n,me,fr,i,ak,_,rfl,htm,rfl,⟨hcs,hs,ht,hl,rfl⟩,hK⟩;refine W.cast (htm▸AAc9 _ tm 0) (Zbg _) ?_;exact W.rounds (CIc9 (Q:=fun e s=>K e s.tm s.hp s.b) cs hcs s ly t n me fr i ak hs ht hl hK)
theorem rG2_3 (s:SideT) (ly:LayT) (t:TabT) (me fr i:Int):wpc prog ⟨TG3, [],BUj9,y,false⟩ 100 lpG2 (tmG2 s me fr i) [layB ly,tabB t,resB] b (maskK 3 [2,4,5,6,10,11,84,85,86] K)=(BIf (decide (i<((Zaa (Zau s):Nat):Int))) (BIf (true&&decide (0≤i)) (∃(n0:NearT),(rowsN (Zau s))[Zak i]? =some (nearR n0)∧∃(s3:SideT) (n4:NearT) (q5:Bool), [Zah (Qz2 s),nearA n0]= [Zah (Qz2 s3),nearA n4]∧q5=APo9 s3 n4∧BIf (!q5) (K .normal (Zab::Zab::Zad (i64 me)::Zab::Zad (i64 fr)::Zae 0 0::Zae 1 0::bds 3 (Zae 2 0::Zah (Qz2 s)::bds 72 (Zad (Zaj 31 (rowsN (Zau s)))::Zad (i64 ((Zaa (Zau s):Nat):Int))::Zad (i64 (Zac .i64 (i+1)))::bds 49 []))) [bk (Qz3 ly),bk (Qz1 t),bk Qz4] b) (∃(s6:SideT) (ly7:LayT) (t8:TabT) (n9:NearT) (me10:Int) (fr11:Int) (i12:Int) (ak13:List AskT) (q14:TabT),Zaq lpG3=Zaq lpG3∧(Zab::Zab::Zad (i64 me)::Zab::Zad (i64 fr)::Zae 0 0::Zae 1 0::bds 3 (Zae 2 0::Zah (Qz2 s)::bds 6 (Zae 3 0::bds 65 (Zad (Zaj 31 (rowsN (Zau s)))::Zad (i64 ((Zaa (Zau s):Nat):Int))::Zad (i64 i)::bds 9 (Zad (Zaj 3 (rowsA (Zdw n0)))::Zad (i64 ((Zaa (rowsA (Zdw n0)):Nat):Int))::Zad (i64 0)::bds 37 [])))))=(Zab::Zab::Zad (i64 me10)::Zab::Zad (i64 fr11)::Zae 0 0::Zae 1 0::bds 3 (Zae 2 0::Zah (Qz2 s6)::bds 6 (Zae 3 0::bds 65 (Zad (Zaj 31 (rowsN (Zau s6)))::Zad (i64 ((Zaa (Zau s6):Nat):Int))::Zad (i64 i12)::bds 9 (Zad (Zaj 3 (rowsA ak13))::Zad (i64 ((Zaa ak13:Nat):Int))::Zad (i64 0)::bds 37 [])))))∧(Qz42 ly t n0)=(Qz42 ly7 t8 n9)∧((Zaa (Zau s6)≤9223372036854775807∧(∀(x:NearT),x∈Zau s6→AAo9 x)∧layOk (Zct s6)=true)∧TabOk t8∧Zaa ak13<1000000∧q14=List.foldl (AAs9 s6 ly7 me10 fr11 n9) t8 ak13)∧K .normal (Zab::Zab::Zad (i64 me10)::Zab::Zad (i64 fr11)::Zae 0 0::Zae 1 0::bds 3 (Zae 2 0::Zah (Qz2 s6)::bds 72 (Zad (Zaj 31 (rowsN (Zau s6)))::Zad (i64 ((Zaa (Zau s6):Nat):Int))::Zad (i64 (Zac .i64 (i12+1)))::bds 49 []))) [bk (Qz3 ly7),bk (Qz1 q14),bk Qz4] b)) False) (K (Zba 2) (Zab::Zab::Zad (i64 me)::Zab::Zad (i64 fr)::Zae 0 0::Zae 1 0::bds 3 (Zae 2 0::Zah (Qz2 s)::bds 72 (Zad (Zaj 31 (rowsN (Zau s)))::Zad (i64 ((Zaa (Zau s):Nat):Int))::Zad (i64 i)::bds 49 []))) [bk (Qz3 ly),bk (Qz1 t),bk Qz4] b)):=by kernel_rfl
abbrev Qz54 (v0:LayT) (v1:TabT) (v2:List AV):= [bk (Qz3 v0),bk (Qz1 v1),bk Qz4,Blk.mk v2 true true 0]
theorem rG2_4 (s:SideT) (ly:LayT) (t:TabT) (me fr i:Int) (cs:List AV):wpc prog ⟨TG3, [],BUi9,y,false⟩ 100 lpG2 (tmG2 s me fr i) [layB ly,tabB t,resB,frozB cs] b (maskK 4 [2,4,5,6,10,11,84,85,86] K)=(BIf (decide (i<((Zaa (Zau s):Nat):Int))) (BIf (true&&decide (0≤i)) (∃(n0:NearT),(rowsN (Zau s))[Zak i]? =some (nearR n0)∧∃(s3:SideT) (n4:NearT) (q5:Bool), [Zah (Qz2 s),nearA n0]= [Zah (Qz2 s3),nearA n4]∧q5=APo9 s3 n4∧BIf (!q5) (BIf (Zbl (Qz54 ly t cs) fun (blk6:Blk)=>lows 4 blk6.1) (K .normal (Zab::Zab::Zad (i64 me)::Zab::Zad (i64 fr)::Zae 0 0::Zae 1 0::bds 3 (Zae 2 0::Zah (Qz2 s)::bds 72 (Zad (Zaj 31 (rowsN (Zau s)))::Zad (i64 ((Zaa (Zau s):Nat):Int))::Zad (i64 (Zac .i64 (i+1)))::bds 49 []))) (Qz54 ly t cs) b) False) (∃(cs7:List AV) (s8:SideT) (ly9:LayT) (t10:TabT) (n11:NearT) (me12:Int) (fr13:Int) (i14:Int) (ak15:List AskT) (q16:TabT),Zaq lpG3=Zaq lpG3∧(Zab::Zab::Zad (i64 me)::Zab::Zad (i64 fr)::Zae 0 0::Zae 1 0::bds 3 (Zae 2 0::Zah (Qz2 s)::bds 6 (Zae 4 0::bds 65 (Zad (Zaj 31 (rowsN (Zau s)))::Zad (i64 ((Zaa (Zau s):Nat):Int))::Zad (i64 i)::bds 9 (Zad (Zaj 3 (rowsA (Zdw n0)))::Zad (i64 ((Zaa (rowsA (Zdw n0)):Nat):Int))::Zad (i64 0)::bds 37 [])))))=(Zab::Zab::Zad (i64 me12)::Zab::Zad (i64 fr13)::Zae 0 0::Zae 1 0::bds 3 (Zae 2 0::Zah (Qz2 s8)::bds 6 (Zae 4 0::bds 65 (Zad (Zaj 31 (rowsN (Zau s8)))::Zad (i64 ((Zaa (Zau s8):Nat):Int))::Zad (i64 i14)::bds 9 (Zad (Zaj 3 (rowsA ak15))::Zad (i64 ((Zaa ak15:Nat):Int))::Zad (i64 0)::bds 37 [])))))∧(Qz29 ly t cs n0)=(Qz29 ly9 t10 cs7 n11)∧(lows 5 cs7=true∧(Zaa (Zau s8)≤9223372036854775807∧(∀(x:NearT),x∈Zau s8→AAo9 x)∧layOk (Zct s8)=true)∧TabOk t10∧Zaa ak15<1000000∧q16=List.foldl (AAs9 s8 ly9 me12 fr13 n11) t10 ak15)∧BIf (Zbl (Qz54 ly9 q16 cs7) fun (blk17:Blk)=>lows 4 blk17.1) (K .normal (Zab::Zab::Zad (i64 me12)::Zab::Zad (i64 fr13)::Zae 0 0::Zae 1 0::bds 3 (Zae 2 0::Zah (Qz2 s8)::bds 72 (Zad (Zaj 31 (rowsN (Zau s8)))::Zad (i64 ((Zaa (Zau s8):Nat):Int))::Zad (i64 (Zac .i64 (i14+1)))::bds 49 []))) (Qz54 ly9 q16 cs7) b) False)) False) (BIf (Zbl (Qz54 ly t cs) fun (blk18:Blk)=>lows 4 blk18.1) (K (Zba 2) (Zab::Zab::Zad (i64 me)::Zab::Zad (i64 fr)::Zae 0 0::Zae 1 0::bds 3 (Zae 2 0::Zah (Qz2 s)::bds 72 (Zad (Zaj 31 (rowsN (Zau s)))::Zad (i64 ((Zaa (Zau s):Nat):Int))::Zad (i64 i)::bds 49 []))) (Qz54 ly t cs) b) False)):=by kernel_rfl
variable {Ev:Env prog} {b0:Ev.β} {Q:Exit→St Ev.β→Prop}
def AFu9 (s:SideT) (ly:LayT) (me fr:Int) (t:TabT) (n:NearT):TabT:=if APo9 s n=true then n.ak.foldl (AAs9 s ly me fr n) t else t
theorem BNy9 {s:SideT} {ly:LayT} {me fr:Int} {t:TabT} {n:NearT} (h:TabOk t):TabOk (AFu9 s ly me fr t n):=by
 unfold AFu9;split
 ·exact AXn9 _ h
 ·exact h
theorem AVb9 {s:SideT} {ly:LayT} {me fr:Int}:∀(l:List NearT) {t:TabT},TabOk t→TabOk (l.foldl (AFu9 s ly me fr) t)
 | [],t,h=>h
 |a::l,t,h=>AVb9 l (BNy9 h)
def g2B_3 (ly:LayT) (t:TabT):List Blk:= [layB ly,tabB t,resB]
theorem CIf9 (s:SideT) (ly:LayT) (t:TabT) (me fr:Int) (hs:ANa9 s) (hs2:AGx9 s) (ht:TabOk t) (hl:s.ns.length<1000000)
 (hQ:Q (.exit 2) ⟨tmG2 s me fr s.ns.length,g2B_3 ly (s.ns.foldl (AFu9 s ly me fr) t),b0⟩):WR Ev lpG2 (s.ns.length+1) ⟨tmG2 s me fr (0:Nat),g2B_3 ly t,b0⟩ Q:=by
 refine WR.scanG (X:=⟨TG3, [],BUj9,Ev.Y,false⟩) (k:=100) (L:=3) [2,4,5,6,10,11,84,85,86] mixed (CX.Ok.ofWl BQp9 Zar BLu9) s.ns (fun _=>false) (fun i=>tmG2 s me fr (i:Nat)) (fun i=>g2B_3 ly ((s.ns.take i).foldl (AFu9 s ly me fr) t)) (fun _=>rfl) 2 0 (fun i n _ hi hn K _ k2=> ?_) (fun K k1=> ?_) (fun _=>by rw [Zdc];exact hQ) (fun h=>by simp at h) s.ns.length 0 (by simp) (Zat _) rfl
 ·have hk:=k2 rfl;have hti:TabOk ((s.ns.take i).foldl (AFu9 s ly me fr) t):=AVb9 _ ht;rw [ACe9 _ _ hn] at hk;generalize (s.ns.take i).foldl (AFu9 s ly me fr) t=ti at hk hti ⊢;have hnl:=hs2.2 n (Zbj hn);refine Eq.mpr (rG2_3 _ _ K s ly ti me fr i) ?_;refine Zas (by simp;omega) (Zas (natI i) ⟨_,AAr9 hn,s,n,_,rfl,rfl,Zax (fun h1=> ?_) fun h1=> ?_⟩)
  ·rw [wrapN (by omega)];rw [Zcb] at h1;rw [AFu9,h1,if_neg (by decide)] at hk;exact hk
  ·rw [Zcx] at h1;rw [AFu9,h1,if_pos rfl] at hk;refine ⟨s,ly,ti,n,me,fr,i,n.ak,_,rfl, ?_,rfl,⟨hs,hti,hnl.2.2,rfl⟩, ?_⟩
   ·first|rfl|rw [AAi9]
   ·rw [wrapN (by omega)];exact hk
 ·refine Eq.mpr (rG2_3 _ _ K s ly _ me fr s.ns.length) ?_;exact Zci (by simp) k1
def g2B_4 (cs:List AV) (ly:LayT) (t:TabT):List Blk:= [layB ly,tabB t,resB,frozB cs]
theorem CIe9 (cs:List AV) (hc4:lows 4 cs=true) (hcs:lows 5 cs=true) (s:SideT) (ly:LayT) (t:TabT) (me fr:Int) (hs:ANa9 s) (hs2:AGx9 s) (ht:TabOk t) (hl:s.ns.length<1000000)
 (hQ:Q (.exit 2) ⟨tmG2 s me fr s.ns.length,g2B_4 cs ly (s.ns.foldl (AFu9 s ly me fr) t),b0⟩):WR Ev lpG2 (s.ns.length+1) ⟨tmG2 s me fr (0:Nat),g2B_4 cs ly t,b0⟩ Q:=by
 have low:∀t:TabT,Zbl (g2B_4 cs ly t) (fun blk=>lows 4 blk.1)=true:=fun t=>by
  simp only [g2B_4,List.all_cons,List.all_nil,Bool.and_true,Zal];exact ⟨rfl,rfl,rfl,hc4⟩
 refine WR.scanG (X:=⟨TG3, [],BUi9,Ev.Y,false⟩) (k:=100) (L:=4) [2,4,5,6,10,11,84,85,86] mixed (CX.Ok.ofWl BQp9 Zar BLt9) s.ns (fun _=>false) (fun i=>tmG2 s me fr (i:Nat)) (fun i=>g2B_4 cs ly ((s.ns.take i).foldl (AFu9 s ly me fr) t)) (fun _=>rfl) 2 0 (fun i n _ hi hn K _ k2=> ?_) (fun K k1=> ?_) (fun _=>by rw [Zdc];exact hQ) (fun h=>by simp at h) s.ns.length 0 (by simp) (Zat _) rfl
 ·have hk:=k2 rfl;have hti:TabOk ((s.ns.take i).foldl (AFu9 s ly me fr) t):=AVb9 _ ht;rw [ACe9 _ _ hn] at hk;generalize (s.ns.take i).foldl (AFu9 s ly me fr) t=ti at hk hti ⊢;have hnl:=hs2.2 n (Zbj hn);refine Eq.mpr (rG2_4 _ _ K s ly ti me fr i cs) ?_;refine Zas (by simp;omega) (Zas (natI i) ⟨_,AAr9 hn,s,n,_,rfl,rfl,Zax (fun h1=> ?_) fun h1=> ?_⟩)
  ·rw [wrapN (by omega)];rw [Zcb] at h1;rw [AFu9,h1,if_neg (by decide)] at hk;exact Zas (low _) hk
  ·rw [Zcx] at h1;rw [AFu9,h1,if_pos rfl] at hk;refine ⟨cs,s,ly,ti,n,me,fr,i,n.ak,_,rfl, ?_,rfl,⟨hcs,hs,hti,hnl.2.2,rfl⟩, ?_⟩
   ·first|rfl|rw [AAi9]
   ·rw [wrapN (by omega)];exact Zas (low _) hk
 ·refine Eq.mpr (rG2_4 _ _ K s ly _ me fr s.ns.length cs) ?_;exact Zci (by simp) (Zas (low _) k1)
def AKa9 (s:SideT) (ly:LayT) (me fr:Int) (t:TabT):TabT:=s.ns.foldl (AFu9 s ly me fr) t
def wlG2 {β:Type}:WLT β:=fun cd tm hp b K=>∃(s:SideT) (ly:LayT) (us:List UseT) (gs:List GraT) (ak:List AskT) (me fr:Int) (q:TabT),cd= .loop lpG2∧AAn9 [2,4,5,6,10,11,84,85,86] 0 tm=tmG2 s me fr 0∧
 (ANa9 s∧AGx9 s∧TabOk ⟨us,gs,ak⟩∧s.ns.length<1000000∧q=AKa9 s ly me fr ⟨us,gs,ak⟩)∧
 match hp with
 | [b0,b1,b2]=>gs= []∧b0=layB ly∧b1=grtB us (.d (.sl 5 [])) ak∧b2=resB∧K (.exit 2) (tmG2 s me fr s.ns.length) [layB ly,tabB q,resB] b
 | [b0,b1,b2,b3]=>b0=layB ly∧b1=grtB us (.gref 3 0 gs.length 5) ak∧b2=resB∧b3=growB 0 (flatA (rowsG gs))∧K (.exit 2) (tmG2 s me fr s.ns.length) [layB ly,tabB q,resB,frozB (flatA (rowsG gs))] b
 |_=>False
theorem CBv9:WlOk Ev wlG2:=by
 rintro c tm hp b K ⟨s,ly,us,gs,ak,me,fr,q,rfl,htm,⟨hs,hs2,ht,hl,rfl⟩,h⟩;refine W.cast (htm▸AAc9 _ tm 0) (Zbg _) ?_;split at h
 ·obtain ⟨rfl,rfl,rfl,rfl,hK⟩:=h;exact W.rounds (CIf9 (Q:=fun e s=>K e s.tm s.hp s.b) s ly ⟨us, [],ak⟩ me fr hs hs2 ht hl hK)
 ·obtain ⟨rfl,rfl,rfl,rfl,hK⟩:=h;have hsr:SealR [layB ly,grtB us (.gref 3 0 gs.length 5) ak,resB,growB 0 (flatA (rowsG gs))] (.gref 3 0 gs.length 5) (.d (.sl 5 (rowsG gs))):=
   .gref rfl rfl rfl rfl (AAd9 gs) (ARg9 gs)
  refine W.ofFrz (BGo9 (c:=1) (off:=1) (gs:= [3]) rfl rfl hsr (by simp [occ]) rfl rfl) ?_;exact W.rounds (CIe9 (Q:=fun e s=>K e s.tm s.hp s.b) (flatA (rowsG gs)) (ACx9 4 _) (ACx9 5 _) s ly ⟨us,gs,ak⟩ me fr hs hs2 ht hl hK)
 ·exact h.elim
def wlG1 {β:Type}:WLT β:=fun cd tm hp b K=>∃(s:SideT) (ly:LayT) (us:List UseT) (gs q:List GraT) (ak:List AskT) (me fr:Int),cd= .loop lpG1∧
 (AGx9 s∧gs.length<1000000∧q=gs.map (AEg9 s fr))∧
 match hp with
 | [b0,b1,b2]=>gs= []∧AAn9 [2,4,5,6,10,11,43,44,45] 0 tm=tmG1 s me fr (.d (.sl 5 [])) 0 0∧b0=layB ly∧b1=grtB us (.d (.sl 5 [])) ak∧b2=resB∧K (.exit 0) (tmG1 s me fr (.d (.sl 5 [])) 0 0) [layB ly,grtB us (.d (.sl 5 [])) ak,resB] b
 | [b0,b1,b2,b3]=>AAn9 [2,4,5,6,10,11,43,44,45] 0 tm=tmG1 s me fr (.gref 3 0 gs.length 5) gs.length 0∧b0=layB ly∧b1=grtB us (.gref 3 0 gs.length 5) ak∧b2=resB∧b3=growB 0 (flatA (rowsG gs))∧
  K (.exit 0) (tmG1 s me fr (.gref 3 0 q.length 5) q.length q.length) [layB ly,grtB us (.gref 3 0 q.length 5) ak,resB,growB 0 (flatA (rowsG q))] b
 |_=>False
abbrev Qz36 (v0:Int) (v1:Int) (v2:SideT):=Zab::Zab::Zad (i64 v0)::Zab::Zad (i64 v1)::Zae 0 0::Zae 1 0::bds 3 (Zae 2 0::Zah (Qz2 v2)::bds 31 (Zad (Zaj 5 [])::Zad (i64 0)::Zad (i64 0)::bds 90 []))
abbrev Qz57 (v0:List UseT) (v1:List AskT):List AV:= [Zad (Zaj 4 (rowsU v0)),Zad (Zaj 5 []),Zad (Zaj 3 (rowsA v1))]
theorem rG1e (s:SideT) (ly:LayT) (us:List UseT) (ak:List AskT) (me fr:Int):wpc prog ⟨TG1,GCG,wl,y,false⟩ 100 lpG1 (tmG1 s me fr (.d (.sl 5 [])) 0 0) [layB ly,grtB us (.d (.sl 5 [])) ak,resB] b (maskK 3 [2,4,5,6,10,11,43,44,45] K)=(K (Zba 0) (Qz36 me fr s) [bk (Qz3 ly),bk (Qz57 us ak),bk Qz4] b):=by kernel_rfl
theorem CBw9:WlOk Ev wlG1:=by
 rintro c tm hp b K ⟨s,ly,us,gs,_,ak,me,fr,rfl,⟨hs,hl,rfl⟩,h⟩;split at h
 ·obtain ⟨rfl,htm,rfl,rfl,rfl,hK⟩:=h;refine W.cast (htm▸AAc9 _ tm 0) (Zbg _) ?_;refine W.rounds (m:=1) (Zdr (X:=⟨TG1,GCG,wlW Ev,Ev.Y,false⟩) (k:=100) [2,4,5,6,10,11,43,44,45] mixed (CX.Ok.of CHr9 BCh9) ?_);refine Eq.mpr (rG1e _ _ _ _ s ly us ak me fr) ?_;exact hK
 ·obtain ⟨htm,rfl,rfl,rfl,rfl,hK⟩:=h;refine W.cast (htm▸AAc9 _ tm 0) (Zbg _) ?_;have e0:curG s fr gs 0=gs:=by simp [curG]
  have e1:curG s fr gs gs.length=gs.map (AEg9 s fr):=by simp [curG]
  have:=wrG1 (Ev:=Ev) (b0:=b) (Q:=fun e s=>K e s.tm s.hp s.b) s ly us ak me fr gs hs hl (by rw [e1];simpa [g1B] using hK);rw [e0] at this;exact W.rounds this
 ·exact h.elim
def wlGr2 {β:Type}:WLT β:=fun cd tm hp b K=>match cidO cd with
 |8=>wlG1 cd tm hp b K
 |15=>wlG2 cd tm hp b K
 |_=>False
theorem BUh9:WlOk Ev wlGr2:=by
 intro c tm hp b K h;unfold wlGr2 at h;split at h
 ·exact CBw9 c tm hp b K h
 ·exact CBv9 c tm hp b K h
 ·exact h.elim
def TGf:CT:= [(35,cNew),(47,BSf9)]
theorem CKv9:AAb9 prog TGf:=Zag BIl9 (Zag BJh9 Zai)
def UGf:SCT:= [(48,BEp9),(1000059,fun _ _ _=>False)]
theorem CJr9:AAl9 prog UGf:=Zbt ARe9 BCh9
abbrev Qz8 (v0:LayT) (v1:TabT) (v2:Int) (v3:List NearT) (v4:Int):List AV:= [Zan (Qz3 v0),Zan (Qz1 v1),Zad (i64 v2),Zad (Zaj 31 (rowsN v3)),Zad (i64 v4)]
abbrev Qz51 (v0:Int) (v1:Int) (v2:SideT) (v3:List GraT):=Zab::Zab::Zad (i64 v0)::Zab::Zad (i64 v1)::Zae 0 0::Zae 1 0::bds 3 (Zae 2 0::Zah (Qz2 v2)::bds 31 (Zbh 3 0 (Zaa v3) 5::Zad (i64 ((Zaa v3:Nat):Int))::Zad (i64 0)::bds 90 []))
abbrev Qz88 (v0:List UseT) (v1:List GraT) (v2:List AskT):List AV:= [Zad (Zaj 4 (rowsU v0)),Zbh 3 0 (Zaa v1) 5,Zad (Zaj 3 (rowsA v2))]
theorem BWy9 (ly:LayT) (t:TabT) (me:Int) (l:List NearT) (fr:Int):wpFn prog ⟨TGf,UGf,wlGr2,y,false⟩ 100 f13 [layA ly,tabA t, .d (i64 me), .d (.sl 31 (rowsN l)), .d (i64 fr)] b R=(∃(ly0:LayT) (t1:TabT) (me2:Int) (l3:List NearT) (fr4:Int) (s5:SideT) (q6:Bool),(Qz8 ly t me l fr)=(Qz8 ly0 t1 me2 l3 fr4)∧(TabOk t1∧Zaa l3<1000000∧(∀(x:NearT),x∈l3→ACi9 x)∧q6=newS ly0 t1 me2 l3 fr4∧s5=sideS ly0 me2 l3 fr4)∧BIf q6 (∃(t7:TabT) (z8:TabT) (fr9:Int), [Zan (Qz1 t),Zad (i64 fr)]= [Zan (Qz1 t7),Zad (i64 fr9)]∧(TabLt t7∧z8=ABv9 t7 fr9)∧∃(hs10:List GraT), [Zad (Zaj 5 (rowsG (Zbx z8)))]= [Zad (Zaj 5 (rowsG hs10))]∧Zaa hs10≤1000000∧BIf (List.isEmpty hs10) (∃(s11:SideT) (ly12:LayT) (us13:List UseT) (gs14:List GraT) (q15:List GraT) (ak16:List AskT) (me17:Int) (fr18:Int),Zaq lpG1=Zaq lpG1∧((Zaa (Zau s11)≤9223372036854775807∧∀(x:NearT),x∈Zau s11→Zaa (Zcl x)<1000000∧Zaa (Zce x)<1000000∧Zaa (Zdw x)<1000000)∧Zaa gs14<1000000∧q15=List.map (AEg9 s11 fr18) gs14)∧gs14= []∧(Qz36 me fr s5)=(Qz36 me17 fr18 s11)∧bk (Qz3 ly)=bk (Qz3 ly12)∧bk [Zad (Zaj 4 (rowsU (Zbv z8))),Zad (Zaj 5 []),Zad (Zaj 3 (rowsA (Zck z8)))]=bk (Qz57 us13 ak16)∧bk Qz4=bk Qz4∧∃(s19:SideT) (ly20:LayT) (us21:List UseT) (gs22:List GraT) (ak23:List AskT) (me24:Int) (fr25:Int) (q26:TabT),Zaq lpG2=Zaq lpG2∧(Zab::Zab::Zad (i64 me17)::Zab::Zad (i64 fr18)::Zae 0 0::Zae 1 0::bds 3 (Zae 2 0::Zah (Qz2 s11)::bds 72 (Zad (Zaj 31 (rowsN (Zau s11)))::Zad (i64 ((Zaa (rowsN (Zau s11)):Nat):Int))::Zad (i64 0)::bds 49 [])))=(Zab::Zab::Zad (i64 me24)::Zab::Zad (i64 fr25)::Zae 0 0::Zae 1 0::bds 3 (Zae 2 0::Zah (Qz2 s19)::bds 72 (Zad (Zaj 31 (rowsN (Zau s19)))::Zad (i64 ((Zaa (Zau s19):Nat):Int))::Zad (i64 0)::bds 49 [])))∧((Zaa (Zau s19)≤9223372036854775807∧(∀(x:NearT),x∈Zau s19→AAo9 x)∧layOk (Zct s19)=true)∧(Zaa (Zau s19)≤9223372036854775807∧∀(x:NearT),x∈Zau s19→Zaa (Zcl x)<1000000∧Zaa (Zce x)<1000000∧Zaa (Zdw x)<1000000)∧TabOk (TabT.mk us21 gs22 ak23)∧Zaa (Zau s19)<1000000∧q26=AKa9 s19 ly20 me24 fr25 (TabT.mk us21 gs22 ak23))∧gs22= []∧bk (Qz3 ly12)=bk (Qz3 ly20)∧bk (Qz57 us13 ak16)=bk (Qz57 us21 ak23)∧bk Qz4=bk Qz4∧R (.agg (Qz1 q26)) b) (0=0∧∃(s27:SideT) (ly28:LayT) (us29:List UseT) (gs30:List GraT) (q31:List GraT) (ak32:List AskT) (me33:Int) (fr34:Int),Zaq lpG1=Zaq lpG1∧((Zaa (Zau s27)≤9223372036854775807∧∀(x:NearT),x∈Zau s27→Zaa (Zcl x)<1000000∧Zaa (Zce x)<1000000∧Zaa (Zdw x)<1000000)∧Zaa gs30<1000000∧q31=List.map (AEg9 s27 fr34) gs30)∧(Qz51 me fr s5 hs10)=(Qz51 me33 fr34 s27 gs30)∧bk (Qz3 ly)=bk (Qz3 ly28)∧bk [Zad (Zaj 4 (rowsU (Zbv z8))),Zbh 3 0 (Zaa hs10) 5,Zad (Zaj 3 (rowsA (Zck z8)))]=bk (Qz88 us29 gs30 ak32)∧bk Qz4=bk Qz4∧Blk.mk (flatA (rowsG hs10)) false true 0=Blk.mk (flatA (rowsG gs30)) false true 0∧∃(s35:SideT) (ly36:LayT) (us37:List UseT) (gs38:List GraT) (ak39:List AskT) (me40:Int) (fr41:Int) (q42:TabT),Zaq lpG2=Zaq lpG2∧(Zab::Zab::Zad (i64 me33)::Zab::Zad (i64 fr34)::Zae 0 0::Zae 1 0::bds 3 (Zae 2 0::Zah (Qz2 s27)::bds 72 (Zad (Zaj 31 (rowsN (Zau s27)))::Zad (i64 ((Zaa (rowsN (Zau s27)):Nat):Int))::Zad (i64 0)::bds 49 [])))=(Zab::Zab::Zad (i64 me40)::Zab::Zad (i64 fr41)::Zae 0 0::Zae 1 0::bds 3 (Zae 2 0::Zah (Qz2 s35)::bds 72 (Zad (Zaj 31 (rowsN (Zau s35)))::Zad (i64 ((Zaa (Zau s35):Nat):Int))::Zad (i64 0)::bds 49 [])))∧((Zaa (Zau s35)≤9223372036854775807∧(∀(x:NearT),x∈Zau s35→AAo9 x)∧layOk (Zct s35)=true)∧(Zaa (Zau s35)≤9223372036854775807∧∀(x:NearT),x∈Zau s35→Zaa (Zcl x)<1000000∧Zaa (Zce x)<1000000∧Zaa (Zdw x)<1000000)∧TabOk (TabT.mk us37 gs38 ak39)∧Zaa (Zau s35)<1000000∧q42=AKa9 s35 ly36 me40 fr41 (TabT.mk us37 gs38 ak39))∧bk (Qz3 ly28)=bk (Qz3 ly36)∧bk (Qz88 us29 q31 ak32)=bk (Qz88 us37 gs38 ak39)∧bk Qz4=bk Qz4∧Blk.mk (flatA (rowsG q31)) false true 0=Blk.mk (flatA (rowsG gs38)) false true 0∧R (.agg (Qz1 q42)) b)) (R (.agg (Qz1 t)) b)):=by kernel_rfl
theorem AOz9 {ly:LayT} {me:Int} {l:List NearT} {fr:Int} (hl:l.length<1000000) (hx:∀x∈l,ACi9 x):AGx9 (sideS ly me l fr):=by
 refine ⟨by simp [sideS];omega,fun x h=> ?_⟩;simp only [sideS,Zbf] at h;obtain ⟨n,hn,rfl⟩:=h;obtain ⟨h1,h2,h3⟩:=hx n hn;refine ⟨Zgb (Zcd _ _) h1,Zgb (Zcd _ _) h2,Zgb (Zcd _ _) h3⟩
theorem BEj9 {ly:LayT} {me:Int} {l:List NearT} {fr:Int} (hl:l.length<1000000) (hx:∀x∈l,ACi9 x) (hv:(1≤ly.no∧ly.no≤60)∧(1≤ly.da∧ly.da≤60)):ANa9 (sideS ly me l fr):=by
 obtain ⟨h1,h2⟩:=AOz9 (ly:=ly) (me:=me) (fr:=fr) hl hx;refine ⟨h1,fun x h=> ?_, ?_⟩
 ·obtain ⟨g1,g2,g3⟩:=h2 x h;exact ⟨by omega,by omega,by omega⟩
 ·obtain ⟨⟨g1,g2⟩,g3,g4⟩:=hv;simp only [layOk,sideS,Zal];exact ⟨decide_eq_true g1,decide_eq_true g2,decide_eq_true g3,decide_eq_true g4⟩
def AEj9 (ly:LayT) (t:TabT) (me:Int) (l:List NearT) (fr:Int):TabT:=
 if newS ly t me l fr=true then AKa9 (sideS ly me l fr) ly me fr ⟨t.us,(ABv9 t fr).gs.map (AEg9 (sideS ly me l fr) fr),t.ak⟩ else t
theorem ACg9 {ly:LayT} {t:TabT} {me:Int} {l:List NearT} {fr:Int} (h:newS ly t me l fr=true):ACq9 t ly=true:=by
 rw [newS,Zal] at h;exact h.1
def CGg9:CF:=fun args K=>∃(ly:LayT) (t q:TabT) (me:Int) (l:List NearT) (fr:Int),args= [layA ly,tabA t, .d (i64 me), .d (.sl 31 (rowsN l)), .d (i64 fr)]∧(TabOk t∧l.length<1000000∧(∀x∈l,ACi9 x)∧q=AEj9 ly t me l fr)∧K (tabA q)
theorem AYk9:COk 13 CGg9:=by
 rintro _ K ⟨ly,t,_,me,l,fr,rfl,⟨ht,hl,hx,rfl⟩,hk⟩;refine ⟨_, ?_,hk⟩;refine PCall.ofFnW (n:=100) (u:=false) (fun _=>wlGr2) mixed CKv9 CJr9 (fun Ev=>BUh9) func13 (by rfl) (by rfl) fun Ev bb=> ?_;rw [BWy9];have ht':TabLt t:=⟨by have:=ht.1;omega,by have:=ht.2.1;omega,by have:=ht.2.2;omega⟩;refine ⟨ly,t,me,l,fr,_,_,rfl,⟨ht,hl,hx,rfl,rfl⟩,Zax (fun h1=> ?_) fun h1=> ?_⟩
 ·have hv:=ABf9 (ACg9 h1);have s1:=BEj9 (me:=me) (fr:=fr) hl hx hv;have s2:=AOz9 (ly:=ly) (me:=me) (fr:=fr) hl hx;have hgl:(ABv9 t fr).gs.length<10000:=Zgb (Zcd _ _) ht.2.1;have hnl:(sideS ly me l fr).ns.length<1000000:=by simpa [sideS] using hl
  rw [AEj9,if_pos h1];refine ⟨t,_,fr,rfl,⟨ht',rfl⟩,(ABv9 t fr).gs,rfl,by omega,Zax (fun h2=> ?_) fun h2=> ?_⟩
  ·have h3:(ABv9 t fr).gs= []:=List.isEmpty_iff.1 h2;refine ⟨sideS ly me l fr,ly,t.us, [],_,t.ak,me,fr,rfl,⟨s2,by decide,rfl⟩,rfl, ?_,rfl,rfl,rfl,sideS ly me l fr,ly,t.us, [],t.ak,me,fr,_,rfl, ?_,⟨s1,s2,⟨ht.1,by simp,ht.2.2⟩,hnl,rfl⟩,rfl,rfl,rfl,rfl, ?_⟩
   ·rfl
   ·rw [ABe9]
   ·rw [h3];rfl
  ·refine ⟨rfl,sideS ly me l fr,ly,t.us,(ABv9 t fr).gs,_,t.ak,me,fr,rfl,⟨s2,by omega,rfl⟩,rfl,rfl,rfl,rfl,rfl,sideS ly me l fr,ly,t.us,(ABv9 t fr).gs.map (AEg9 (sideS ly me l fr) fr),t.ak,me,fr,_,rfl, ?_,⟨s1,s2,⟨ht.1, ?_,ht.2.2⟩,hnl,rfl⟩,rfl,rfl,rfl,rfl, ?_⟩
   ·rw [ABe9]
   ·rw [List.length_map];exact hgl
   ·rfl
 ·have h1':¬newS ly t me l fr=true:=by rw [h1];decide
  rw [AEj9,if_neg h1'];rfl
open Go.Maps (Keyed)
variable {β:Type} (wl:WLT β) (b:β) (K:Exit→List AV→List Blk→β→Prop) (Q:β→Prop)
abbrev Prs:=List Int
def hasP (k:Int) (ts:Prs):Bool:=ts.any fun p=>p==k
def insQ (h:Int):Prs→Prs
 | []=> [h]
 |x::r=>if h<x then h::x::r else x::insQ h r
def putP (h:Int) (ts:Prs):Prs:=insQ h (ts.filter fun x=> !(x==h))
def entP (ts:Prs):MC:=ts.map fun h=>(Lit.int .i64 h,Zad (bo true))
abbrev PrsG:=Option (Nat×Prs)
def prF:PrsG→List MapC
 |none=> []
 |some (d,ts)=> [⟨d,3,entP ts⟩]
structure NoP (g:PrsG):Prop where
 e:g=none
theorem CFk9 (k:Int) (ts:Prs):atK (Lit.int .i64 k) (.d (bo false)) (entP ts)= .d (bo (hasP k ts)):=by
 induction ts with
 |nil=>rfl
 | cons h t ih=>
  simp only [atK,entP,hasP,Zdy,List.find?_cons,List.any_cons,ADy9] at ih ⊢;cases h==k
  ·exact ih
  ·rfl
theorem BXn9 (k:Int) (ts:Prs):delK (Lit.int .i64 k) (entP ts)=entP (ts.filter fun x=> !(x==k)):=by
 simp only [delK,entP,List.filter_map];congr 1;apply List.filter_congr;intro x _;simp only [Function.comp,ADy9]
theorem BXm9 (h:Int) (ts:Prs):insK (Lit.int .i64 h, .d (bo true)) (entP ts)=entP (insQ h ts):=by
 induction ts with
 |nil=>rfl
 | cons x t ih=>
  simp only [entP,Zdy,insK,insQ,Lit.before] at ih ⊢;by_cases hx:h<x
  ·simp [hx]
  ·simp [hx,ih]
theorem BXl9 (h:Int) (ts:Prs):putK (Lit.int .i64 h) (.d (bo true)) (entP ts)=entP (putP h ts):=by
 rw [putK,BXn9,BXm9];rfl
theorem BWp9 (h:Int) (l:Prs):(insQ h l).length=l.length+1:=by
 induction l with
 |nil=>rfl
 |cons x r ih=>simp only [insQ];split<;>simp [ih]
theorem BVs9 (h:Int) (ts:Prs):(putP h ts).length≤ts.length+1:=by
 rw [putP,BWp9];exact Nat.succ_le_succ (Zcd _ _)
theorem BWq9 (k h:Int) (l:Prs):hasP k (insQ h l)=(h==k||hasP k l):=by
 induction l with
 |nil=>rfl
 | cons x r ih=>
  simp only [insQ];split
  ·rfl
  ·simp only [hasP,List.any_cons] at ih ⊢;rw [ih];cases h==k<;>cases x==k<;>simp
theorem BVt9 (k h:Int) (l:Prs):hasP k (putP h l)=(h==k||hasP k l):=by
 rw [putP,BWq9];by_cases e:h=k
 ·simp [e]
 ·simp only [beq_eq_false_iff_ne.2 e,Bool.false_or,hasP,List.any_filter];congr 1;funext x;by_cases hx:x=k
  ·subst hx;simp [Ne.symm e]
  ·simp [hx]
theorem BDz9:Tryz.prog.underlying 108=some (.map 3 4):=by kernel_rfl
theorem zero4 (w:World):(zeroValue 4).run prog w= .ok (.bool false) w:=by rfl
theorem BTn9 (S:Pr) (w:World):RV S w [] none (.d (bo false)) (.bool false):= .d (.s _)
noncomputable def prM:MHook PrsG:=fun o s g K=>match o.op with
 | .makeMap t none=>some (NoP g∧t=108∧∀d,K {tm:=putA s.tm o.dst (mapA d),hp:=s.hp,pv:=pvPut s.pv o.dst} (some (d, [])))
 | .lookup t m x false=>some (t=108∧∃(d:Nat) (ts:Prs) (k:Int) (v:Bool),g=some (d,ts)∧evalA s.tm m=mapA d∧evalA s.tm x= .d (i64 k)∧InI k∧v=hasP k ts∧
  K {tm:=putA s.tm o.dst (.d (bo v)),hp:=s.hp,pv:=pvPut s.pv o.dst} g)
 | .mapUpdate t m x v=>some (t=108∧∃(d:Nat) (ts ts':Prs) (k:Int),g=some (d,ts)∧evalA s.tm m=mapA d∧evalA s.tm x= .d (i64 k)∧evalA s.tm v= .d (bo true)∧InI k∧ts.length<1000000∧ts'=putP k ts∧
  K {tm:=putA s.tm o.dst (.d (.s undef)),hp:=s.hp,pv:=pvPut s.pv o.dst} (some (d,ts')))
 |_=>none
theorem CDv9 {d:Nat} {ts:Prs}:(⟨d,3,entP ts⟩:MapC)∈prF (some (d,ts)):=by simp [prF]
abbrev EvP (N:Nat) (w0:World) (lent:List Nat):Env prog:=Env.mapped prog none N w0 lent prF
theorem CIt9 (N:Nat) (w0:World) (lent:List Nat):MOk (EvP N w0 lent) prM:=by
 intro o s g K p hp h;unfold prM at hp;split at hp
 ·rename_i t ho;cases hp;obtain ⟨⟨rfl⟩,rfl,hk⟩:=h;refine ⟨_,ANy9 (g:=none) (mk:=fun d=>some (d, [])) (k:=3) ho (fun d=>rfl), ?_⟩;rintro s' b' ⟨d,rfl,rfl⟩;exact hk d
 ·rename_i t m x ho;cases hp;obtain ⟨rfl,d,ts,k,_,rfl,hm,hx,hi,rfl,hk⟩:=h;refine ⟨_,ASm9 (g:=some (d,ts)) (c:=⟨d,3,entP ts⟩) (z:= .d (bo false)) ho CDv9 hm (key:= .int .i64 k) (by rw [hx];rfl) AUx9 BDz9 (key3 hi) zero4 BTn9 (by rfl), ?_⟩;rintro s' b' ⟨rfl,rfl⟩;simp only [Zcm,if_false,CFk9] at hk ⊢;exact hk
 ·rename_i t m x v ho;cases hp;obtain ⟨rfl,d,ts,_,k,rfl,hm,hx,hv,hi,hl,rfl,hk⟩:=h;refine ⟨_,AKj9 (g:=some (d,ts)) (g':=some (d,putP k ts)) (l1:= []) (l2:= []) (c:=⟨d,3,entP ts⟩) ho rfl hm (key:= .int .i64 k) (by rw [hx];rfl) AUx9 BDz9 (key3 hi) (by simp [entP,maxLen];omega) (by rw [hv];rfl) ?_, ?_⟩
  ·rw [hv];simp only [prF,List.nil_append];rw [show (Zad (bo true)).view=Zad (bo true) from rfl,BXl9]
  ·rintro s' b' ⟨rfl,rfl⟩;exact hk
 ·cases hp
def TTm:CT:= [(4000004,cNone),(4000008,cNone),(4000014,cNone),(4000026,cNone),(35,cNew),(37,cFind),(53,BJd9),(56,cAddU)]
theorem BZf9:AAb9 prog TTm:=Zag (ABw9 _) (Zag (ABw9 _) (Zag (ABw9 _) (Zag (ABw9 _) (Zag BIl9 (Zag AVu9 (Zag BBq9 (Zag BYx9 Zai)))))))
def UTm:SCT:= [(54,lendC AYf9)]
theorem CHb9:AAl9 prog UTm:=Zbt (AFr9 AVp9) Zar
noncomputable def wlTm (wl:WLT PrsG):WLT PrsG:=wlM prog ⟨TTm, [],fun _ _ _ _ _=>False,fun _ _ _=>False,false⟩ prM wl
theorem BQu9 {N:Nat} {w0:World} {lent:List Nat} {wl:WLT PrsG} (hwl:∀c tm hp b K,wl c tm hp b K→W (EvP N w0 lent) c ⟨tm,hp,b⟩ (fun e s=>K e s.tm s.hp s.b)):∀c tm hp b K,wlTm wl c tm hp b K→W (EvP N w0 lent) c ⟨tm,hp,b⟩ (fun e s=>K e s.tm s.hp s.b):=
 BUf9 (Ev:=EvP N w0 lent) mixed (CX.Ok.ofWl (Ev:=EvP N w0 lent) BZf9 Zar fun _ _ _ _ _ h=>h.elim) (CIt9 N w0 lent) hwl
theorem AOn9 {N:Nat} {w0:World} {lent:List Nat} {wl:WLT PrsG} (hwl:∀c tm hp b K,wl c tm hp b K→W (EvP N w0 lent) c ⟨tm,hp,b⟩ (fun e s=>K e s.tm s.hp s.b)):CX.Ok (EvP N w0 lent) ⟨TTm,UTm,wlTm wl,fun _ _ _=>False,false⟩:=
 CX.Ok.ofWl (Ev:=EvP N w0 lent) BZf9 CHb9 (BQu9 hwl)
def wlNil:WLT PrsG:=fun _ _ _ _ _=>False
noncomputable def lpT1:Code:=sub [1,1,1,1,0,1,2,3] (code f14)
noncomputable def lpT2:Code:=sub [1,1,1,1,1,1,0,1,2,3] (code f14)
noncomputable def lpT4:Code:=sub [1,1,1,1,1,1,1,1,0,1,2,3,1,1,0,2,1,1,1,2,3] (code f14)
noncomputable def lpT3:Code:=sub [1,1,1,1,1,1,1,1,0,1,2,3] (code f14)
def tmT (s:SideT) (d:Nat) (x:AV):List AV:= [.bad, .bad, .bad, .bad, .bad, .ptr 0 0, .ptr 1 0, .bad, .bad, .bad, .ptr 2 0, .rptr (sideD s), .bad,mapA d, .bad, .bad,x]
def tmT1 (s:SideT) (d:Nat) (l:List AskT) (i:Int):List AV:=tmT s d .bad++Zam 26 .bad++ [.d (.sl 3 (rowsA l)), .d (i64 l.length), .d (i64 i)]++Zam 88 .bad
def tmT2 (s:SideT) (d:Nat) (xs:List (List Dv)) (l:List UseT) (i:Int):List AV:=tmT s d (.own 61 4 xs)++Zam 37 .bad++ [.d (.sl 4 (rowsU l)), .d (i64 l.length), .d (i64 i)]++Zam 77 .bad
def tmT3 (s:SideT) (d:Nat) (i:Int):List AV:=tmT s d .bad++Zam 77 .bad++ [.d (.sl 31 (rowsN s.ns)), .d (i64 s.ns.length), .d (i64 i)]++Zam 37 .bad
def tmT4 (s:SideT) (d:Nat) (i:Int) (l:List GraT) (j:Int):List AV:=tmT s d .bad++Zam 7 .bad++ [.ptr 3 0]++Zam 69 .bad++ [.d (.sl 31 (rowsN s.ns)), .d (i64 s.ns.length), .d (i64 i)]++Zam 11 .bad++ [.d (.sl 5 (rowsG l)), .d (i64 l.length), .d (i64 j)]++Zam 23 .bad
section
variable (K:Exit→List AV→List Blk→PrsG→Prop)
theorem rT1 (s:SideT) (ly:LayT) (t:TabT) (d:Nat) (ts:Prs) (l:List AskT) (i:Int):wpc prog ⟨TTm,UTm,wlTm wlNil,fun _ _ _=>False,false⟩ 100 lpT1 (tmT1 s d l i) [layB ly,tabB t,resB] (some (d,ts)) (maskK 3 [5,6,10,11,13,43,44,45] K)=(BIf (decide (i<((Zaa l:Nat):Int))) (BIf (true&&decide (0≤i)) (∃(x0:Int) (x1:Int) (x2:Int),(rowsA l)[Zak i]? =some [i64 x0,i64 x1,i64 x2]∧108=108∧∃(d5:Nat) (ts6:Prs) (ts7:Prs) (k8:Int),some (d,ts)=some (d5,ts6)∧Zad (Zdk (Zbo (some d)))=Zad (Zdk (Zbo (some d5)))∧Zad (i64 x2)=Zad (i64 k8)∧Zad (bo true)=Zad (bo true)∧InI k8∧Zaa ts6<1000000∧ts7=putP k8 ts6∧K .normal (bds 5 (Zae 0 0::Zae 1 0::bds 3 (Zae 2 0::Zah (Qz2 s)::Zab::Zad (Zdk (Zbo (some d)))::bds 29 (Zad (Zaj 3 (rowsA l))::Zad (i64 ((Zaa l:Nat):Int))::Zad (i64 (Zac .i64 (i+1)))::bds 88 [])))) [bk (Qz3 ly),bk (Qz1 t),bk Qz4] (some (d5,ts7))) False) (K (Zba 0) (bds 5 (Zae 0 0::Zae 1 0::bds 3 (Zae 2 0::Zah (Qz2 s)::Zab::Zad (Zdk (Zbo (some d)))::bds 29 (Zad (Zaj 3 (rowsA l))::Zad (i64 ((Zaa l:Nat):Int))::Zad (i64 i)::bds 88 [])))) [bk (Qz3 ly),bk (Qz1 t),bk Qz4] (some (d,ts)))):=by kernel_rfl
theorem rT2 (s:SideT) (ly:LayT) (t:TabT) (d:Nat) (ts:Prs) (xs:List (List Dv)) (l:List UseT) (i:Int):wpc prog ⟨TTm,UTm,wlTm wlNil,fun _ _ _=>False,false⟩ 100 lpT2 (tmT2 s d xs l i) [layB ly,tabB t,resB] (some (d,ts)) (maskK 3 [5,6,10,11,13,16,54,55,56] K)=(BIf (decide (i<((Zaa l:Nat):Int))) (BIf (true&&decide (0≤i)) (∃(x0:Int) (x1:Int) (x2:Int) (x3:Int),(rowsU l)[Zak i]? =some [i64 x0,i64 x1,i64 x2,i64 x3]∧108=108∧∃(d6:Nat) (ts7:Prs) (ts8:Prs) (k9:Int),some (d,ts)=some (d6,ts7)∧Zad (Zdk (Zbo (some d)))=Zad (Zdk (Zbo (some d6)))∧Zad (i64 x2)=Zad (i64 k9)∧Zad (bo true)=Zad (bo true)∧InI k9∧Zaa ts7<1000000∧ts8=putP k9 ts7∧∃(s10:SideT) (pe11:Int) (q12:NearT) (e13:Bool), [Zah (Qz2 s),Zad (i64 x2)]= [Zah (Qz2 s10),Zad (i64 pe11)]∧(Zaa (Zau s10)≤9223372036854775807∧q12=nearO (sFind s10 pe11)∧e13=Option.isSome (sFind s10 pe11))∧∃(s14:SideT) (n15:NearT) (q16:List GraT), [Zah (Qz2 s),nearA q12]= [Zah (Qz2 s14),nearA n15]∧(Zaa (Zce n15)<1000000∧q16=ADg9 s14 n15)∧∃(l17:List GraT) (u18:UseT) (q19:Int), [Zad (Zaj 5 (rowsG q16)),Zav (Fn.func 55) [] [Zah [i64 x0,i64 x1,i64 x2,i64 x3]]]= [Zad (Zaj 5 (rowsG l17)),Zav (Fn.func 55) [] [Zah (Qz13 u18)]]∧(Zaa l17≤9223372036854775807∧q19=idxS (fun (x20:GraT)=>Zds x20==Zdl u18&&GraT.of x20==UseT.of u18) l17)∧BIf (decide (q19≥(0:Int))) (BIf (true&&decide (0≤q19)) (∃(x21:Int) (x22:Int) (x23:Int) (x24:Int) (x25:Int),(rowsG q16)[Zak q19]? =some (Qz27 x21 x22 x23 x24 x25)∧BIf (true&&decide ((Zaa xs+1)*32≤140737488355328)) (K .normal (bds 5 (Zae 0 0::Zae 1 0::bds 3 (Zae 2 0::Zah (Qz2 s)::Zab::Zad (Zdk (Zbo (some d)))::Zab::Zab::Zcc 61 4 (xs++ [[i64 x0,i64 x1,i64 x2,i64 x24]])::bds 37 (Zad (Zaj 4 (rowsU l))::Zad (i64 ((Zaa l:Nat):Int))::Zad (i64 (Zac .i64 (i+1)))::bds 77 [])))) [bk (Qz3 ly),bk (Qz1 t),bk Qz4] (some (d6,ts8))) False) False) (K .normal (bds 5 (Zae 0 0::Zae 1 0::bds 3 (Zae 2 0::Zah (Qz2 s)::Zab::Zad (Zdk (Zbo (some d)))::Zab::Zab::Zcc 61 4 xs::bds 37 (Zad (Zaj 4 (rowsU l))::Zad (i64 ((Zaa l:Nat):Int))::Zad (i64 (Zac .i64 (i+1)))::bds 77 [])))) [bk (Qz3 ly),bk (Qz1 t),bk Qz4] (some (d6,ts8)))) False) (K (Zba 2) (bds 5 (Zae 0 0::Zae 1 0::bds 3 (Zae 2 0::Zah (Qz2 s)::Zab::Zad (Zdk (Zbo (some d)))::Zab::Zab::Zcc 61 4 xs::bds 37 (Zad (Zaj 4 (rowsU l))::Zad (i64 ((Zaa l:Nat):Int))::Zad (i64 i)::bds 77 [])))) [bk (Qz3 ly),bk (Qz1 t),bk Qz4] (some (d,ts)))):=by kernel_rfl
theorem rT4 (s:SideT) (ly:LayT) (t:TabT) (n:NearT) (d:Nat) (ts:Prs) (i:Int) (l:List GraT) (j:Int):wpc prog ⟨TTm,UTm,wlTm wlNil,fun _ _ _=>False,false⟩ 100 lpT4 (tmT4 s d i l j) [layB ly,tabB t,resB,nearB n] (some (d,ts)) (maskK 4 [5,6,10,11,13,24,94,95,96,108,109,110] K)=(BIf (decide (j<((Zaa l:Nat):Int))) (BIf (true&&decide (0≤j)) (∃(x0:Int) (x1:Int) (x2:Int) (x3:Int) (x4:Int),(rowsG l)[Zak j]? =some (Qz27 x0 x1 x2 x3 x4)∧∃(t7:TabT) (z8:TabT) (ly9:LayT) (u10:UseT) (e11:Int), [Zan (Qz1 t),Zan (Qz3 ly),Zan [Zad (i64 x0),Zad (i64 x1),Zad (i64 (Zcy n)),Zad (i64 x3)]]= [Zan (Qz1 t7),Zan (Qz3 ly9),Zan (Qz6 u10)]∧(TabOk t7∧z8=addSU t7 ly9 u10∧e11=refEU t7 ly9 u10)∧BIf (e11==(0:Int)) (K .normal (bds 5 (Zae 0 0::Zae 1 0::bds 3 (Zae 2 0::Zah (Qz2 s)::Zab::Zad (Zdk (Zbo (some d)))::bds 10 (Zae 3 0::bds 69 (Zad (Zaj 31 (rowsN (Zau s)))::Zad (i64 ((Zaa (Zau s):Nat):Int))::Zad (i64 i)::bds 11 (Zad (Zaj 5 (rowsG l))::Zad (i64 ((Zaa l:Nat):Int))::Zad (i64 (Zac .i64 (j+1)))::bds 23 [])))))) (Qz42 ly z8 n) (some (d,ts))) (K .normal (bds 5 (Zae 0 0::Zae 1 0::bds 3 (Zae 2 0::Zah (Qz2 s)::Zab::Zad (Zdk (Zbo (some d)))::bds 10 (Zae 3 0::bds 69 (Zad (Zaj 31 (rowsN (Zau s)))::Zad (i64 ((Zaa (Zau s):Nat):Int))::Zad (i64 i)::bds 11 (Zad (Zaj 5 (rowsG l))::Zad (i64 ((Zaa l:Nat):Int))::Zad (i64 (Zac .i64 (j+1)))::bds 23 [])))))) (Qz42 ly t n) (some (d,ts)))) False) (K (Zba 6) (bds 5 (Zae 0 0::Zae 1 0::bds 3 (Zae 2 0::Zah (Qz2 s)::Zab::Zad (Zdk (Zbo (some d)))::bds 10 (Zae 3 0::bds 69 (Zad (Zaj 31 (rowsN (Zau s)))::Zad (i64 ((Zaa (Zau s):Nat):Int))::Zad (i64 i)::bds 11 (Zad (Zaj 5 (rowsG l))::Zad (i64 ((Zaa l:Nat):Int))::Zad (i64 j)::bds 23 [])))))) (Qz42 ly t n) (some (d,ts)))):=by kernel_rfl
end
theorem WR.scanB {α:Type} {P:Program} {Ev:Env P} {X:CX Ev.β} {lp:Code} {Q:Exit→St Ev.β→Prop} {k L:Nat} (keep:List Nat) (hm:P.follows .mixedOrders=true) (hX:X.Ok) (xs:List α) (tmOf:Nat→List AV) (hpOf:Nat→List Blk) (bOf:Nat→Ev.β) (hL:∀i,(hpOf i).length=L) (id:Nat)
 (hr:∀(i:Nat) (x:α),i<xs.length→xs[i]? =some x→∀K:Exit→List AV→List Blk→Ev.β→Prop,K .normal (tmOf (i+1)) (hpOf (i+1)) (bOf (i+1))→wpc P X k lp (tmOf i) (hpOf i) (bOf i) (maskK L keep K))
 (he:∀K:Exit→List AV→List Blk→Ev.β→Prop,K (.exit id) (tmOf xs.length) (hpOf xs.length) (bOf xs.length)→wpc P X k lp (tmOf xs.length) (hpOf xs.length) (bOf xs.length) (maskK L keep K))
 (h1:Q (.exit id) ⟨tmOf xs.length,hpOf xs.length,bOf xs.length⟩):
 ∀(m i:Nat),i+m=xs.length→WR Ev lp (m+1) ⟨tmOf i,hpOf i,bOf i⟩ Q
 | 0,i,hi=>by
  have e:i=xs.length:=by omega
  subst e;exact Zdr keep hm hX (k:=k) (by rw [hL];exact he _ h1)
 | m+1,i,hi=>by
  have hlt:i<xs.length:=by omega
  refine Zdr keep hm hX (k:=k) (by
   rw [hL];refine hr i xs[i] hlt (Zbc hlt) _ ?_;exact WR.scanB keep hm hX xs tmOf hpOf bOf hL id hr he h1 m (i+1) (by omega))
def AHh9 {α:Type} (f:α→Int) (l:List α) (ts:Prs):Prs:=l.foldl (fun ts a=>putP (f a) ts) ts
theorem AIt9 {α:Type} (f:α→Int):∀(l:List α) (ts:Prs),(AHh9 f l ts).length≤ts.length+l.length
 | [],ts=>Zat _
 | a::l,ts=>by
  have:=AIt9 f l (putP (f a) ts);have h2:=BVs9 (f a) ts;simp only [AHh9,Zef,Zfr] at this ⊢;omega
theorem ANx9 {α:Type} (f:α→Int) {l:List α} {i:Nat} {a:α} (ts:Prs) (h:l[i]? =some a):AHh9 f (l.take (i+1)) ts=putP (f a) (AHh9 f (l.take i) ts):=ACe9 _ _ h
theorem ALz9 {α:Type} (f:α→Int) (k:Int):∀(l:List α) (ts:Prs),hasP k (AHh9 f l ts)=(l.any (fun a=>f a==k)||hasP k ts)
 | [],ts=>rfl
 | a::l,ts=>by
  have:=ALz9 f k l (putP (f a) ts);simp only [AHh9,Zef,List.any_cons] at this ⊢;rw [this,BVt9];cases f a==k<;>cases l.any (fun a=>f a==k)<;>simp
theorem AUd9 {N:Nat} {w0:World} {lent:List Nat}:∀c tm hp b K,wlNil c tm hp b K→W (EvP N w0 lent) c ⟨tm,hp,b⟩ (fun e s=>K e s.tm s.hp s.b):=fun _ _ _ _ _ h=>h.elim
def tkB (ly:LayT) (t:TabT):List Blk:= [layB ly,tabB t,resB]
theorem wrT1 {N:Nat} {w0:World} {lent:List Nat} {Q:Exit→St PrsG→Prop} (s:SideT) (ly:LayT) (t:TabT) (d:Nat) (ts:Prs) (l:List AskT) (hl:ts.length+l.length<1000000) (hk:∀a∈l,InI a.pe)
 (hQ:Q (.exit 0) ⟨tmT1 s d l l.length,tkB ly t,some (d,AHh9 (fun a:AskT=>a.pe) l ts)⟩):WR (EvP N w0 lent) lpT1 (l.length+1) ⟨tmT1 s d l (0:Nat),tkB ly t,some (d,ts)⟩ Q:=by
 refine WR.scanB (Ev:=EvP N w0 lent) (X:=⟨TTm,UTm,wlTm wlNil,fun _ _ _=>False,false⟩) (k:=100) (L:=3) [5,6,10,11,13,43,44,45] mixed (AOn9 AUd9) l (fun i=>tmT1 s d l (i:Nat)) (fun _=>tkB ly t) (fun i=>(some (d,AHh9 (fun a:AskT=>a.pe) (l.take i) ts):PrsG)) (fun _=>rfl) 0 (fun i a hi ha K k1=> ?_) (fun K k1=> ?_) (by rw [Zdc];exact hQ) l.length 0 (by omega)
 ·simp only [ANx9 (fun a:AskT=>a.pe) ts ha] at k1;have hlen:=AIt9 (fun a:AskT=>a.pe) (l.take i) ts;rw [Zcj] at hlen;refine Eq.mpr (rT1 K s ly t d _ l i) ?_;refine Zas (by simp;omega) (Zas (natI i) ⟨_,_,_,ABd9 ha,rfl,d,_,_,a.pe,rfl,rfl,rfl,rfl,hk a (Zbj ha),by omega,rfl, ?_⟩);rw [wrapN (by omega)];exact k1
 ·refine Eq.mpr (rT1 K s ly t d _ l l.length) ?_;exact Zci (by simp) k1
def ACj9 (s:SideT) (u:UseT):List UseT:=match (ADg9 s (nearO (sFind s u.pe))).find? (fun x=>x.sl==u.sl&&x.of==u.of) with
 |some g=> [⟨u.sl,u.of,u.pe,g.st⟩]
 |none=> []
theorem ANs9 (s:SideT) (u:UseT):(ACj9 s u).length≤1:=by
 unfold ACj9;split
 ·exact Zat _
 ·exact Nat.zero_le _
theorem AVc9 {α γ:Type} {f:α→List γ} (hf:∀x,(f x).length≤1):∀l:List α,(l.flatMap f).length≤l.length
 | []=>Zat _
 |x::r=>by have:=hf x;have:=AVc9 hf r;simp only [List.flatMap_cons,Zbi,Zfr];omega
theorem BOc9 {α γ:Type} (f:α→List γ) {l:List α} {i:Nat} {a:α} (h:l[i]? =some a):(l.take (i+1)).flatMap f=(l.take i).flatMap f++f a:=by
 rw [Zem,h,List.flatMap_append];simp
theorem wrT2 {N:Nat} {w0:World} {lent:List Nat} {Q:Exit→St PrsG→Prop} (s:SideT) (ly:LayT) (t:TabT) (d:Nat) (ts:Prs) (l:List UseT) (hs:AGx9 s) (hl:ts.length+l.length<1000000) (hk:∀a∈l,InI a.pe)
 (hQ:Q (.exit 2) ⟨tmT2 s d (rowsU (l.flatMap (ACj9 s))) l l.length,tkB ly t,some (d,AHh9 (fun a:UseT=>a.pe) l ts)⟩):WR (EvP N w0 lent) lpT2 (l.length+1) ⟨tmT2 s d (rowsU []) l (0:Nat),tkB ly t,some (d,ts)⟩ Q:=by
 refine WR.scanB (Ev:=EvP N w0 lent) (X:=⟨TTm,UTm,wlTm wlNil,fun _ _ _=>False,false⟩) (k:=100) (L:=3) [5,6,10,11,13,16,54,55,56] mixed (AOn9 AUd9) l (fun i=>tmT2 s d (rowsU ((l.take i).flatMap (ACj9 s))) l (i:Nat)) (fun _=>tkB ly t) (fun i=>(some (d,AHh9 (fun a:UseT=>a.pe) (l.take i) ts):PrsG)) (fun _=>rfl) 2 (fun i u hi hu K k1=> ?_) (fun K k1=> ?_) (by rw [Zdc];exact hQ) l.length 0 (by omega)
 ·simp only [ANx9 (fun a:UseT=>a.pe) ts hu,BOc9 (ACj9 s) hu] at k1;have hlen:=AIt9 (fun a:UseT=>a.pe) (l.take i) ts;have hfl:=AVc9 (ANs9 s) (l.take i);rw [Zcj] at hlen hfl;have hn:=BFk9 hs u.pe;refine Eq.mpr (rT2 K s ly t d _ _ l i) ?_;have hgl:(ADg9 s (nearO (sFind s u.pe))).length<1000000:=Zgb (Zcd _ _) hn.2.1;refine Zas (by simp;omega) (Zas (natI i) ⟨_,_,_,_,ABl9 hu,rfl,d,_,_,u.pe,rfl,rfl,rfl,rfl,hk u (Zbj hu),by omega,rfl,s,u.pe,_,_,rfl,⟨hs.1,rfl,rfl⟩,s,nearO (sFind s u.pe),_,rfl,⟨hn.2.1,rfl⟩,ADg9 s (nearO (sFind s u.pe)),u,_,rfl,⟨by omega,rfl⟩, ?_⟩);rw [wrapN (by omega)];rcases ACb9 (fun x:GraT=>x.sl==u.sl&&x.of==u.of) (ADg9 s (nearO (sFind s u.pe))) with ⟨h1,h2⟩|⟨j,x,h1,h2,h3,_⟩
  ·rw [AAq9 h1];refine Zci (by decide) ?_;rw [ACj9,h2,Zco] at k1;exact k1
  ·rw [AAj9 h1];rw [ACj9,h3] at k1;refine Zas (by simp) (Zas (natI j) ⟨_,_,_,_,_,ABb9 h2,Zas (by rw [AAe9,Zec];exact decide_eq_true (by omega)) ?_⟩);have e:rowsU ((l.take i).flatMap (ACj9 s)++ [⟨u.sl,u.of,u.pe,x.st⟩])=rowsU ((l.take i).flatMap (ACj9 s))++ [[i64 u.sl,i64 u.of,i64 u.pe,i64 x.st]]:=by simp [rowsU,useR]
   rw [e] at k1;exact k1
 ·refine Eq.mpr (rT2 K s ly t d _ _ l l.length) ?_;exact Zci (by simp) k1
def AEd9 (ly:LayT) (n:NearT) (t:TabT) (g:GraT):TabT:=if refEU t ly ⟨g.sl,g.of,n.fm,g.st⟩=0 then addSU t ly ⟨g.sl,g.of,n.fm,g.st⟩ else t
theorem BEf9 {ly:LayT} {n:NearT} {t:TabT} {g:GraT} (h:TabOk t):TabOk (AEd9 ly n t g):=by
 unfold AEd9;split
 ·rename_i h1;exact BKr9 h1
 ·exact h
theorem AUl9 {ly:LayT} {n:NearT}:∀(l:List GraT) {t:TabT},TabOk t→TabOk (l.foldl (AEd9 ly n) t)
 | [],t,h=>h
 |a::l,t,h=>AUl9 l (BEf9 h)
theorem wrT4 {N:Nat} {w0:World} {lent:List Nat} {Q:Exit→St PrsG→Prop} (s:SideT) (ly:LayT) (t:TabT) (n:NearT) (d:Nat) (ts:Prs) (i:Int) (l:List GraT) (ht:TabOk t) (hl:l.length<1000000)
 (hQ:Q (.exit 6) ⟨tmT4 s d i l l.length,tkB ly (l.foldl (AEd9 ly n) t)++ [nearB n],some (d,ts)⟩):WR (EvP N w0 lent) lpT4 (l.length+1) ⟨tmT4 s d i l (0:Nat),tkB ly t++ [nearB n],some (d,ts)⟩ Q:=by
 refine WR.scanB (Ev:=EvP N w0 lent) (X:=⟨TTm,UTm,wlTm wlNil,fun _ _ _=>False,false⟩) (k:=100) (L:=4) [5,6,10,11,13,24,94,95,96,108,109,110] mixed (AOn9 AUd9) l (fun j=>tmT4 s d i l (j:Nat)) (fun j=>tkB ly ((l.take j).foldl (AEd9 ly n) t)++ [nearB n]) (fun i=>(some (d,ts):PrsG)) (fun _=>rfl) 6 (fun j g hj hg K k1=> ?_) (fun K k1=> ?_) (by rw [Zdc];exact hQ) l.length 0 (by omega)
 ·have htj:TabOk ((l.take j).foldl (AEd9 ly n) t):=AUl9 _ ht;rw [ACe9 _ _ hg] at k1;generalize (l.take j).foldl (AEd9 ly n) t=tj at k1 htj ⊢;refine Eq.mpr (rT4 K s ly tj n d ts i l j) ?_;refine Zas (by simp;omega) (Zas (natI j) ⟨_,_,_,_,_,ABb9 hg,tj,_,ly,⟨g.sl,g.of,n.fm,g.st⟩,_,rfl,⟨htj,rfl,rfl⟩,Zax (fun h3=> ?_) fun h3=> ?_⟩)
  ·rw [wrapN (by omega)];have h3':refEU tj ly ⟨g.sl,g.of,n.fm,g.st⟩=0:=by simpa using h3
   rw [AEd9,if_pos h3'] at k1;exact k1
  ·rw [wrapN (by omega)];have h3':¬refEU tj ly ⟨g.sl,g.of,n.fm,g.st⟩=0:=by simpa using h3
   rw [AEd9,if_neg h3'] at k1;exact k1
 ·refine Eq.mpr (rT4 K s ly _ n d ts i l l.length) ?_;exact Zci (by simp) k1
def wlT4:WLT PrsG:=fun cd tm hp b K=>∃(s:SideT) (ly:LayT) (t q:TabT) (n:NearT) (d:Nat) (ts:Prs) (i:Int) (l:List GraT),cd= .loop lpT4∧AAn9 [5,6,10,11,13,24,94,95,96,108,109,110] 0 tm=tmT4 s d i l 0∧hp=tkB ly t++ [nearB n]∧b=some (d,ts)∧(TabOk t∧l.length<1000000∧q=l.foldl (AEd9 ly n) t)∧K (.exit 6) (tmT4 s d i l l.length) (tkB ly q++ [nearB n]) b
theorem CBd9 {N:Nat} {w0:World} {lent:List Nat} (c:Code) (tm:List AV) (hp:List Blk) (b:PrsG) (K:Exit→List AV→List Blk→PrsG→Prop) (h:wlT4 c tm hp b K):W (EvP N w0 lent) c ⟨tm,hp,b⟩ (fun e s=>K e s.tm s.hp s.b):=by
 obtain ⟨s,ly,t,_,n,d,ts,i,l,rfl,htm,rfl,rfl,⟨ht,hl,rfl⟩,hK⟩:=h;refine W.cast (htm▸AAc9 _ tm 0) (Zbg _) ?_;exact W.rounds (wrT4 (Q:=fun e s=>K e s.tm s.hp s.b) s ly t n d ts i l ht hl hK)
section
variable (K:Exit→List AV→List Blk→PrsG→Prop)
theorem rT3 (s:SideT) (ly:LayT) (t:TabT) (d:Nat) (ts:Prs) (i:Int):wpc prog ⟨TTm,UTm,wlTm wlT4,fun _ _ _=>False,false⟩ 100 lpT3 (tmT3 s d i) [layB ly,tabB t,resB] (some (d,ts)) (maskK 3 [5,6,10,11,13,94,95,96] K)=(BIf (decide (i<((Zaa (Zau s):Nat):Int))) (BIf (true&&decide (0≤i)) (∃(n0:NearT),(rowsN (Zau s))[Zak i]? =some (nearR n0)∧108=108∧∃(d3:Nat) (ts4:Prs) (k5:Int) (v6:Bool),some (d,ts)=some (d3,ts4)∧Zad (Zdk (Zbo (some d)))=Zad (Zdk (Zbo (some d3)))∧Zad (i64 (Zcy n0))=Zad (i64 k5)∧InI k5∧v6=hasP k5 ts4∧BIf (!v6) (K .normal (bds 5 (Zae 0 0::Zae 1 0::bds 3 (Zae 2 0::Zah (Qz2 s)::Zab::Zad (Zdk (Zbo (some d)))::bds 80 (Zad (Zaj 31 (rowsN (Zau s)))::Zad (i64 ((Zaa (Zau s):Nat):Int))::Zad (i64 (Zac .i64 (i+1)))::bds 37 [])))) [bk (Qz3 ly),bk (Qz1 t),bk Qz4] (some (d,ts))) (∃(s7:SideT) (n8:NearT) (q9:List GraT), [Zah (Qz2 s),nearA n0]= [Zah (Qz2 s7),nearA n8]∧(Zaa (Zce n8)<1000000∧q9=ADg9 s7 n8)∧∃(s10:SideT) (ly11:LayT) (t12:TabT) (q13:TabT) (n14:NearT) (d15:Nat) (ts16:Prs) (i17:Int) (l18:List GraT),Zaq lpT4=Zaq lpT4∧(bds 5 (Zae 0 0::Zae 1 0::bds 3 (Zae 2 0::Zah (Qz2 s)::Zab::Zad (Zdk (Zbo (some d)))::bds 10 (Zae 3 0::bds 69 (Zad (Zaj 31 (rowsN (Zau s)))::Zad (i64 ((Zaa (Zau s):Nat):Int))::Zad (i64 i)::bds 11 (Zad (Zaj 5 (rowsG q9))::Zad (i64 ((Zaa (rowsG q9):Nat):Int))::Zad (i64 0)::bds 23 []))))))=(bds 5 (Zae 0 0::Zae 1 0::bds 3 (Zae 2 0::Zah (Qz2 s10)::Zab::Zad (Zdk (Zbo (some d15)))::bds 10 (Zae 3 0::bds 69 (Zad (Zaj 31 (rowsN (Zau s10)))::Zad (i64 ((Zaa (Zau s10):Nat):Int))::Zad (i64 i17)::bds 11 (Zad (Zaj 5 (rowsG l18))::Zad (i64 ((Zaa l18:Nat):Int))::Zad (i64 0)::bds 23 []))))))∧(Qz42 ly t n0)=(Qz42 ly11 t12 n14)∧some (d,ts)=some (d15,ts16)∧(TabOk t12∧Zaa l18<1000000∧q13=List.foldl (AEd9 ly11 n14) t12 l18)∧K .normal (bds 5 (Zae 0 0::Zae 1 0::bds 3 (Zae 2 0::Zah (Qz2 s10)::Zab::Zad (Zdk (Zbo (some d15)))::bds 80 (Zad (Zaj 31 (rowsN (Zau s10)))::Zad (i64 ((Zaa (Zau s10):Nat):Int))::Zad (i64 (Zac .i64 (i17+1)))::bds 37 [])))) [bk (Qz3 ly11),bk (Qz1 q13),bk Qz4] (some (d,ts)))) False) (K (Zba 4) (bds 5 (Zae 0 0::Zae 1 0::bds 3 (Zae 2 0::Zah (Qz2 s)::Zab::Zad (Zdk (Zbo (some d)))::bds 80 (Zad (Zaj 31 (rowsN (Zau s)))::Zad (i64 ((Zaa (Zau s):Nat):Int))::Zad (i64 i)::bds 37 [])))) [bk (Qz3 ly),bk (Qz1 t),bk Qz4] (some (d,ts)))):=by kernel_rfl
end
end Go.Proofs.YthcbbmnjikhihaaGreat.Am