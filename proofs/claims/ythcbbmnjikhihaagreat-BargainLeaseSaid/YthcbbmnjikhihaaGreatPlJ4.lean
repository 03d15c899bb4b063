import Derived.Test.YthcbbmnjikhihaaGreatPlJ3
set_option linter.unusedSimpArgs false
set_option linter.unusedVariables false
namespace Go.Proofs.YthcbbmnjikhihaaGreat.Am
open Go Go.RowKit Go.Proofs Tryz
open AV renaming agg → Zar, bad → Zab, d → Zae, fn → Zaw, full → Zfx, gref → Zbl, own → Zgm, ptr → Zaf, rptr → Zag
open AskT renaming of → Zfz, pe → Zfm, sl → Zcs
open BIf renaming f → Zdf, of → Zba, t → Zaz
open Bool renaming and_eq_true → Zak, and_false → Zdc, false_and → Zck, false_eq_true → Zdd, not_eq_false' → Zek, not_eq_true' → Zcp, not_not → Zfo, or_eq_true → Zdy, or_true → Zfe, true_and → Zde, true_or → Zeq
open AAb9 renaming cons → Zai, nil → Zaj
open Go.Code renaming loop → Zav
open Dv renaming fn → Zcu, pt → Zdu, s → Zdx, sl → Zan
open Go.Exit renaming exit → Zbn
open FCall renaming ofFnF → Zgq
open GraT renaming sl → Zdq, un → Zdt
open Int renaming toNat → Zam, toNat_natCast → Zco, toNat_zero → Zfh
open Go.IntKind renaming i64 → Zbc, wrap → Zad
open LayT renaming da → Zcv, no → Zfa
open LeH renaming refl → Zbu
open List renaming all → Zbo, any → Zdg, append_assoc → Zbt, append_nil → Zdw, cons_append → Zfb, drop → Zcf, drop_zero → Zfk, filter → Zcn, findIdx?_cons → Zey, getElem?_eq_getElem → Zbb, getElem?_eq_some_iff → Zac, isEmpty → Zfs, length → Zaa, length_append → Zcg, length_filter_le → Zfv, length_take → Zca, map_cons → Zdr, mem_append_right → Zee, mem_cons_self → Zcc, mem_map → Zbj, mem_of_getElem? → Zbr, replicate → Zap, take → Zbs, take_add_one → Zfj, take_append_of_le_length → Zev, take_length → Zdk
open Nat renaming add_mul → Zcy, le_refl → Zax
open NearT renaming ak → Zbq, fm → Zdi, fr → Zgb, gs → Zbm, us → Zbk
open Option renaming map_eq_some_iff → Zao
open PCall renaming ofFn → Zbg, ofFnL → Zfw, ofFnW → Zda
open SCall renaming ofW → Zgj
open AAl9 renaming cons → Zbw, nil → Zah
open SideT renaming fr → Zgn, me → Zff, ns → Zat
open TabT renaming ak → Zby, gs → Zbi, us → Zbv
open UseT renaming of → Zel, pe → Zgg, sl → Zcw
open Go.Value renaming int → Zex, pointer → Zci, slice → Zcz
open WR renaming findL → Zgc, ofMask → Zdo
variable {β:Type} (wl:WLT β) (y:ACw9 β) (b:β) (R:AV→β→Prop) (Kr:AV→List Blk→β→Prop) (K:Exit→List AV→List Blk→β→Prop) (Q:β→Prop)
open AV (bad)
set_option linter.unusedVariables false
set_option maxRecDepth 20000
set_option maxHeartbeats 1000000
def BWr9 (args:List AV) (K:AV→Prop):Prop:=match args with
 | [.agg [x,y, .d (.s (.slice none 0 0))],s]=>∃(us:List UseT) (gs:List GraT) (sl:Int) (q:Bool), [x,y,s]= [.d (.sl 4 (rowsU us)), .d (.sl 5 (rowsG gs)), .d (i64 sl)]∧(us.length<10000∧gs.length<10000∧q=busyT ⟨us,gs, []⟩ sl)∧K (.d (bo q))
 |_=>BWs9 args K
theorem BNj9:∀args K,BWr9 args K→∃x,PCall prog 84 args x∧K x:=by
 intro args K h;unfold BWr9 at h;split at h
 ·obtain ⟨us,gs,sl,_,he,⟨h1,h2,rfl⟩,hk⟩:=h;cases he;have hle:LeV (.agg [.d (.sl 4 (rowsU us)), .d (.sl 5 (rowsG gs)), .d (.s (.slice none 0 0))]) (tabA ⟨us,gs, []⟩):=by
   refine .agg rfl fun i a b h1 h2=> ?_
   match i with
   |0=>simp at h1 h2;subst h1 h2;exact .rfl
   |1=>simp at h1 h2;subst h1 h2;exact .rfl
   |2=>simp at h1 h2;subst h1 h2;exact .nil rfl
   |i+3=>simp at h1
  exact ⟨_,PCall.leArgsV (.cons hle (.cons .rfl .nil)) (BOn9 ⟨us,gs, []⟩ sl ⟨h1,h2,by simp⟩),hk⟩
 ·exact AXn9 _ _ h
def TUz:List (Nat×(List AV→(AV→Prop)→Prop)):= [(85,AXi9)]
theorem CHc9:AAb9 prog TUz:=Zai AUx9 Zaj
def TIp:List (Nat×(List AV→(AV→Prop)→Prop)):= [(84,BWr9),(85,BHc9)]
theorem CHq9:AAb9 prog TIp:=Zai BNj9 (Zai BAd9 Zaj)
def askB (a:AskT):Blk:=⟨[.d (i64 a.sl), .d (i64 a.of), .d (i64 a.pe)],false,false,0⟩
noncomputable def lpIx:Code:=sub [1,0,1,2,3] (code f134)
def tmIx (l:List AskT) (q i:Int):List AV:= [.d (.sl 3 (rowsA l)), .bad, .bad, .ptr 0 0, .d (i64 q), .bad, .bad, .d (i64 l.length), .d (i64 i)]++Zap 10 .bad
theorem BLg9 (s:SideT) (sl of but:Int):wpFn prog ⟨TUz, [],wl,y,false⟩ 100 f51 [.rptr (sideD s),cellA sl of, .d (i64 but)] b R=(∃(l0:List NearT) (sl1:Int) (of2:Int) (but3:Int) (q4:Bool), [Zae (Zan 31 (rowsN (Zat s))),Zaw (Fn.func 101) [] (Qz51 but sl of)]= [Zae (Zan 31 (rowsN l0)),Zaw (Fn.func 101) [] (Qz51 but3 sl1 of2)]∧((∀(x:NearT),x∈l0→Zaa (Zbk x)≤9223372036854775807∧Zaa (Zbm x)≤9223372036854775807∧Zaa (Zbq x)≤9223372036854775807)∧Zaa l0≤9223372036854775807∧q4=Zdg l0 fun (x5:NearT)=> !NearT.fm x5==but3&&Zdg (Zbk x5) fun (y6:UseT)=>Zcw y6==sl1&&Zel y6==of2)∧R (.d (bo q4)) b):=by kernel_rfl
theorem BLh9 (s:SideT) (t:TabT) (n:NearT) (sl of:Int):wpFn prog ⟨TIp, [],wl,y,false⟩ 100 f39 [.rptr (sideD s),tabA t,nearA n,cellA sl of] b R=(∃(t0:TabT) (s1:Int) (q2:Bool), [Zar (Qz1 t),Zae (i64 sl)]= [Zar (Qz1 t0),Zae (i64 s1)]∧((Zaa (Zbv t0)<10000∧Zaa (Zbi t0)<10000∧Zaa (Zby t0)<10000)∧q2=busyT t0 s1)∧BIf q2 (R (.d (bo false)) b) (∃(us3:List UseT) (gs4:List GraT) (sl5:Int) (q6:Bool), [Zae (Zan 4 (rowsU (Zbk n))),Zae (Zan 5 (rowsG (Zbm n))),Zae (i64 sl)]= [Zae (Zan 4 (rowsU us3)),Zae (Zan 5 (rowsG gs4)),Zae (i64 sl5)]∧(Zaa us3<10000∧Zaa gs4<10000∧q6=busyT (TabT.mk us3 gs4 []) sl5)∧BIf q6 (R (.d (bo false)) b) (∃(l7:List NearT) (sl8:Int) (of9:Int) (s10:SideT) (q11:Bool), [Zae (Zan 31 (rowsN (Zat s))),Zaw (Fn.func 86) [] (Qz22 sl of s)]= [Zae (Zan 31 (rowsN l7)),Zaw (Fn.func 86) [] (Qz22 sl8 of9 s10)]∧((∀(x:NearT),x∈l7→Zaa (Zbk x)≤9223372036854775807∧Zaa (Zbm x)≤9223372036854775807∧Zaa (Zbq x)≤9223372036854775807)∧Zaa l7≤9223372036854775807∧q11=Zdg l7 fun (x12:NearT)=>Zdg (Zbm x12) fun (y13:GraT)=>Zdq y13==sl8&&GraT.of y13==of9&& !GraT.pe y13==Zff s10)∧R (.d (bo !q11)) b))):=by kernel_rfl
theorem rIx (l:List AskT) (a:AskT) (i:Int):wpc prog ⟨[], [],wl,y,false⟩ 100 lpIx (tmIx l 0 i) [askB a] b (maskK 1 [0,3,4,7,8] K)=(BIf (decide (i<((Zaa l:Nat):Int))) (BIf (true&&decide (0≤i)) (∃(x0:Int) (x1:Int) (x2:Int),(rowsA l)[Zam i]? =some [i64 x0,i64 x1,i64 x2]∧BIf (Zcs a==x0&&(Zfz a==x1&&true)&&(Zfm a==x2&&true)) (K .ret (Zae (Zan 3 (rowsA l))::Zab::Zab::Zaf 0 0::Zae (i64 i)::Zab::Zab::Zae (i64 ((Zaa l:Nat):Int))::Zae (i64 i)::bds 10 []) [Blk.mk (Qz13 a) false false 0] b) (K .normal (Zae (Zan 3 (rowsA l))::Zab::Zab::Zaf 0 0::Zae (i64 0)::Zab::Zab::Zae (i64 ((Zaa l:Nat):Int))::Zae (i64 (Zad .i64 (i+1)))::bds 10 []) [Blk.mk (Qz13 a) false false 0] b)) False) (K (Zbn 0) (Zae (Zan 3 (rowsA l))::Zab::Zab::Zaf 0 0::Zae (i64 0)::Zab::Zab::Zae (i64 ((Zaa l:Nat):Int))::Zae (i64 i)::bds 10 []) [Blk.mk (Qz13 a) false false 0] b)):=by kernel_rfl
def usedS (ns:List NearT) (sl of but:Int):Bool:=ns.any fun x=> !(x.fm==but)&&x.us.any (fun y=>(y.sl==sl&&y.of==of))
def AIz9 (s:SideT):Prop:=s.ns.length≤9223372036854775807∧(∀x∈s.ns,ADm9 x)∧layOk s.lay=true
theorem BTc9 (s:SideT) (sl of but:Int) (hs:AIz9 s):PCall prog 51 [.rptr (sideD s),cellA sl of, .d (i64 but)] (.d (bo (usedS s.ns sl of but))):=by
 refine Zbg (n:=100) (u:=false) mixed CHc9 Zah func51 (by rfl) (by rfl) fun Ev bb=> ?_;rw [BLg9];exact ⟨s.ns,sl,of,but,_,rfl,⟨hs.2.1,hs.1,rfl⟩,rfl⟩
def BPl9 (args:List AV) (K:AV→Prop):Prop:=∃(s:SideT) (sl of but:Int) (q:Bool),args= [.rptr (sideD s),cellA sl of, .d (i64 but)]∧(AIz9 s∧q=usedS s.ns sl of but)∧K (.d (bo q))
theorem BGj9:∀args K,BPl9 args K→∃x,PCall prog 51 args x∧K x:=by
 rintro _ K ⟨s,sl,of,but,_,rfl,⟨hs,rfl⟩,hk⟩;exact ⟨_,BTc9 s sl of but hs,hk⟩
def BVb9 (ns:List NearT) (sl of me:Int):Bool:=ns.any fun x=>x.gs.any fun y=>(y.sl==sl&&y.of==of)&& !(y.pe==me)
def possS (s:SideT) (t:TabT) (n:NearT) (sl of:Int):Bool:=if busyT t sl=true then false else if busyT ⟨n.us,n.gs, []⟩ sl=true then false else !BVb9 s.ns sl of s.me
theorem BTd9 (s:SideT) (t:TabT) (n:NearT) (sl of:Int) (hs:AIz9 s) (ht:TabOk t) (hn:n.us.length<10000∧n.gs.length<10000):PCall prog 39 [.rptr (sideD s),tabA t,nearA n,cellA sl of] (.d (bo (possS s t n sl of))):=by
 refine Zbg (n:=100) (u:=false) mixed CHq9 Zah func39 (by rfl) (by rfl) fun Ev bb=> ?_;rw [BLh9];refine ⟨t,sl,_,rfl,⟨ht,rfl⟩,Zba (fun h1=> ?_) fun h1=>⟨n.us,n.gs,sl,_,rfl,⟨hn.1,hn.2,rfl⟩,Zba (fun h2=> ?_) fun h2=>⟨s.ns,sl,of,s,_,rfl,⟨hs.2.1,hs.1,rfl⟩, ?_⟩⟩⟩
 ·rw [possS,if_pos h1]
 ·rw [possS,if_neg (by rw [h1];decide),if_pos h2]
 ·rw [possS,if_neg (by rw [h1];decide),if_neg (by rw [h2];decide)];rfl
def BPm9 (args:List AV) (K:AV→Prop):Prop:=∃(s:SideT) (t:TabT) (n:NearT) (sl of:Int) (q:Bool),args= [.rptr (sideD s),tabA t,nearA n,cellA sl of]∧(AIz9 s∧TabOk t∧(n.us.length<10000∧n.gs.length<10000)∧q=possS s t n sl of)∧K (.d (bo q))
theorem BGk9:∀args K,BPm9 args K→∃x,PCall prog 39 args x∧K x:=by
 rintro _ K ⟨s,t,n,sl,of,_,rfl,⟨hs,ht,hn,rfl⟩,hk⟩;exact ⟨_,BTd9 s t n sl of hs ht hn,hk⟩
def eqAsk (a x:AskT):Bool:=a.sl==x.sl&&(a.of==x.of&&a.pe==x.pe)
theorem wrIx {Ev:Env prog} {b:Ev.β} {Q:Exit→St Ev.β→Prop} (l:List AskT) (a:AskT) (hl:l.length≤9223372036854775807) (h1:l.findIdx? (eqAsk a)=none→∀i:Int,Q (.exit 0) ⟨tmIx l 0 i, [askB a],b⟩) (h2:∀j:Nat,l.findIdx? (eqAsk a)=some j→Q .ret ⟨tmIx l j j, [askB a],b⟩):
 WR Ev lpIx (l.length+1) ⟨tmIx l 0 (0:Nat), [askB a],b⟩ Q:=by
 refine Zgc (X:=⟨[], [],wlW Ev,Ev.Y,false⟩) (k:=100) [0,3,4,7,8] mixed (CX.Ok.of Zaj Zah) l (eqAsk a) (fun i=>tmIx l 0 (i:Nat)) (fun i=>tmIx l (i:Nat) (i:Nat)) [askB a] 0 (fun i x hi hxi K k1 k2=> ?_) (fun K k1=> ?_) (fun h=>h1 h _) h2
 ·refine Eq.mpr (rIx _ _ _ K l a i) ?_;rw [ABo9 hxi];have e:(a.sl==x.sl&&(a.of==x.of&&true)&&(a.pe==x.pe&&true))=eqAsk a x:=by simp [eqAsk,Bool.and_assoc]
  refine Zaz (by simp;omega) (Zaz (natI i) ⟨_,_,_,rfl, ?_⟩);rw [e];refine Zba (fun g=>k1 g) fun g=> ?_;rw [wrapN (by omega)];exact k2 g
 ·refine Eq.mpr (rIx _ _ _ K l a _) ?_;exact Zdf (by simp) k1
def wlIx {β:Type}:WLT β:=fun cd tm hp b K=>∃(l:List AskT) (a:AskT) (q:Int),cd= .loop lpIx∧AAx9 [0,3,4,7,8] 0 tm=tmIx l 0 0∧hp= [askB a]∧(l.length≤9223372036854775807∧q=idxS (eqAsk a) l)∧(∀i:Int,q= -1→K (.exit 0) (tmIx l 0 i) [askB a] b)∧(∀i:Int,0≤q→K .ret (tmIx l q i) [askB a] b)
theorem BZa9 {Ev:Env prog} (c:Code) (tm:List AV) (hp:List Blk) (b:Ev.β) (K:Exit→List AV→List Blk→Ev.β→Prop) (h:wlIx c tm hp b K):W Ev c ⟨tm,hp,b⟩ (fun e s=>K e s.tm s.hp s.b):=by
 obtain ⟨l,a,q,rfl,htm,rfl,⟨hl,rfl⟩,hK1,hK2⟩:=h;refine W.cast (htm▸AAc9 _ tm 0) (Zbu _) ?_;exact W.rounds (wrIx (Q:=fun e s=>K e s.tm s.hp s.b) l a hl (fun h i=>hK1 i (AAy9 h)) fun j h=>by have:=hK2 j (by rw [AAh9 h];omega);rwa [AAh9 h] at this)
theorem BUr9 (l:List AskT) (a:AskT):wpFn prog ⟨[], [],wlIx,y,false⟩ 100 f134 [.d (.sl 3 (rowsA l)),askA a] b R=(∃(l0:List AskT) (a1:AskT) (q2:Int),Zav lpIx=Zav lpIx∧(Zae (Zan 3 (rowsA l))::Zab::Zab::Zaf 0 0::Zae (i64 0)::Zab::Zab::Zae (i64 ((Zaa (rowsA l):Nat):Int))::Zae (i64 0)::bds 10 [])=(Zae (Zan 3 (rowsA l0))::Zab::Zab::Zaf 0 0::Zae (i64 0)::Zab::Zab::Zae (i64 ((Zaa l0:Nat):Int))::Zae (i64 0)::bds 10 [])∧ [Blk.mk (Qz13 a) false false 0]= [Blk.mk (Qz13 a1) false false 0]∧(Zaa l0≤9223372036854775807∧q2=idxS (eqAsk a1) l0)∧(∀(i:Int),q2=(-1:Int)→R (.d (i64 (-1))) b)∧∀(i:Int),(0:Int)≤q2→R (.d (i64 q2)) b):=by kernel_rfl
theorem CBl9 (l:List AskT) (a:AskT) (hl:l.length≤9223372036854775807):PCall prog 134 [.d (.sl 3 (rowsA l)),askA a] (.d (i64 (idxS (eqAsk a) l))):=by
 refine Zda (n:=100) (u:=false) (fun _=>wlIx) mixed Zaj Zah (fun Ev=>BZa9) func134 (by rfl) (by rfl) fun Ev bb=> ?_;rw [BUr9,AAo9];exact ⟨l,a,_,rfl,rfl,rfl,⟨hl,rfl⟩,fun i h=>by rw [h],fun i h=>rfl⟩
def CDp9 (args:List AV) (K:AV→Prop):Prop:=∃(l:List AskT) (a:AskT) (q:Int),args= [.d (.sl 3 (rowsA l)),askA a]∧(l.length≤9223372036854775807∧q=idxS (eqAsk a) l)∧K (.d (i64 q))
theorem BNa9:∀args K,CDp9 args K→∃x,PCall prog 134 args x∧K x:=by
 rintro _ K ⟨l,a,_,rfl,⟨hl,rfl⟩,hk⟩;exact ⟨_,CBl9 l a hl,hk⟩
def TIdx:List (Nat×(List AV→(AV→Prop)→Prop)):= [(134,CDp9)]
theorem CEs9:AAb9 prog TIdx:=Zai BNa9 Zaj
theorem AZn9 (l:List AskT) (a:AskT):wpFn prog ⟨TIdx, [],wl,y,false⟩ 100 f100 [.d (.sl 3 (rowsA l)),askA a] b R=(∃(l0:List AskT) (a1:AskT) (q2:Int), [Zae (Zan 3 (rowsA l)),Zar (Qz13 a)]= [Zae (Zan 3 (rowsA l0)),Zar (Qz13 a1)]∧(Zaa l0≤9223372036854775807∧q2=idxS (eqAsk a1) l0)∧R (.d (bo (decide (q2≥(0:Int))))) b):=by kernel_rfl
theorem BDq9 (l:List AskT) (a:AskT) (hl:l.length≤9223372036854775807):PCall prog 100 [.d (.sl 3 (rowsA l)),askA a] (.d (bo (l.any (eqAsk a)))):=by
 refine Zbg (n:=100) (u:=false) mixed CEs9 Zah func100 (by rfl) (by rfl) fun Ev bb=> ?_;rw [AZn9];exact ⟨l,a,_,rfl,⟨hl,rfl⟩,by rw [AFo9]⟩
def AXh9 (args:List AV) (K:AV→Prop):Prop:=∃(l:List AskT) (a:AskT) (q:Bool),args= [.d (.sl 3 (rowsA l)),askA a]∧(l.length≤9223372036854775807∧q=l.any (eqAsk a))∧K (.d (bo q))
theorem AUw9:∀args K,AXh9 args K→∃x,PCall prog 100 args x∧K x:=by
 rintro _ K ⟨l,a,_,rfl,⟨hl,rfl⟩,hk⟩;exact ⟨_,BDq9 l a hl,hk⟩
def TTl:List (Nat×(List AV→(AV→Prop)→Prop)):= [(98,AXj9),(100,AXh9)]
theorem CHe9:AAb9 prog TTl:=Zai AUy9 (Zai AUw9 Zaj)
theorem BSd9 (s:SideT) (n:NearT) (sl of:Int):wpFn prog ⟨TTl, [],wl,y,false⟩ 100 f50 [.rptr (sideD s),nearA n,cellA sl of] b R=(∃(l0:List UseT) (sl1:Int) (of2:Int) (s3:SideT) (q4:Bool), [Zae (Zan 4 (rowsU (Zbk n))),Zaw (Fn.func 99) [] (Qz22 sl of s)]= [Zae (Zan 4 (rowsU l0)),Zaw (Fn.func 99) [] (Qz22 sl1 of2 s3)]∧(Zaa l0≤9223372036854775807∧q4=Zdg l0 fun (x5:UseT)=>Zcw x5==sl1&&Zel x5==of2&&Zgg x5==Zff s3)∧BIf q4 (R (.d (bo true)) b) (∃(l6:List AskT) (a7:AskT) (q8:Bool), [Zae (Zan 3 (rowsA (Zbq n))),Zar [Zae (i64 sl),Zae (i64 of),Zae (i64 (Zff s))]]= [Zae (Zan 3 (rowsA l6)),Zar (Qz13 a7)]∧(Zaa l6≤9223372036854775807∧q8=Zdg l6 (eqAsk a7))∧R (.d (bo q8)) b)):=by kernel_rfl
def AMm9 (s:SideT) (n:NearT) (sl of:Int):Bool:=(n.us.any fun x=>(x.sl==sl&&x.of==of)&&x.pe==s.me)||n.ak.any (eqAsk ⟨sl,of,s.me⟩)
theorem CBg9 (s:SideT) (n:NearT) (sl of:Int) (h1:n.us.length≤9223372036854775807) (h2:n.ak.length≤9223372036854775807):PCall prog 50 [.rptr (sideD s),nearA n,cellA sl of] (.d (bo (AMm9 s n sl of))):=by
 refine Zbg (n:=100) (u:=false) mixed CHe9 Zah func50 (by rfl) (by rfl) fun Ev bb=> ?_;rw [BSd9];refine ⟨n.us,sl,of,s,_,rfl,⟨h1,rfl⟩,Zba (fun h=> ?_) fun h=> ?_⟩
 ·rw [show AMm9 s n sl of=true by simp [AMm9,h]]
 ·refine ⟨n.ak,⟨sl,of,s.me⟩,_,rfl,⟨h2,rfl⟩, ?_⟩;rw [show AMm9 s n sl of=n.ak.any (eqAsk ⟨sl,of,s.me⟩) by simp [AMm9,h]]
def CDi9 (args:List AV) (K:AV→Prop):Prop:=∃(s:SideT) (n:NearT) (sl of:Int) (q:Bool),args= [.rptr (sideD s),nearA n,cellA sl of]∧((n.us.length≤9223372036854775807∧n.ak.length≤9223372036854775807)∧q=AMm9 s n sl of)∧K (.d (bo q))
theorem BMt9:∀args K,CDi9 args K→∃x,PCall prog 50 args x∧K x:=by
 rintro _ K ⟨s,n,sl,of,_,rfl,⟨⟨h1,h2⟩,rfl⟩,hk⟩;exact ⟨_,CBg9 s n sl of h1 h2,hk⟩
def AJn9 {α:Type} (p:α→Bool) (x:α):List α:=if p x=true then [x] else []
theorem AJw9 {α:Type} (p:α→Bool) (x:α):(AJn9 p x).length≤1:=by rw [AJn9];split<;>simp
theorem AOn9 {α:Type} {p:α→Bool} {x:α} (h:p x=true):AJn9 p x= [x]:=by rw [AJn9,if_pos h]
theorem AOo9 {α:Type} {p:α→Bool} {x:α} (h:p x=false):AJn9 p x= []:=by rw [AJn9,if_neg (by simp [h])]
theorem AEh9 {α:Type} (p:α→Bool) (l:List α):l.flatMap (AJn9 p)=l.filter p:=by
 induction l with
 |nil=>rfl
 |cons x r ih=>rw [List.flatMap_cons,ih,List.filter_cons,AJn9];split<;>simp
def TIs:List (Nat×(List AV→(AV→Prop)→Prop)):= [(81,BGl9),(36,cIn)]
theorem CEp9:AAb9 prog TIs:=Zai ASh9 (Zai BGm9 Zaj)
def useIs (x:UseT) (l:LayT):Bool:=ABv9 x.sl x.of x.pe l&&inN x.st 1000000000
def graIs (x:GraT) (l:LayT):Bool:=ABv9 x.sl x.of x.pe l&&(decide (x.st≥0)&&(inN x.st x.un&&decide (x.un≤1000000000)))
theorem BUn9 (x:UseT) (ly:LayT):wpFn prog ⟨TIs, [],wl,y,false⟩ 100 f76 [layA ly,useA x] b R=(∃(sl0:Int) (of1:Int) (pe2:Int) (l3:LayT) (z4:Bool), [Zar (Qz3 ly),Zar (Qz83 x),Zae (i64 (Zgg x))]= [Zar (Qz3 l3),Zar [Zae (i64 sl0),Zae (i64 of1)],Zae (i64 pe2)]∧z4=ABv9 sl0 of1 pe2 l3∧BIf z4 (∃(n5:Int) (h6:Int) (z7:Bool), [Zae (i64 (UseT.st x)),Zae (i64 1000000000)]= [Zae (i64 n5),Zae (i64 h6)]∧z7=inN n5 h6∧R (.d (bo z7)) b) (R (.d (bo false)) b)):=by kernel_rfl
theorem BUo9 (x:GraT) (ly:LayT):wpFn prog ⟨TIs, [],wl,y,false⟩ 100 f79 [layA ly,graA x] b R=(∃(sl0:Int) (of1:Int) (pe2:Int) (l3:LayT) (z4:Bool), [Zar (Qz3 ly),Zar (Qz57 x),Zae (i64 (GraT.pe x))]= [Zar (Qz3 l3),Zar [Zae (i64 sl0),Zae (i64 of1)],Zae (i64 pe2)]∧z4=ABv9 sl0 of1 pe2 l3∧BIf z4 (BIf (decide (GraT.st x≥(0:Int))) (∃(n5:Int) (h6:Int) (z7:Bool), [Zae (i64 (GraT.st x)),Zae (i64 (Zdt x))]= [Zae (i64 n5),Zae (i64 h6)]∧z7=inN n5 h6∧BIf z7 (R (.d (bo (decide (Zdt x≤(1000000000:Int))))) b) (R (.d (bo false)) b)) (R (.d (bo false)) b)) (R (.d (bo false)) b)):=by kernel_rfl
theorem CBj9 (x:UseT) (ly:LayT):PCall prog 76 [layA ly,useA x] (.d (bo (useIs x ly))):=by
 refine Zbg (n:=100) (u:=false) mixed CEp9 Zah func76 (by rfl) (by rfl) fun Ev bb=> ?_;rw [BUn9];refine ⟨_,_,_,ly,_,rfl,rfl,Zba (fun h=>⟨_,_,_,rfl,rfl, ?_⟩) fun h=> ?_⟩
 ·simp only [useIs,h,Zde]
 ·simp only [useIs,h,Zck]
def CDn9 (args:List AV) (K:AV→Prop):Prop:=∃(x:UseT) (ly:LayT) (q:Bool),args= [layA ly,useA x]∧q=useIs x ly∧K (.d (bo q))
theorem BMy9:∀args K,CDn9 args K→∃x,PCall prog 76 args x∧K x:=by
 rintro _ K ⟨x,ly,_,rfl,rfl,hk⟩;exact ⟨_,CBj9 x ly,hk⟩
theorem CBk9 (x:GraT) (ly:LayT):PCall prog 79 [layA ly,graA x] (.d (bo (graIs x ly))):=by
 refine Zbg (n:=100) (u:=false) mixed CEp9 Zah func79 (by rfl) (by rfl) fun Ev bb=> ?_;rw [BUo9];refine ⟨_,_,_,ly,_,rfl,rfl, ?_⟩;repeat' (first|refine ⟨_,_,_,rfl,rfl, ?_⟩|refine Zba (fun _=> ?_) fun _=> ?_)
 all_goals (rw [graIs];simp only [*,Zde,Zck])
def CDo9 (args:List AV) (K:AV→Prop):Prop:=∃(x:GraT) (ly:LayT) (q:Bool),args= [layA ly,graA x]∧q=graIs x ly∧K (.d (bo q))
theorem BMz9:∀args K,CDo9 args K→∃x,PCall prog 79 args x∧K x:=by
 rintro _ K ⟨x,ly,_,rfl,rfl,hk⟩;exact ⟨_,CBk9 x ly,hk⟩
def TIu:List (Nat×(List AV→(AV→Prop)→Prop)):= [(76,CDn9)]
theorem CHp9:AAb9 prog TIu:=Zai BMy9 Zaj
def TIg:List (Nat×(List AV→(AV→Prop)→Prop)):= [(79,CDo9)]
theorem CHr9:AAb9 prog TIg:=Zai BMz9 Zaj
def TIa:List (Nat×(List AV→(AV→Prop)→Prop)):= [(81,BGl9)]
theorem CHs9:AAb9 prog TIa:=Zai ASh9 Zaj
theorem BMd9 (x:UseT) (ly:LayT):wpFn prog ⟨TIu, [],wl,y,false⟩ 100 f75 ([useA x]++ [.rptr [i64 ly.no,i64 ly.da]]) b R=(∃(x0:UseT) (ly1:LayT) (q2:Bool), [Zar (Qz3 ly),Zar (Qz7 x)]= [Zar (Qz3 ly1),Zar (Qz7 x0)]∧q2=useIs x0 ly1∧R (.d (bo q2)) b):=by kernel_rfl
theorem BTn9 (x:UseT) (ly:LayT):PCall prog 75 ([useA x]++ [.rptr [i64 ly.no,i64 ly.da]]) (.d (bo ((fun x:UseT=>useIs x ly) x))):=by
 refine Zbg (n:=100) (u:=false) mixed CHp9 Zah func75 (by rfl) (by rfl) fun Ev bb=> ?_;rw [BMd9];exact ⟨x,ly,_,rfl,rfl,rfl⟩
def BPu9 (args:List AV) (K:AV→Prop):Prop:=∃(x:UseT) (ly:LayT) (q:Bool),args= [useA x]++ [.rptr [i64 ly.no,i64 ly.da]]∧q=(fun x:UseT=>useIs x ly) x∧K (.d (bo q))
theorem BHm9:∀args K,BPu9 args K→∃x,PCall prog 75 args x∧K x:=by
 rintro _ K ⟨x,ly,_,rfl,rfl,hk⟩;exact ⟨_,BTn9 x ly,hk⟩
def BXg9:List (Nat×(List AV→(AV→Prop)→Prop)):= [(75,BPu9)]
theorem BNo9:AAb9 prog BXg9:=Zai BHm9 Zaj
noncomputable def ARf9:Code:=sub [1,1,0,1,2,3] (code f74)
def AKn9 (l:List UseT) (ly:LayT) (acc:AV) (n i:Int):List AV:= [.bad, .fn (.func 75) [] [.rptr [i64 ly.no,i64 ly.da]], .bad, .bad, .bad,acc, .bad, .bad, .d (.sl 4 (rowsU l)), .d (i64 n), .d (i64 i)]++Zap 12 .bad
abbrev Qz14 (v0:LayT):List AV:= [Zag [i64 (Zfa v0),i64 (Zcv v0)]]
theorem CAk9 (l:List UseT) (ly:LayT) (xs:List (List Dv)) (n i:Int):wpc prog ⟨BXg9, [],wl,y,false⟩ 100 ARf9 (AKn9 l ly (.own 61 4 xs) n i) [] b (maskK 0 [1,5,8,9,10] K)=(BIf (decide (i<n)) (BIf (true&&decide (0≤i)) (∃(x0:Int) (x1:Int) (x2:Int) (x3:Int),(rowsU l)[Zam i]? =some [i64 x0,i64 x1,i64 x2,i64 x3]∧∃(x6:UseT) (ly7:LayT) (q8:Bool), [Zar (Qz37 x0 x1 x2 x3),Zag [i64 (Zfa ly),i64 (Zcv ly)]]= [Zar (Qz7 x6),Zag [i64 (Zfa ly7),i64 (Zcv ly7)]]∧q8=useIs x6 ly7∧BIf q8 (BIf (true&&decide ((Zaa xs+1)*32≤140737488355328)) (K .normal (Zab::Zaw (Fn.func 75) [] (Qz14 ly)::bds 3 (Zgm 61 4 (xs++ [[i64 x0,i64 x1,i64 x2,i64 x3]])::Zab::Zab::Zae (Zan 4 (rowsU l))::Zae (i64 n)::Zae (i64 (Zad .i64 (i+1)))::bds 12 [])) [] b) False) (K .normal (Zab::Zaw (Fn.func 75) [] (Qz14 ly)::bds 3 (Zgm 61 4 xs::Zab::Zab::Zae (Zan 4 (rowsU l))::Zae (i64 n)::Zae (i64 (Zad .i64 (i+1)))::bds 12 [])) [] b)) False) (K (Zbn 0) (Zab::Zaw (Fn.func 75) [] (Qz14 ly)::bds 3 (Zgm 61 4 xs::Zab::Zab::Zae (Zan 4 (rowsU l))::Zae (i64 n)::Zae (i64 i)::bds 12 [])) [] b)):=by kernel_rfl
theorem BYa9 {Ev:Env prog} {b:Ev.β} {Q:Exit→St Ev.β→Prop} (l:List UseT) (ly:LayT) (hl:l.length<1000000) (hQ:∀i:Int,Q (.exit 0) ⟨AKn9 l ly (.own 61 4 (rowsU (l.filter (fun x:UseT=>useIs x ly)))) l.length i, [],b⟩):
 WR Ev ARf9 (l.length+1) ⟨AKn9 l ly (.own 61 4 (rowsU [])) l.length (0:Nat), [],b⟩ Q:=by
 refine WR.gathL (X:=⟨BXg9, [],wlW Ev,Ev.Y,false⟩) (k:=100) [1,5,8,9,10] mixed (CX.Ok.of BNo9 Zah) l (AJn9 (fun x:UseT=>useIs x ly)) (AJw9 _) (fun acc i=>AKn9 l ly (.own 61 4 (rowsU acc)) l.length (i:Nat)) [] 0 (fun i x acc hi hx ha K k1=> ?_) (fun acc K k1=> ?_) ?_
 ·refine Eq.mpr (CAk9 _ _ _ K l ly _ l.length i) ?_;rw [ACf9 hx];refine Zaz (by simp;omega) (Zaz (natI i) ⟨_,_,_,_,rfl,x,ly,_,rfl,rfl,Zba (fun g=>Zaz (by simp [AAj9];omega) ?_) fun g=> ?_⟩)
  ·rw [AOn9 (p:=(fun x:UseT=>useIs x ly)) (x:=x) g,AVv9] at k1;rw [wrapN (by omega)];exact k1
  ·rw [AOo9 (p:=(fun x:UseT=>useIs x ly)) (x:=x) g,Zdw] at k1;rw [wrapN (by omega)];exact k1
 ·refine Eq.mpr (CAk9 _ _ _ K l ly _ l.length _) ?_;exact Zdf (by simp) k1
 ·rw [AEh9];exact hQ _
def BBh9 {β:Type}:WLT β:=fun cd tm hp b K=>∃(l:List UseT) (ly:LayT),cd= .loop ARf9∧AAx9 [1,5,8,9,10] 0 tm=AKn9 l ly nilA (rowsU l).length 0∧hp= []∧l.length<1000000∧
 ∀(i:Int) (r:List UseT),r=l.filter (fun x:UseT=>useIs x ly)→K (.exit 0) (AKn9 l ly (.own 61 4 (rowsU r)) l.length i) [] b
theorem BBg9 {Ev:Env prog} (c:Code) (tm:List AV) (hp:List Blk) (b:Ev.β) (K:Exit→List AV→List Blk→Ev.β→Prop) (h:BBh9 c tm hp b K):W Ev c ⟨tm,hp,b⟩ (fun e s=>K e s.tm s.hp s.b):=by
 obtain ⟨l,ly,rfl,htm,rfl,hl,hK⟩:=h;rw [AAj9] at htm;refine W.cast (htm▸AAc9 _ tm 0) (Zbu _) ?_;refine W.cast (tm':=AKn9 l ly (.own 61 4 (rowsU [])) l.length 0) (LeL.at [_,_,_,_,_] _ (LeA.nilOwn rfl)) (Zbu _) ?_;exact W.rounds (BYa9 (Q:=fun e s=>K e s.tm s.hp s.b) l ly hl fun i=>hK i _ rfl)
theorem AYs9 (l:List UseT) (ly:LayT):wpFn prog ⟨[], [],BBh9,y,false⟩ 100 f74 [.d (.sl 4 (rowsU l)), .fn (.func 75) [] [.rptr [i64 ly.no,i64 ly.da]]] b R=(∃(l0:List UseT) (ly1:LayT),Zav ARf9=Zav ARf9∧(Zab::Zaw (Fn.func 75) [] (Qz14 ly)::bds 3 (Zae (Zdx (.slice none 0 0))::Zab::Zab::Zae (Zan 4 (rowsU l))::Zae (i64 ((Zaa (rowsU l):Nat):Int))::Zae (i64 0)::bds 12 []))=(Zab::Zaw (Fn.func 75) [] (Qz14 ly1)::bds 3 (Zae (Zdx (.slice none 0 0))::Zab::Zab::Zae (Zan 4 (rowsU l0))::Zae (i64 ((Zaa (rowsU l0):Nat):Int))::Zae (i64 0)::bds 12 []))∧([]:List Blk)= []∧Zaa l0<1000000∧∀(i:Int) (r:List UseT),r=Zcn (fun (x2:UseT)=>useIs x2 ly1) l0→R (.d (Zan 4 (rowsU r))) b):=by kernel_rfl
theorem BDg9 (l:List UseT) (ly:LayT) (hl:l.length<1000000):PCall prog 74 [.d (.sl 4 (rowsU l)), .fn (.func 75) [] [.rptr [i64 ly.no,i64 ly.da]]] (.d (.sl 4 (rowsU (l.filter (fun x:UseT=>useIs x ly))))):=by
 refine Zfw (n:=100) (u:=false) (fun _=>BBh9) mixed Zaj Zah (fun Ev=>BBg9) func74 (by rfl) (by rfl) fun Ev bb=> ?_;rw [AYs9];exact ⟨l,ly,rfl,rfl,rfl,hl,fun i r hr=>hr▸ .base LeA.rfl⟩
def AWv9 (args:List AV) (K:AV→Prop):Prop:=∃(l:List UseT) (ly:LayT) (q:List UseT),args= [.d (.sl 4 (rowsU l)), .fn (.func 75) [] [.rptr [i64 ly.no,i64 ly.da]]]∧(l.length<1000000∧q=l.filter (fun x:UseT=>useIs x ly))∧K (.d (.sl 4 (rowsU q)))
theorem AUl9:∀args K,AWv9 args K→∃x,PCall prog 74 args x∧K x:=by
 rintro _ K ⟨l,ly,_,rfl,⟨hl,rfl⟩,hk⟩;exact ⟨_,BDg9 l ly hl,hk⟩
theorem BMe9 (x:GraT) (ly:LayT):wpFn prog ⟨TIg, [],wl,y,false⟩ 100 f78 ([graA x]++ [.rptr [i64 ly.no,i64 ly.da]]) b R=(∃(x0:GraT) (ly1:LayT) (q2:Bool), [Zar (Qz3 ly),Zar (Qz5 x)]= [Zar (Qz3 ly1),Zar (Qz5 x0)]∧q2=graIs x0 ly1∧R (.d (bo q2)) b):=by kernel_rfl
theorem BTo9 (x:GraT) (ly:LayT):PCall prog 78 ([graA x]++ [.rptr [i64 ly.no,i64 ly.da]]) (.d (bo ((fun x:GraT=>graIs x ly) x))):=by
 refine Zbg (n:=100) (u:=false) mixed CHr9 Zah func78 (by rfl) (by rfl) fun Ev bb=> ?_;rw [BMe9];exact ⟨x,ly,_,rfl,rfl,rfl⟩
def BPv9 (args:List AV) (K:AV→Prop):Prop:=∃(x:GraT) (ly:LayT) (q:Bool),args= [graA x]++ [.rptr [i64 ly.no,i64 ly.da]]∧q=(fun x:GraT=>graIs x ly) x∧K (.d (bo q))
theorem BHn9:∀args K,BPv9 args K→∃x,PCall prog 78 args x∧K x:=by
 rintro _ K ⟨x,ly,_,rfl,rfl,hk⟩;exact ⟨_,BTo9 x ly,hk⟩
def BXh9:List (Nat×(List AV→(AV→Prop)→Prop)):= [(78,BPv9)]
theorem BNp9:AAb9 prog BXh9:=Zai BHn9 Zaj
noncomputable def ARg9:Code:=sub [1,1,0,1,2,3] (code f77)
def AKo9 (l:List GraT) (ly:LayT) (acc:AV) (n i:Int):List AV:= [.bad, .fn (.func 78) [] [.rptr [i64 ly.no,i64 ly.da]], .bad, .bad, .bad,acc, .bad, .bad, .d (.sl 5 (rowsG l)), .d (i64 n), .d (i64 i)]++Zap 12 .bad
theorem CAl9 (l:List GraT) (ly:LayT) (xs:List (List Dv)) (n i:Int):wpc prog ⟨BXh9, [],wl,y,false⟩ 100 ARg9 (AKo9 l ly (.own 59 5 xs) n i) [] b (maskK 0 [1,5,8,9,10] K)=(BIf (decide (i<n)) (BIf (true&&decide (0≤i)) (∃(x0:Int) (x1:Int) (x2:Int) (x3:Int) (x4:Int),(rowsG l)[Zam i]? =some (Qz32 x0 x1 x2 x3 x4)∧∃(x7:GraT) (ly8:LayT) (q9:Bool), [Zar (Qz24 x0 x1 x2 x3 x4),Zag [i64 (Zfa ly),i64 (Zcv ly)]]= [Zar (Qz5 x7),Zag [i64 (Zfa ly8),i64 (Zcv ly8)]]∧q9=graIs x7 ly8∧BIf q9 (BIf (true&&decide ((Zaa xs+1)*40≤140737488355328)) (K .normal (Zab::Zaw (Fn.func 78) [] (Qz14 ly)::bds 3 (Zgm 59 5 (xs++ [Qz32 x0 x1 x2 x3 x4])::Zab::Zab::Zae (Zan 5 (rowsG l))::Zae (i64 n)::Zae (i64 (Zad .i64 (i+1)))::bds 12 [])) [] b) False) (K .normal (Zab::Zaw (Fn.func 78) [] (Qz14 ly)::bds 3 (Zgm 59 5 xs::Zab::Zab::Zae (Zan 5 (rowsG l))::Zae (i64 n)::Zae (i64 (Zad .i64 (i+1)))::bds 12 [])) [] b)) False) (K (Zbn 0) (Zab::Zaw (Fn.func 78) [] (Qz14 ly)::bds 3 (Zgm 59 5 xs::Zab::Zab::Zae (Zan 5 (rowsG l))::Zae (i64 n)::Zae (i64 i)::bds 12 [])) [] b)):=by kernel_rfl
theorem BYb9 {Ev:Env prog} {b:Ev.β} {Q:Exit→St Ev.β→Prop} (l:List GraT) (ly:LayT) (hl:l.length<1000000) (hQ:∀i:Int,Q (.exit 0) ⟨AKo9 l ly (.own 59 5 (rowsG (l.filter (fun x:GraT=>graIs x ly)))) l.length i, [],b⟩):
 WR Ev ARg9 (l.length+1) ⟨AKo9 l ly (.own 59 5 (rowsG [])) l.length (0:Nat), [],b⟩ Q:=by
 refine WR.gathL (X:=⟨BXh9, [],wlW Ev,Ev.Y,false⟩) (k:=100) [1,5,8,9,10] mixed (CX.Ok.of BNp9 Zah) l (AJn9 (fun x:GraT=>graIs x ly)) (AJw9 _) (fun acc i=>AKo9 l ly (.own 59 5 (rowsG acc)) l.length (i:Nat)) [] 0 (fun i x acc hi hx ha K k1=> ?_) (fun acc K k1=> ?_) ?_
 ·refine Eq.mpr (CAl9 _ _ _ K l ly _ l.length i) ?_;rw [ABb9 hx];refine Zaz (by simp;omega) (Zaz (natI i) ⟨_,_,_,_,_,rfl,x,ly,_,rfl,rfl,Zba (fun g=>Zaz (by simp [AAe9];omega) ?_) fun g=> ?_⟩)
  ·rw [AOn9 (p:=(fun x:GraT=>graIs x ly)) (x:=x) g,AOj9] at k1;rw [wrapN (by omega)];exact k1
  ·rw [AOo9 (p:=(fun x:GraT=>graIs x ly)) (x:=x) g,Zdw] at k1;rw [wrapN (by omega)];exact k1
 ·refine Eq.mpr (CAl9 _ _ _ K l ly _ l.length _) ?_;exact Zdf (by simp) k1
 ·rw [AEh9];exact hQ _
def BBj9 {β:Type}:WLT β:=fun cd tm hp b K=>∃(l:List GraT) (ly:LayT),cd= .loop ARg9∧AAx9 [1,5,8,9,10] 0 tm=AKo9 l ly nilA (rowsG l).length 0∧hp= []∧l.length<1000000∧
 ∀(i:Int) (r:List GraT),r=l.filter (fun x:GraT=>graIs x ly)→K (.exit 0) (AKo9 l ly (.own 59 5 (rowsG r)) l.length i) [] b
theorem BBi9 {Ev:Env prog} (c:Code) (tm:List AV) (hp:List Blk) (b:Ev.β) (K:Exit→List AV→List Blk→Ev.β→Prop) (h:BBj9 c tm hp b K):W Ev c ⟨tm,hp,b⟩ (fun e s=>K e s.tm s.hp s.b):=by
 obtain ⟨l,ly,rfl,htm,rfl,hl,hK⟩:=h;rw [AAe9] at htm;refine W.cast (htm▸AAc9 _ tm 0) (Zbu _) ?_;refine W.cast (tm':=AKo9 l ly (.own 59 5 (rowsG [])) l.length 0) (LeL.at [_,_,_,_,_] _ (LeA.nilOwn rfl)) (Zbu _) ?_;exact W.rounds (BYb9 (Q:=fun e s=>K e s.tm s.hp s.b) l ly hl fun i=>hK i _ rfl)
theorem AYt9 (l:List GraT) (ly:LayT):wpFn prog ⟨[], [],BBj9,y,false⟩ 100 f77 [.d (.sl 5 (rowsG l)), .fn (.func 78) [] [.rptr [i64 ly.no,i64 ly.da]]] b R=(∃(l0:List GraT) (ly1:LayT),Zav ARg9=Zav ARg9∧(Zab::Zaw (Fn.func 78) [] (Qz14 ly)::bds 3 (Zae (Zdx (.slice none 0 0))::Zab::Zab::Zae (Zan 5 (rowsG l))::Zae (i64 ((Zaa (rowsG l):Nat):Int))::Zae (i64 0)::bds 12 []))=(Zab::Zaw (Fn.func 78) [] (Qz14 ly1)::bds 3 (Zae (Zdx (.slice none 0 0))::Zab::Zab::Zae (Zan 5 (rowsG l0))::Zae (i64 ((Zaa (rowsG l0):Nat):Int))::Zae (i64 0)::bds 12 []))∧([]:List Blk)= []∧Zaa l0<1000000∧∀(i:Int) (r:List GraT),r=Zcn (fun (x2:GraT)=>graIs x2 ly1) l0→R (.d (Zan 5 (rowsG r))) b):=by kernel_rfl
theorem BDh9 (l:List GraT) (ly:LayT) (hl:l.length<1000000):PCall prog 77 [.d (.sl 5 (rowsG l)), .fn (.func 78) [] [.rptr [i64 ly.no,i64 ly.da]]] (.d (.sl 5 (rowsG (l.filter (fun x:GraT=>graIs x ly))))):=by
 refine Zfw (n:=100) (u:=false) (fun _=>BBj9) mixed Zaj Zah (fun Ev=>BBi9) func77 (by rfl) (by rfl) fun Ev bb=> ?_;rw [AYt9];exact ⟨l,ly,rfl,rfl,rfl,hl,fun i r hr=>hr▸ .base LeA.rfl⟩
def AWw9 (args:List AV) (K:AV→Prop):Prop:=∃(l:List GraT) (ly:LayT) (q:List GraT),args= [.d (.sl 5 (rowsG l)), .fn (.func 78) [] [.rptr [i64 ly.no,i64 ly.da]]]∧(l.length<1000000∧q=l.filter (fun x:GraT=>graIs x ly))∧K (.d (.sl 5 (rowsG q)))
theorem AUm9:∀args K,AWw9 args K→∃x,PCall prog 77 args x∧K x:=by
 rintro _ K ⟨l,ly,_,rfl,⟨hl,rfl⟩,hk⟩;exact ⟨_,BDh9 l ly hl,hk⟩
theorem BMf9 (x:AskT) (ly:LayT):wpFn prog ⟨TIa, [],wl,y,false⟩ 100 f80 ([askA x]++ [.rptr [i64 ly.no,i64 ly.da]]) b R=(∃(sl0:Int) (of1:Int) (pe2:Int) (l3:LayT) (z4:Bool), [Zar (Qz3 ly),Zar [Zae (i64 (Zcs x)),Zae (i64 (Zfz x))],Zae (i64 (Zfm x))]= [Zar (Qz3 l3),Zar [Zae (i64 sl0),Zae (i64 of1)],Zae (i64 pe2)]∧z4=ABv9 sl0 of1 pe2 l3∧R (.d (bo z4)) b):=by kernel_rfl
theorem BTp9 (x:AskT) (ly:LayT):PCall prog 80 ([askA x]++ [.rptr [i64 ly.no,i64 ly.da]]) (.d (bo ((fun x:AskT=>ABv9 x.sl x.of x.pe ly) x))):=by
 refine Zbg (n:=100) (u:=false) mixed CHs9 Zah func80 (by rfl) (by rfl) fun Ev bb=> ?_;rw [BMf9];exact ⟨_,_,_,ly,_,rfl,rfl,rfl⟩
def BPw9 (args:List AV) (K:AV→Prop):Prop:=∃(x:AskT) (ly:LayT) (q:Bool),args= [askA x]++ [.rptr [i64 ly.no,i64 ly.da]]∧q=(fun x:AskT=>ABv9 x.sl x.of x.pe ly) x∧K (.d (bo q))
theorem BHo9:∀args K,BPw9 args K→∃x,PCall prog 80 args x∧K x:=by
 rintro _ K ⟨x,ly,_,rfl,rfl,hk⟩;exact ⟨_,BTp9 x ly,hk⟩
def BXi9:List (Nat×(List AV→(AV→Prop)→Prop)):= [(80,BPw9)]
theorem BNq9:AAb9 prog BXi9:=Zai BHo9 Zaj
noncomputable def ARh9:Code:=sub [1,1,0,1,2,3] (code f40)
def AKp9 (l:List AskT) (ly:LayT) (acc:AV) (n i:Int):List AV:= [.bad, .fn (.func 80) [] [.rptr [i64 ly.no,i64 ly.da]], .bad, .bad, .bad,acc, .bad, .bad, .d (.sl 3 (rowsA l)), .d (i64 n), .d (i64 i)]++Zap 12 .bad
theorem CAm9 (l:List AskT) (ly:LayT) (xs:List (List Dv)) (n i:Int):wpc prog ⟨BXi9, [],wl,y,false⟩ 100 ARh9 (AKp9 l ly (.own 63 3 xs) n i) [] b (maskK 0 [1,5,8,9,10] K)=(BIf (decide (i<n)) (BIf (true&&decide (0≤i)) (∃(x0:Int) (x1:Int) (x2:Int),(rowsA l)[Zam i]? =some [i64 x0,i64 x1,i64 x2]∧∃(x5:AskT) (ly6:LayT) (q7:Bool), [Zar (Qz29 x0 x1 x2),Zag [i64 (Zfa ly),i64 (Zcv ly)]]= [Zar (Qz13 x5),Zag [i64 (Zfa ly6),i64 (Zcv ly6)]]∧q7=ABv9 (Zcs x5) (Zfz x5) (Zfm x5) ly6∧BIf q7 (BIf (true&&decide ((Zaa xs+1)*24≤140737488355328)) (K .normal (Zab::Zaw (Fn.func 80) [] (Qz14 ly)::bds 3 (Zgm 63 3 (xs++ [[i64 x0,i64 x1,i64 x2]])::Zab::Zab::Zae (Zan 3 (rowsA l))::Zae (i64 n)::Zae (i64 (Zad .i64 (i+1)))::bds 12 [])) [] b) False) (K .normal (Zab::Zaw (Fn.func 80) [] (Qz14 ly)::bds 3 (Zgm 63 3 xs::Zab::Zab::Zae (Zan 3 (rowsA l))::Zae (i64 n)::Zae (i64 (Zad .i64 (i+1)))::bds 12 [])) [] b)) False) (K (Zbn 0) (Zab::Zaw (Fn.func 80) [] (Qz14 ly)::bds 3 (Zgm 63 3 xs::Zab::Zab::Zae (Zan 3 (rowsA l))::Zae (i64 n)::Zae (i64 i)::bds 12 [])) [] b)):=by kernel_rfl
theorem BYc9 {Ev:Env prog} {b:Ev.β} {Q:Exit→St Ev.β→Prop} (l:List AskT) (ly:LayT) (hl:l.length<1000000) (hQ:∀i:Int,Q (.exit 0) ⟨AKp9 l ly (.own 63 3 (rowsA (l.filter (fun x:AskT=>ABv9 x.sl x.of x.pe ly)))) l.length i, [],b⟩):
 WR Ev ARh9 (l.length+1) ⟨AKp9 l ly (.own 63 3 (rowsA [])) l.length (0:Nat), [],b⟩ Q:=by
 refine WR.gathL (X:=⟨BXi9, [],wlW Ev,Ev.Y,false⟩) (k:=100) [1,5,8,9,10] mixed (CX.Ok.of BNq9 Zah) l (AJn9 (fun x:AskT=>ABv9 x.sl x.of x.pe ly)) (AJw9 _) (fun acc i=>AKp9 l ly (.own 63 3 (rowsA acc)) l.length (i:Nat)) [] 0 (fun i x acc hi hx ha K k1=> ?_) (fun acc K k1=> ?_) ?_
 ·refine Eq.mpr (CAm9 _ _ _ K l ly _ l.length i) ?_;rw [ABo9 hx];refine Zaz (by simp;omega) (Zaz (natI i) ⟨_,_,_,rfl,x,ly,_,rfl,rfl,Zba (fun g=>Zaz (by simp [AAo9];omega) ?_) fun g=> ?_⟩)
  ·rw [AOn9 (p:=(fun x:AskT=>ABv9 x.sl x.of x.pe ly)) (x:=x) g,AVw9] at k1;rw [wrapN (by omega)];exact k1
  ·rw [AOo9 (p:=(fun x:AskT=>ABv9 x.sl x.of x.pe ly)) (x:=x) g,Zdw] at k1;rw [wrapN (by omega)];exact k1
 ·refine Eq.mpr (CAm9 _ _ _ K l ly _ l.length _) ?_;exact Zdf (by simp) k1
 ·rw [AEh9];exact hQ _
def BBl9 {β:Type}:WLT β:=fun cd tm hp b K=>∃(l:List AskT) (ly:LayT),cd= .loop ARh9∧AAx9 [1,5,8,9,10] 0 tm=AKp9 l ly nilA (rowsA l).length 0∧hp= []∧l.length<1000000∧
 ∀(i:Int) (r:List AskT),r=l.filter (fun x:AskT=>ABv9 x.sl x.of x.pe ly)→K (.exit 0) (AKp9 l ly (.own 63 3 (rowsA r)) l.length i) [] b
theorem BBk9 {Ev:Env prog} (c:Code) (tm:List AV) (hp:List Blk) (b:Ev.β) (K:Exit→List AV→List Blk→Ev.β→Prop) (h:BBl9 c tm hp b K):W Ev c ⟨tm,hp,b⟩ (fun e s=>K e s.tm s.hp s.b):=by
 obtain ⟨l,ly,rfl,htm,rfl,hl,hK⟩:=h;rw [AAo9] at htm;refine W.cast (htm▸AAc9 _ tm 0) (Zbu _) ?_;refine W.cast (tm':=AKp9 l ly (.own 63 3 (rowsA [])) l.length 0) (LeL.at [_,_,_,_,_] _ (LeA.nilOwn rfl)) (Zbu _) ?_;exact W.rounds (BYc9 (Q:=fun e s=>K e s.tm s.hp s.b) l ly hl fun i=>hK i _ rfl)
theorem AYu9 (l:List AskT) (ly:LayT):wpFn prog ⟨[], [],BBl9,y,false⟩ 100 f40 [.d (.sl 3 (rowsA l)), .fn (.func 80) [] [.rptr [i64 ly.no,i64 ly.da]]] b R=(∃(l0:List AskT) (ly1:LayT),Zav ARh9=Zav ARh9∧(Zab::Zaw (Fn.func 80) [] (Qz14 ly)::bds 3 (Zae (Zdx (.slice none 0 0))::Zab::Zab::Zae (Zan 3 (rowsA l))::Zae (i64 ((Zaa (rowsA l):Nat):Int))::Zae (i64 0)::bds 12 []))=(Zab::Zaw (Fn.func 80) [] (Qz14 ly1)::bds 3 (Zae (Zdx (.slice none 0 0))::Zab::Zab::Zae (Zan 3 (rowsA l0))::Zae (i64 ((Zaa (rowsA l0):Nat):Int))::Zae (i64 0)::bds 12 []))∧([]:List Blk)= []∧Zaa l0<1000000∧∀(i:Int) (r:List AskT),r=Zcn (fun (x2:AskT)=>ABv9 (Zcs x2) (Zfz x2) (Zfm x2) ly1) l0→R (.d (Zan 3 (rowsA r))) b):=by kernel_rfl
theorem BDi9 (l:List AskT) (ly:LayT) (hl:l.length<1000000):PCall prog 40 [.d (.sl 3 (rowsA l)), .fn (.func 80) [] [.rptr [i64 ly.no,i64 ly.da]]] (.d (.sl 3 (rowsA (l.filter (fun x:AskT=>ABv9 x.sl x.of x.pe ly))))):=by
 refine Zfw (n:=100) (u:=false) (fun _=>BBl9) mixed Zaj Zah (fun Ev=>BBk9) func40 (by rfl) (by rfl) fun Ev bb=> ?_;rw [AYu9];exact ⟨l,ly,rfl,rfl,rfl,hl,fun i r hr=>hr▸ .base LeA.rfl⟩
def AWx9 (args:List AV) (K:AV→Prop):Prop:=∃(l:List AskT) (ly:LayT) (q:List AskT),args= [.d (.sl 3 (rowsA l)), .fn (.func 80) [] [.rptr [i64 ly.no,i64 ly.da]]]∧(l.length<1000000∧q=l.filter (fun x:AskT=>ABv9 x.sl x.of x.pe ly))∧K (.d (.sl 3 (rowsA q)))
theorem AUn9:∀args K,AWx9 args K→∃x,PCall prog 40 args x∧K x:=by
 rintro _ K ⟨l,ly,_,rfl,⟨hl,rfl⟩,hk⟩;exact ⟨_,BDi9 l ly hl,hk⟩
theorem BMi9 (x:GraT) (s:SideT):wpFn prog ⟨[], [],wl,y,false⟩ 100 f106 ([graA x]++ [.rptr [.pt (sideD s)]]) b R=(BIf (GraT.pe x==Zff s) (R (Zae (bo (decide (Zdt x≥Zgn s)))) b) (R (Zae (bo false)) b)):=by kernel_rfl
theorem BTs9 (x:GraT) (s:SideT):PCall prog 106 ([graA x]++ [.rptr [.pt (sideD s)]]) (.d (bo ((fun x:GraT=>x.pe==s.me&&decide (x.un≥s.fr)) x))):=by
 refine Zbg (n:=100) (u:=false) mixed Zaj Zah func106 (by rfl) (by rfl) fun Ev bb=> ?_;rw [BMi9];exact Zba (fun h=>by have h':(x.pe==s.me)=true:=h;simp only [h',Zde]) fun h=>by have h':(x.pe==s.me)=false:=h;simp only [h',Zck]
def BPz9 (args:List AV) (K:AV→Prop):Prop:=∃(x:GraT) (s:SideT) (q:Bool),args= [graA x]++ [.rptr [.pt (sideD s)]]∧q=(fun x:GraT=>x.pe==s.me&&decide (x.un≥s.fr)) x∧K (.d (bo q))
theorem BHr9:∀args K,BPz9 args K→∃x,PCall prog 106 args x∧K x:=by
 rintro _ K ⟨x,s,_,rfl,rfl,hk⟩;exact ⟨_,BTs9 x s,hk⟩
def BXj9:List (Nat×(List AV→(AV→Prop)→Prop)):= [(106,BPz9)]
theorem BNr9:AAb9 prog BXj9:=Zai BHr9 Zaj
noncomputable def ARi9:Code:=sub [1,1,0,1,2,3] (code f77)
def AKq9 (l:List GraT) (s:SideT) (acc:AV) (n i:Int):List AV:= [.bad, .fn (.func 106) [] [.rptr [.pt (sideD s)]], .bad, .bad, .bad,acc, .bad, .bad, .d (.sl 5 (rowsG l)), .d (i64 n), .d (i64 i)]++Zap 12 .bad
theorem CAn9 (l:List GraT) (s:SideT) (xs:List (List Dv)) (n i:Int):wpc prog ⟨BXj9, [],wl,y,false⟩ 100 ARi9 (AKq9 l s (.own 59 5 xs) n i) [] b (maskK 0 [1,5,8,9,10] K)=(BIf (decide (i<n)) (BIf (true&&decide (0≤i)) (∃(x0:Int) (x1:Int) (x2:Int) (x3:Int) (x4:Int),(rowsG l)[Zam i]? =some (Qz32 x0 x1 x2 x3 x4)∧∃(x7:GraT) (s8:SideT) (q9:Bool), [Zar (Qz24 x0 x1 x2 x3 x4),Zag [Zdu (Qz2 s)]]= [Zar (Qz5 x7),Zag [Zdu (Qz2 s8)]]∧q9=(GraT.pe x7==Zff s8&&decide (Zdt x7≥Zgn s8))∧BIf q9 (BIf (true&&decide ((Zaa xs+1)*40≤140737488355328)) (K .normal (Zab::Zaw (Fn.func 106) [] [Zag [Zdu (Qz2 s)]]::bds 3 (Zgm 59 5 (xs++ [Qz32 x0 x1 x2 x3 x4])::Zab::Zab::Zae (Zan 5 (rowsG l))::Zae (i64 n)::Zae (i64 (Zad .i64 (i+1)))::bds 12 [])) [] b) False) (K .normal (Zab::Zaw (Fn.func 106) [] [Zag [Zdu (Qz2 s)]]::bds 3 (Zgm 59 5 xs::Zab::Zab::Zae (Zan 5 (rowsG l))::Zae (i64 n)::Zae (i64 (Zad .i64 (i+1)))::bds 12 [])) [] b)) False) (K (Zbn 0) (Zab::Zaw (Fn.func 106) [] [Zag [Zdu (Qz2 s)]]::bds 3 (Zgm 59 5 xs::Zab::Zab::Zae (Zan 5 (rowsG l))::Zae (i64 n)::Zae (i64 i)::bds 12 [])) [] b)):=by kernel_rfl
theorem BYd9 {Ev:Env prog} {b:Ev.β} {Q:Exit→St Ev.β→Prop} (l:List GraT) (s:SideT) (hl:l.length<1000000) (hQ:∀i:Int,Q (.exit 0) ⟨AKq9 l s (.own 59 5 (rowsG (l.filter (fun x:GraT=>x.pe==s.me&&decide (x.un≥s.fr))))) l.length i, [],b⟩):
 WR Ev ARi9 (l.length+1) ⟨AKq9 l s (.own 59 5 (rowsG [])) l.length (0:Nat), [],b⟩ Q:=by
 refine WR.gathL (X:=⟨BXj9, [],wlW Ev,Ev.Y,false⟩) (k:=100) [1,5,8,9,10] mixed (CX.Ok.of BNr9 Zah) l (AJn9 (fun x:GraT=>x.pe==s.me&&decide (x.un≥s.fr))) (AJw9 _) (fun acc i=>AKq9 l s (.own 59 5 (rowsG acc)) l.length (i:Nat)) [] 0 (fun i x acc hi hx ha K k1=> ?_) (fun acc K k1=> ?_) ?_
 ·refine Eq.mpr (CAn9 _ _ _ K l s _ l.length i) ?_;rw [ABb9 hx];refine Zaz (by simp;omega) (Zaz (natI i) ⟨_,_,_,_,_,rfl,x,s,_,rfl,rfl,Zba (fun g=>Zaz (by simp [AAe9];omega) ?_) fun g=> ?_⟩)
  ·rw [AOn9 (p:=(fun x:GraT=>x.pe==s.me&&decide (x.un≥s.fr))) (x:=x) g,AOj9] at k1;rw [wrapN (by omega)];exact k1
  ·rw [AOo9 (p:=(fun x:GraT=>x.pe==s.me&&decide (x.un≥s.fr))) (x:=x) g,Zdw] at k1;rw [wrapN (by omega)];exact k1
 ·refine Eq.mpr (CAn9 _ _ _ K l s _ l.length _) ?_;exact Zdf (by simp) k1
 ·rw [AEh9];exact hQ _
def BBn9 {β:Type}:WLT β:=fun cd tm hp b K=>∃(l:List GraT) (s:SideT),cd= .loop ARi9∧AAx9 [1,5,8,9,10] 0 tm=AKq9 l s nilA (rowsG l).length 0∧hp= []∧l.length<1000000∧
 ∀(i:Int) (r:List GraT),r=l.filter (fun x:GraT=>x.pe==s.me&&decide (x.un≥s.fr))→K (.exit 0) (AKq9 l s (.own 59 5 (rowsG r)) l.length i) [] b
theorem BBm9 {Ev:Env prog} (c:Code) (tm:List AV) (hp:List Blk) (b:Ev.β) (K:Exit→List AV→List Blk→Ev.β→Prop) (h:BBn9 c tm hp b K):W Ev c ⟨tm,hp,b⟩ (fun e s=>K e s.tm s.hp s.b):=by
 obtain ⟨l,s,rfl,htm,rfl,hl,hK⟩:=h;rw [AAe9] at htm;refine W.cast (htm▸AAc9 _ tm 0) (Zbu _) ?_;refine W.cast (tm':=AKq9 l s (.own 59 5 (rowsG [])) l.length 0) (LeL.at [_,_,_,_,_] _ (LeA.nilOwn rfl)) (Zbu _) ?_;exact W.rounds (BYd9 (Q:=fun e s=>K e s.tm s.hp s.b) l s hl fun i=>hK i _ rfl)
theorem AYv9 (l:List GraT) (s:SideT):wpFn prog ⟨[], [],BBn9,y,false⟩ 100 f77 [.d (.sl 5 (rowsG l)), .fn (.func 106) [] [.rptr [.pt (sideD s)]]] b R=(∃(l0:List GraT) (s1:SideT),Zav ARi9=Zav ARi9∧(Zab::Zaw (Fn.func 106) [] [Zag [Zdu (Qz2 s)]]::bds 3 (Zae (Zdx (.slice none 0 0))::Zab::Zab::Zae (Zan 5 (rowsG l))::Zae (i64 ((Zaa (rowsG l):Nat):Int))::Zae (i64 0)::bds 12 []))=(Zab::Zaw (Fn.func 106) [] [Zag [Zdu (Qz2 s1)]]::bds 3 (Zae (Zdx (.slice none 0 0))::Zab::Zab::Zae (Zan 5 (rowsG l0))::Zae (i64 ((Zaa (rowsG l0):Nat):Int))::Zae (i64 0)::bds 12 []))∧([]:List Blk)= []∧Zaa l0<1000000∧∀(i:Int) (r:List GraT),r=Zcn (fun (x2:GraT)=>GraT.pe x2==Zff s1&&decide (Zdt x2≥Zgn s1)) l0→R (.d (Zan 5 (rowsG r))) b):=by kernel_rfl
theorem BDj9 (l:List GraT) (s:SideT) (hl:l.length<1000000):PCall prog 77 [.d (.sl 5 (rowsG l)), .fn (.func 106) [] [.rptr [.pt (sideD s)]]] (.d (.sl 5 (rowsG (l.filter (fun x:GraT=>x.pe==s.me&&decide (x.un≥s.fr)))))):=by
 refine Zfw (n:=100) (u:=false) (fun _=>BBn9) mixed Zaj Zah (fun Ev=>BBm9) func77 (by rfl) (by rfl) fun Ev bb=> ?_;rw [AYv9];exact ⟨l,s,rfl,rfl,rfl,hl,fun i r hr=>hr▸ .base LeA.rfl⟩
def AWy9 (args:List AV) (K:AV→Prop):Prop:=∃(l:List GraT) (s:SideT) (q:List GraT),args= [.d (.sl 5 (rowsG l)), .fn (.func 106) [] [.rptr [.pt (sideD s)]]]∧(l.length<1000000∧q=l.filter (fun x:GraT=>x.pe==s.me&&decide (x.un≥s.fr)))∧K (.d (.sl 5 (rowsG q)))
theorem AUo9:∀args K,AWy9 args K→∃x,PCall prog 77 args x∧K x:=by
 rintro _ K ⟨l,s,_,rfl,⟨hl,rfl⟩,hk⟩;exact ⟨_,BDj9 l s hl,hk⟩
def TGd:List (Nat×(List AV→(AV→Prop)→Prop)):= [(77,AWy9)]
theorem CHv9:AAb9 prog TGd:=Zai AUo9 Zaj
theorem BEq9 (s:SideT) (n:NearT):wpFn prog ⟨TGd, [],wl,y,false⟩ 100 f53 [.rptr (sideD s),nearA n] b R=(∃(l0:List GraT) (s1:SideT) (q2:List GraT), [Zae (Zan 5 (rowsG (Zbm n))),Zaw (Fn.func 106) [] [Zag [Zdu (Qz2 s)]]]= [Zae (Zan 5 (rowsG l0)),Zaw (Fn.func 106) [] [Zag [Zdu (Qz2 s1)]]]∧(Zaa l0<1000000∧q2=Zcn (fun (x3:GraT)=>GraT.pe x3==Zff s1&&decide (Zdt x3≥Zgn s1)) l0)∧R (.d (Zan 5 (rowsG q2))) b):=by kernel_rfl
def AEa9 (s:SideT) (n:NearT):List GraT:=n.gs.filter (fun x=>x.pe==s.me&&decide (x.un≥s.fr))
theorem BKl9 (s:SideT) (n:NearT) (h:n.gs.length<1000000):PCall prog 53 [.rptr (sideD s),nearA n] (.d (.sl 5 (rowsG (AEa9 s n)))):=by
 refine Zbg (n:=100) (u:=false) mixed CHv9 Zah func53 (by rfl) (by rfl) fun Ev bb=> ?_;rw [BEq9];exact ⟨n.gs,s,_,rfl,⟨h,rfl⟩,rfl⟩
def BGw9 (args:List AV) (K:AV→Prop):Prop:=∃(s:SideT) (n:NearT) (q:List GraT),args= [.rptr (sideD s),nearA n]∧(n.gs.length<1000000∧q=AEa9 s n)∧K (.d (.sl 5 (rowsG q)))
theorem BAc9:∀args K,BGw9 args K→∃x,PCall prog 53 args x∧K x:=by
 rintro _ K ⟨s,n,_,rfl,⟨h,rfl⟩,hk⟩;exact ⟨_,BKl9 s n h,hk⟩
def TFi:List (Nat×(List AV→(AV→Prop)→Prop)):= [(82,BGs9)]
theorem CHw9:AAb9 prog TFi:=Zai BAa9 Zaj
theorem CCq9 (s:SideT) (pe:Int):wpFn prog ⟨TFi, [],wl,y,false⟩ 100 f37 [.rptr (sideD s), .d (i64 pe)] b R=(∃(l0:List NearT) (pe1:Int) (q2:Int), [Zae (Zan 31 (rowsN (Zat s))),Zaw (Fn.func 83) [] [Zag [i64 pe]]]= [Zae (Zan 31 (rowsN l0)),Zaw (Fn.func 83) [] [Zag [i64 pe1]]]∧(Zaa l0≤9223372036854775807∧q2=idxS (fun (x3:NearT)=>Zdi x3==pe1) l0)∧BIf (decide (q2<(0:Int))) (R (.tup [Zar [Zae (i64 0),Zae (i64 0),Zae (i64 0),Zae (i64 0),Zae (i64 0),Zae (i64 0),Zae (i64 0),Zae (i64 0),Zae (i64 0),Zae (i64 0),Zae (i64 0),Zae (i64 0),Zae (Zdx (.slice none 0 0)),Zae (Zdx (.slice none 0 0)),Zae (Zdx (.slice none 0 0)),Zae (Zdx (.slice none 0 0)),Zae (bo false),Zae (Zdx (.slice none 0 0)),Zae (Zdx (.slice none 0 0)),Zae (Zdx (.slice none 0 0)),Zae (i64 0),Zae (i64 0),Zae (u64 0),Zae (i64 0),Zae (i64 0),Zae (i64 0),Zae (i64 0),Zae (i64 0),Zae (Zdx (.slice none 0 0)),Zae (Zdx (.slice none 0 0)),Zae (bo false)],Zae (bo false)]) b) (BIf (true&&decide (0≤q2)) (∃(n4:NearT),(rowsN (Zat s))[Zam q2]? =some (nearR n4)∧R (.tup [nearA n4,Zae (bo true)]) b) False)):=by kernel_rfl
theorem ALw9 {α:Type} (p:α→Bool) (l:List α):(l.findIdx? p=none∧l.find? p=none)∨∃j x,l.findIdx? p=some j∧l[j]? =some x∧l.find? p=some x∧p x=true:=by
 induction l with
 |nil=>exact .inl ⟨rfl,rfl⟩
 | cons a r ih=>
  rw [Zey,List.find?_cons];by_cases h:p a=true
  ·exact .inr ⟨0,a,by simp [h],by simp,by simp [h],h⟩
  ·simp only [Bool.not_eq_true] at h;rcases ih with ⟨h1,h2⟩|⟨j,x,h1,h2,h3,h4⟩
   ·exact .inl ⟨by simp [h,h1],by simp [h,h2]⟩
   ·exact .inr ⟨j+1,x,by simp [h,h1],by simpa using h2,by simp [h,h3],h4⟩
def zeroN:NearT:=⟨0,0, [], [], [],0,0,0,0,0,0,0,0,0,0, [],false, [], [], [],0,0,0,0,0,0,0,0, [], [],false⟩
def sFind (s:SideT) (pe:Int):Option NearT:=s.ns.find? fun x=>x.fm==pe
def nearO (o:Option NearT):NearT:=match o with|some n=>n|none=>zeroN
theorem BXx9 (e:Bool):LeV (AV.tup [Zar [Zae (i64 (0:Int)),Zae (i64 (0:Int)),Zae (i64 (0:Int)),Zae (i64 (0:Int)),Zae (i64 (0:Int)),Zae (i64 (0:Int)),Zae (i64 (0:Int)),Zae (i64 (0:Int)),Zae (i64 (0:Int)),Zae (i64 (0:Int)),Zae (i64 (0:Int)),Zae (i64 (0:Int)),Zae (Zdx (Zcz none 0 0)),Zae (Zdx (Zcz none 0 0)),Zae (Zdx (Zcz none 0 0)),Zae (Zdx (Zcz none 0 0)),Zae (bo false),Zae (Zdx (Zcz none 0 0)),Zae (Zdx (Zcz none 0 0)),Zae (Zdx (Zcz none 0 0)),Zae (i64 (0:Int)),Zae (i64 (0:Int)),Zae (u64 (0:Int)),Zae (i64 (0:Int)),Zae (i64 (0:Int)),Zae (i64 (0:Int)),Zae (i64 (0:Int)),Zae (i64 (0:Int)),Zae (Zdx (Zcz none 0 0)),Zae (Zdx (Zcz none 0 0)),Zae (bo false)],Zae (bo e)]) (.tup [nearA zeroN, .d (bo e)]):=
 LeV.tups (.cons (LeV.aggs (by repeat' (first|exact .nil|refine .cons .rfl ?_|refine .cons (.nil rfl) ?_))) (.cons .rfl .nil))
theorem CGe9 (s:SideT) (pe:Int) (h:s.ns.length≤9223372036854775807):PCall prog 37 [.rptr (sideD s), .d (i64 pe)] (.tup [nearA (nearO (sFind s pe)), .d (bo (sFind s pe).isSome)]):=by
 refine PCall.ofFnV (n:=100) (u:=false) (fun _=>fun _ _ _ _ _=>False) mixed CHw9 Zah (fun Ev _ _ _ _ _ h=>h.elim) func37 (by rfl) (by rfl) fun Ev bb=> ?_;rw [CCq9];refine ⟨s.ns,pe,_,rfl,⟨h,rfl⟩, ?_⟩;rcases ALw9 (fun x:NearT=>x.fm==pe) s.ns with ⟨h1,h2⟩|⟨j,x,h1,h2,h3,_⟩
 ·rw [AAy9 h1,show sFind s pe=none from h2];exact Zaz (by decide) (BXx9 false)
 ·rw [AAh9 h1,show sFind s pe=some x from h3,ABt9 h2];exact Zdf (by simp) (Zaz (natI j) ⟨_,rfl, .rfl⟩)
def cFind (args:List AV) (K:AV→Prop):Prop:=∃(s:SideT) (pe:Int) (q:NearT) (e:Bool),args= [.rptr (sideD s), .d (i64 pe)]∧(s.ns.length≤9223372036854775807∧q=nearO (sFind s pe)∧e=(sFind s pe).isSome)∧K (.tup [nearA q, .d (bo e)])
theorem AUv9:∀args K,cFind args K→∃x,PCall prog 37 args x∧K x:=by
 rintro _ K ⟨s,pe,_,_,rfl,⟨h,rfl,rfl⟩,hk⟩;exact ⟨_,CGe9 s pe h,hk⟩
noncomputable def lpRf:Code:=sub [1,0,1,2,3] (code f109)
def tmRf (l:List NearT) (pe q i:Int):List AV:= [.d (.sl 31 (rowsN l)), .d (i64 pe), .bad, .bad, .d (i64 q), .d (i64 i)]++Zap 15 .bad
theorem rRf (l:List NearT) (pe i:Int):wpc prog ⟨[], [],wl,y,false⟩ 100 lpRf (tmRf l pe 0 i) [] b (maskK 0 [0,1,4,5] K)=(BIf (decide (i<((Zaa (rowsN l):Nat):Int))) (BIf (true&&decide (0≤i)) (∃(n0:NearT),(rowsN l)[Zam i]? =some (nearR n0)∧BIf (Zdi n0==pe) (K .ret (Zae (Zan 31 (rowsN l))::Zae (i64 pe)::Zab::Zab::Zae (i64 i)::Zae (i64 i)::bds 15 []) [] b) (K .normal (Zae (Zan 31 (rowsN l))::Zae (i64 pe)::Zab::Zab::Zae (i64 0)::Zae (i64 (Zad .i64 (i+1)))::bds 15 []) [] b)) False) (K (Zbn 0) (Zae (Zan 31 (rowsN l))::Zae (i64 pe)::Zab::Zab::Zae (i64 0)::Zae (i64 i)::bds 15 []) [] b)):=by kernel_rfl
theorem wrRf {Ev:Env prog} {b:Ev.β} {Q:Exit→St Ev.β→Prop} (l:List NearT) (pe:Int) (hl:l.length≤9223372036854775807) (h1:l.findIdx? (fun x:NearT=>x.fm==pe)=none→∀i:Int,Q (.exit 0) ⟨tmRf l pe 0 i, [],b⟩) (h2:∀j:Nat,l.findIdx? (fun x:NearT=>x.fm==pe)=some j→Q .ret ⟨tmRf l pe j j, [],b⟩):
 WR Ev lpRf (l.length+1) ⟨tmRf l pe 0 (0:Nat), [],b⟩ Q:=by
 refine Zgc (X:=⟨[], [],wlW Ev,Ev.Y,false⟩) (k:=100) [0,1,4,5] mixed (CX.Ok.of Zaj Zah) l (fun x:NearT=>x.fm==pe) (fun i=>tmRf l pe 0 (i:Nat)) (fun i=>tmRf l pe (i:Nat) (i:Nat)) [] 0 (fun i x hi hxi K k1 k2=> ?_) (fun K k1=> ?_) (fun h=>h1 h _) h2
 ·refine Eq.mpr (rRf _ _ _ K l pe i) ?_;rw [ABs9,ABt9 hxi];refine Zaz (by simp;omega) (Zaz (natI i) ⟨_,rfl,Zba (fun g=>k1 g) fun g=> ?_⟩);rw [wrapN (by omega)];exact k2 g
 ·refine Eq.mpr (rRf _ _ _ K l pe _) ?_;rw [ABs9];exact Zdf (by simp) k1
def wlRf {β:Type}:WLT β:=fun cd tm hp b K=>∃(l:List NearT) (pe:Int) (q:Int),cd= .loop lpRf∧AAx9 [0,1,4,5] 0 tm=tmRf l pe 0 0∧hp= []∧(l.length≤9223372036854775807∧q=idxS (fun x:NearT=>x.fm==pe) l)∧(∀i:Int,q= -1→K (.exit 0) (tmRf l pe 0 i) [] b)∧(∀i:Int,0≤q→K .ret (tmRf l pe q i) [] b)
theorem BYv9 {Ev:Env prog} (c:Code) (tm:List AV) (hp:List Blk) (b:Ev.β) (K:Exit→List AV→List Blk→Ev.β→Prop) (h:wlRf c tm hp b K):W Ev c ⟨tm,hp,b⟩ (fun e s=>K e s.tm s.hp s.b):=by
 obtain ⟨l,pe,q,rfl,htm,rfl,⟨hl,rfl⟩,hK1,hK2⟩:=h;refine W.cast (htm▸AAc9 _ tm 0) (Zbu _) ?_;exact W.rounds (wrRf (Q:=fun e s=>K e s.tm s.hp s.b) l pe hl (fun h i=>hK1 i (AAy9 h)) fun j h=>by have:=hK2 j (by rw [AAh9 h];omega);rwa [AAh9 h] at this)
theorem BSo9 (l:List NearT) (pe:Int):wpFn prog ⟨[], [],wlRf,y,false⟩ 100 f109 [.d (.sl 31 (rowsN l)), .d (i64 pe)] b R=(∃(l0:List NearT) (pe1:Int) (q2:Int),Zav lpRf=Zav lpRf∧(Zae (Zan 31 (rowsN l))::Zae (i64 pe)::Zab::Zab::Zae (i64 0)::Zae (i64 0)::bds 15 [])=(Zae (Zan 31 (rowsN l0))::Zae (i64 pe1)::Zab::Zab::Zae (i64 0)::Zae (i64 0)::bds 15 [])∧([]:List Blk)= []∧(Zaa l0≤9223372036854775807∧q2=idxS (fun (x3:NearT)=>Zdi x3==pe1) l0)∧(∀(i:Int),q2=(-1:Int)→R (.d (i64 (-1))) b)∧∀(i:Int),(0:Int)≤q2→R (.d (i64 q2)) b):=by kernel_rfl
theorem BVe9 (t:TabT):wpFn prog ⟨[], [],wl,y,false⟩ 100 f34 [tabA t] b R=(BIf (decide (((Zaa (rowsU (Zbv t)):Nat):Int)≤(70:Int))) (BIf (decide (((Zaa (rowsG (Zbi t)):Nat):Int)≤(70:Int))) (R (.d (bo (decide (((Zaa (rowsA (Zby t)):Nat):Int)≤(70:Int))))) b) (R (.d (bo false)) b)) (R (.d (bo false)) b)):=by kernel_rfl
theorem CBi9 (l:List NearT) (pe:Int) (hl:l.length≤9223372036854775807):PCall prog 109 [.d (.sl 31 (rowsN l)), .d (i64 pe)] (.d (i64 (idxS (fun x:NearT=>x.fm==pe) l))):=by
 refine Zda (n:=100) (u:=false) (fun _=>wlRf) mixed Zaj Zah (fun Ev=>BYv9) func109 (by rfl) (by rfl) fun Ev bb=> ?_;rw [BSo9];exact ⟨l,pe,_,rfl,rfl,rfl,⟨hl,rfl⟩,fun i h=>by rw [h],fun i h=>rfl⟩
def CDm9 (args:List AV) (K:AV→Prop):Prop:=∃(l:List NearT) (pe:Int) (q:Int),args= [.d (.sl 31 (rowsN l)), .d (i64 pe)]∧(l.length≤9223372036854775807∧q=idxS (fun x:NearT=>x.fm==pe) l)∧K (.d (i64 q))
theorem BMx9:∀args K,CDm9 args K→∃x,PCall prog 109 args x∧K x:=by
 rintro _ K ⟨l,pe,_,rfl,⟨hl,rfl⟩,hk⟩;exact ⟨_,CBi9 l pe hl,hk⟩
def APe9 (t:TabT):Bool:=decide (t.us.length≤70)&&(decide (t.gs.length≤70)&&decide (t.ak.length≤70))
theorem BFb9 {t:TabT}:APe9 t=true↔t.us.length≤70∧t.gs.length≤70∧t.ak.length≤70:=by simp [APe9]
theorem CBp9 (t:TabT):PCall prog 34 [tabA t] (.d (bo (APe9 t))):=by
 refine Zbg (n:=100) (u:=false) mixed Zaj Zah func34 (by rfl) (by rfl) fun Ev bb=> ?_;rw [BVe9];simp only [AAj9,AAe9,AAo9];have e:∀n:Nat,decide (((n:Nat):Int)≤70)=decide (n≤70):=fun n=>by rw [decide_eq_decide];omega
 simp only [e];refine Zba (fun h1=> ?_) fun h1=> ?_
 ·refine Zba (fun h2=> ?_) fun h2=> ?_
  ·rw [APe9,h1,h2];rfl
  ·rw [APe9,h1,h2];rfl
 ·rw [APe9,h1];rfl
def CDt9 (args:List AV) (K:AV→Prop):Prop:=∃(t:TabT) (q:Bool),args= [tabA t]∧q=APe9 t∧K (.d (bo q))
theorem BNd9:∀args K,CDt9 args K→∃x,PCall prog 34 args x∧K x:=by
 rintro _ K ⟨t,_,rfl,rfl,hk⟩;exact ⟨_,CBp9 t,hk⟩
noncomputable def lpNb:Code:=sub [1,0,1,2,3] (code f69)
def tmNb (l:List NearT) (me fr i:Int):List AV:= [.bad, .d (i64 me), .d (.sl 31 (rowsN l)), .d (i64 fr), .ptr 0 0, .bad, .bad, .bad, .d (bo false), .d (i64 i)]++Zap 56 .bad
theorem BLe9 (n:NearT) (fr:Int):wpFn prog ⟨[], [],wl,y,false⟩ 100 f27 [nearA n, .d (i64 fr)] b R=(R (Zae (bo (decide (Zad Zbc (Zgb n+(1:Int))≥fr)))) b):=by kernel_rfl
abbrev Qz26 (v0:Int) (v1:List NearT) (v2:Int) (v3:Int):=Zab::Zae (i64 v0)::Zae (Zan 31 (rowsN v1))::Zae (i64 v2)::Zaf 0 0::bds 3 (Zae (bo false)::Zae (i64 v3)::bds 56 [])
theorem rNb (ly:LayT) (l:List NearT) (me fr i:Int):wpc prog ⟨[], [],wl,y,false⟩ 100 lpNb (tmNb l me fr i) [layB ly] b (maskK 1 [1,2,3,4,8,9] K)=(BIf (decide (i<((Zaa (rowsN l):Nat):Int))) (BIf (true&&decide (0≤i)) (∃(n0:NearT),(rowsN l)[Zam i]? =some (nearR n0)∧BIf (decide (Zdi n0<(0:Int))) (K .ret (Qz26 me l fr i) [Blk.mk (Qz3 ly) false false 0] b) (BIf (decide (Zdi n0≥Zfa ly)) (K .ret (Qz26 me l fr i) [Blk.mk (Qz3 ly) false false 0] b) (BIf (Zdi n0==me) (K .ret (Qz26 me l fr i) [Blk.mk (Qz3 ly) false false 0] b) (BIf (true&&decide (0≤i)) (∃(n3:NearT),(rowsN l)[Zam i]? =some (nearR n3)∧BIf (decide (Zgb n3<(0:Int))) (K .ret (Qz26 me l fr i) [Blk.mk (Qz3 ly) false false 0] b) (BIf (true&&decide (0≤i)) (∃(n6:NearT),(rowsN l)[Zam i]? =some (nearR n6)∧BIf (decide (Zgb n6>fr)) (K .ret (Qz26 me l fr i) [Blk.mk (Qz3 ly) false false 0] b) (BIf (decide (i>(0:Int))) (BIf (true&&decide ((0:Int)≤Zad .i64 (i - 1))) (∃(n9:NearT),(rowsN l)[Zam (Zad .i64 (i - 1))]? =some (nearR n9)∧BIf (decide (Zdi n9≥Zdi n0)) (K .ret (Qz26 me l fr i) [Blk.mk (Qz3 ly) false false 0] b) (K .normal (Zab::Zae (i64 me)::Zae (Zan 31 (rowsN l))::Zae (i64 fr)::Zaf 0 0::bds 3 (Zae (bo false)::Zae (i64 (Zad .i64 (i+1)))::bds 56 [])) [Blk.mk (Qz3 ly) false false 0] b)) False) (K .normal (Zab::Zae (i64 me)::Zae (Zan 31 (rowsN l))::Zae (i64 fr)::Zaf 0 0::bds 3 (Zae (bo false)::Zae (i64 (Zad .i64 (i+1)))::bds 56 [])) [Blk.mk (Qz3 ly) false false 0] b))) False)) False)))) False) (K (Zbn 0) (Qz26 me l fr i) [Blk.mk (Qz3 ly) false false 0] b)):=by kernel_rfl
def ARu9 (n:NearT) (fr:Int):Bool:=decide (Zad Zbc (n.fr+1)≥fr)
theorem BTb9 (n:NearT) (fr:Int):PCall prog 27 [nearA n, .d (i64 fr)] (.d (bo (ARu9 n fr))):=by
 refine Zbg (n:=100) (u:=false) mixed Zaj Zah func27 (by rfl) (by rfl) fun Ev bb=> ?_;rw [BLe9];rfl
def BPk9 (args:List AV) (K:AV→Prop):Prop:=∃(n:NearT) (fr:Int) (q:Bool),args= [nearA n, .d (i64 fr)]∧q=ARu9 n fr∧K (.d (bo q))
theorem BGi9:∀args K,BPk9 args K→∃x,PCall prog 27 args x∧K x:=by
 rintro _ K ⟨n,fr,_,rfl,rfl,hk⟩;exact ⟨_,BTb9 n fr,hk⟩
def AAg9 {α:Type}:Option α→List α→List (Option α×α)
 |_, []=> []
 |o,x::r=>(o,x)::AAg9 (some x) r
theorem ADw9 {α:Type} (l:List α):∀o,(AAg9 o l).length=l.length:=by
 induction l with
 |nil=>intro o;rfl
 |cons x r ih=>intro o;simp [AAg9,ih]
theorem AEp9 {α:Type} (l:List α):∀(o:Option α) (i:Nat) (p:Option α×α),(AAg9 o l)[i]? =some p→l[i]? =some p.2∧(i=0→p.1=o)∧∀j,i=j+1→∃w,p.1=some w∧l[j]? =some w:=by
 induction l with
 |nil=>intro o i p h;simp [AAg9] at h
 | cons x r ih=>
  intro o i p h;cases i with
  | zero=>
   simp only [AAg9,List.getElem?_cons_zero,Option.some.injEq] at h;subst h;exact ⟨rfl,fun _=>rfl,fun j hj=>by omega⟩
  | succ i=>
   simp only [AAg9,List.getElem?_cons_succ] at h;obtain ⟨h1,h2,h3⟩:=ih (some x) i p h;refine ⟨by simpa using h1,fun hh=>by omega,fun j hj=> ?_⟩;cases i with
   |zero=>exact ⟨x,h2 rfl,by rw [show j=0 by omega];rfl⟩
   | succ i=>
    obtain ⟨w,hw,hl⟩:=h3 i rfl;exact ⟨w,hw,by rw [show j=i+1 by omega];simpa using hl⟩
def AVy9 (o:Option NearT) (fm:Int):Bool:=match o with|some w=>decide (w.fm≥fm)|none=>false
def badN (ly:LayT) (me fr:Int) (p:Option NearT×NearT):Bool:=decide (p.2.fm<0)||(decide (p.2.fm≥ly.no)||(p.2.fm==me||(decide (p.2.fr<0)||(decide (p.2.fr>fr)||AVy9 p.1 p.2.fm))))
theorem wrNb {Ev:Env prog} {b:Ev.β} {Q:Exit→St Ev.β→Prop} (ly:LayT) (l:List NearT) (me fr:Int) (hl:l.length≤9223372036854775807) (h1:(AAg9 none l).any (badN ly me fr)=false→∀i:Int,Q (.exit 0) ⟨tmNb l me fr i, [layB ly],b⟩) (h2:(AAg9 none l).any (badN ly me fr)=true→∀i:Int,Q .ret ⟨tmNb l me fr i, [layB ly],b⟩):
 WR Ev lpNb (l.length+1) ⟨tmNb l me fr (0:Nat), [layB ly],b⟩ Q:=by
 have e:=ADw9 l none;rw [←e];refine WR.scanL (X:=⟨[], [],wlW Ev,Ev.Y,false⟩) (k:=100) [1,2,3,4,8,9] mixed (CX.Ok.of Zaj Zah) (AAg9 none l) (badN ly me fr) (fun i=>tmNb l me fr (i:Nat)) (fun i=>tmNb l me fr (i:Nat)) [layB ly] 0 (fun i x hi hx K k1 k2=> ?_) (fun K k1=> ?_) (fun h=>h1 h _) fun h i=>h2 h _
 ·obtain ⟨g1,g2,g3⟩:=AEp9 l none i x hx;obtain ⟨o,x⟩:=x;simp only at g1 g2 g3;refine Eq.mpr (rNb _ _ _ K ly l me fr i) ?_;rw [ABs9];refine Zaz (by simp;omega) (Zaz (natI i) ?_);refine ⟨_,ABt9 g1, ?_⟩;refine Zba (fun c1=>k1 (by simp [badN,c1])) fun c1=>Zba (fun c2=>k1 (by simp [badN,c2])) fun c2=>Zba (fun c3=>k1 (by rw [badN];simp only [show (x.fm==me)=true from c3,Zeq,Zfe])) fun c3=>Zaz (natI i) ⟨_,ABt9 g1,Zba (fun c4=>k1 (by simp [badN,c4])) fun c4=>Zaz (natI i) ⟨_,ABt9 g1,Zba (fun c5=>k1 (by simp [badN,c5])) fun c5=> ?_⟩⟩;have hb:badN ly me fr (o,x)=AVy9 o x.fm:=by rw [badN,c1,c2,show (x.fm==me)=false from c3,c4,c5];rfl
  cases i with
  | zero=>
   refine Zdf (by decide) ?_;rw [wrapN (by omega)];exact k2 (by rw [hb,g2 rfl];rfl)
  | succ j=>
   obtain ⟨w,hw,hj⟩:=g3 j rfl;refine Zaz (by simp) ?_;rw [show Zad Zbc (((j+1:Nat):Int) - 1)=((j:Nat):Int) by rw [AAt9 (by omega) (by omega)];omega];refine Zaz (natI j) ⟨_,ABt9 hj,Zba (fun c6=>k1 (by rw [hb,hw];exact c6)) fun c6=> ?_⟩;rw [wrapN (by omega)];exact k2 (by rw [hb,hw];exact c6)
 ·refine Eq.mpr (rNb _ _ _ K ly l me fr _) ?_;rw [ABs9];exact Zdf (by simp [e]) k1
def wlNb {β:Type}:WLT β:=fun cd tm hp b K=>∃(ly:LayT) (l:List NearT) (me fr:Int) (q:Bool),cd= .loop lpNb∧AAx9 [1,2,3,4,8,9] 0 tm=tmNb l me fr 0∧hp= [layB ly]∧(l.length≤9223372036854775807∧q=(AAg9 none l).any (badN ly me fr))∧BIf q (∀i:Int,K .ret (tmNb l me fr i) [layB ly] b) (∀i:Int,K (.exit 0) (tmNb l me fr i) [layB ly] b)
theorem BYy9 {Ev:Env prog} (c:Code) (tm:List AV) (hp:List Blk) (b:Ev.β) (K:Exit→List AV→List Blk→Ev.β→Prop) (h:wlNb c tm hp b K):W Ev c ⟨tm,hp,b⟩ (fun e s=>K e s.tm s.hp s.b):=by
 obtain ⟨ly,l,me,fr,q,rfl,htm,rfl,⟨hl,hz⟩,hK⟩:=h;refine W.cast (htm▸AAc9 _ tm 0) (Zbu _) ?_;exact W.rounds (wrNb (Q:=fun e s=>K e s.tm s.hp s.b) ly l me fr hl (fun h=>by rw [hz,h] at hK;exact hK) fun h=>by rw [hz,h] at hK;exact hK)
abbrev Qz80 (v0:Int) (v1:List NearT) (v2:Int):=Zab::Zae (i64 v0)::Zae (Zan 31 (rowsN v1))::Zae (i64 v2)::Zaf 0 0::bds 3 (Zae (bo false)::Zae (i64 0)::bds 56 [])
theorem nb_nf (ly:LayT) (l:List NearT) (me fr:Int):wpFn prog ⟨[], [],wlNb,y,false⟩ 100 f69 [layA ly, .d (i64 me), .d (.sl 31 (rowsN l)), .d (i64 fr)] b R=(∃(ly0:LayT) (l1:List NearT) (me2:Int) (fr3:Int) (q4:Bool),Zav lpNb=Zav lpNb∧(Qz80 me l fr)=(Qz80 me2 l1 fr3)∧ [Blk.mk (Qz3 ly) false false 0]= [Blk.mk (Qz3 ly0) false false 0]∧(Zaa l1≤9223372036854775807∧q4=Zdg (AAg9 none l1) (badN ly0 me2 fr3))∧BIf q4 (∀(i:Int),R (.d (bo false)) b) (∀(i:Int),R (.d (bo true)) b)):=by kernel_rfl
def nbS (ly:LayT) (l:List NearT) (me fr:Int):Bool:= !(AAg9 none l).any (badN ly me fr)
theorem pcNb (ly:LayT) (l:List NearT) (me fr:Int) (hl:l.length≤9223372036854775807):PCall prog 69 [layA ly, .d (i64 me), .d (.sl 31 (rowsN l)), .d (i64 fr)] (.d (bo (nbS ly l me fr))):=by
 refine Zda (n:=100) (u:=false) (fun _=>wlNb) mixed Zaj Zah (fun Ev=>BYy9) func69 (by rfl) (by rfl) fun Ev bb=> ?_;rw [nb_nf];exact ⟨ly,l,me,fr,_,rfl,rfl,rfl,⟨hl,rfl⟩,Zba (fun h i=>by rw [nbS,h];rfl) fun h i=>by rw [nbS,h];rfl⟩
def cNb (args:List AV) (K:AV→Prop):Prop:=∃(ly:LayT) (l:List NearT) (me fr:Int) (q:Bool),args= [layA ly, .d (i64 me), .d (.sl 31 (rowsN l)), .d (i64 fr)]∧(l.length≤9223372036854775807∧q=nbS ly l me fr)∧K (.d (bo q))
theorem CGu9:∀args K,cNb args K→∃x,PCall prog 69 args x∧K x:=by
 rintro _ K ⟨ly,l,me,fr,_,rfl,⟨hl,rfl⟩,hk⟩;exact ⟨_,pcNb ly l me fr hl,hk⟩
noncomputable def lpFw:Code:=sub [1,0,1,2,3] (code f33)
def tmFw (l:List NearT) (i:Int):List AV:= [.d (.sl 31 (rowsN l)), .bad, .d (bo false), .d (i64 i)]++Zap 35 .bad
abbrev Qz44 (v0:List NearT) (v1:Int):=Zae (Zan 31 (rowsN v0))::Zab::Zae (bo false)::Zae (i64 v1)::bds 35 []
theorem rFw (l:List NearT) (i:Int):wpc prog ⟨[], [],wl,y,false⟩ 100 lpFw (tmFw l i) [] b (maskK 0 [0,2,3] K)=(BIf (decide (i<((Zaa (rowsN l):Nat):Int))) (BIf (decide (i<(70:Int))) (BIf (true&&decide (0≤i)) (∃(n0:NearT),(rowsN l)[Zam i]? =some (nearR n0)∧BIf (decide (((Zaa (rowsU (Zbk n0)):Nat):Int)>(40:Int))) (K .ret (Qz44 l i) [] b) (BIf (decide (((Zaa (rowsG (Zbm n0)):Nat):Int)>(40:Int))) (K .ret (Qz44 l i) [] b) (BIf (decide (((Zaa (rowsA (Zbq n0)):Nat):Int)>(40:Int))) (K .ret (Qz44 l i) [] b) (K .normal (Zae (Zan 31 (rowsN l))::Zab::Zae (bo false)::Zae (i64 (Zad .i64 (i+1)))::bds 35 []) [] b)))) False) (K (Zbn 0) (Qz44 l i) [] b)) (K (Zbn 0) (Qz44 l i) [] b)):=by kernel_rfl
def manyN (x:NearT):Bool:=decide ((x.us.length:Int)>40)||(decide ((x.gs.length:Int)>40)||decide ((x.ak.length:Int)>40))
theorem wrFw {Ev:Env prog} {b:Ev.β} {Q:Exit→St Ev.β→Prop} (l:List NearT) (h1:(l.take 70).any manyN=false→∀i:Int,Q (.exit 0) ⟨tmFw l i, [],b⟩) (h2:(l.take 70).any manyN=true→∀i:Int,Q .ret ⟨tmFw l i, [],b⟩):
 WR Ev lpFw ((l.take 70).length+1) ⟨tmFw l (0:Nat), [],b⟩ Q:=by
 refine WR.scanL (X:=⟨[], [],wlW Ev,Ev.Y,false⟩) (k:=100) [0,2,3] mixed (CX.Ok.of Zaj Zah) (l.take 70) manyN (fun i=>tmFw l (i:Nat)) (fun i=>tmFw l (i:Nat)) [] 0 (fun i x hi hx K k1 k2=> ?_) (fun K k1=> ?_) (fun h=>h1 h _) fun h i=>h2 h _
 ·have hl:=Zca (i:=70) (l:=l);have hx':l[i]? =some x:=by rw [List.getElem?_take_of_lt (by omega)] at hx;exact hx
  refine Eq.mpr (rFw _ _ _ K l i) ?_;rw [ABs9];refine Zaz (by simp;omega) (Zaz (by simp;omega) (Zaz (natI i) ⟨_,ABt9 hx', ?_⟩));simp only [AAj9,AAe9,AAo9];refine Zba (fun c1=>k1 (by rw [manyN,c1];rfl)) fun c1=>Zba (fun c2=>k1 (by rw [manyN,c1,c2];rfl)) fun c2=>Zba (fun c3=>k1 (by rw [manyN,c1,c2,c3];rfl)) fun c3=> ?_;rw [wrapN (by omega)];exact k2 (by rw [manyN,c1,c2,c3];rfl)
 ·have hl:=Zca (i:=70) (l:=l);refine Eq.mpr (rFw _ _ _ K l _) ?_;rw [ABs9];exact Zba (fun c=>Zdf (by simp at c ⊢;omega) k1) fun c=>k1
def wlFw {β:Type}:WLT β:=fun cd tm hp b K=>∃(l:List NearT) (q:Bool),cd= .loop lpFw∧AAx9 [0,2,3] 0 tm=tmFw l 0∧hp= []∧q=(l.take 70).any manyN∧BIf q (∀i:Int,K .ret (tmFw l i) [] b) (∀i:Int,K (.exit 0) (tmFw l i) [] b)
theorem BZe9 {Ev:Env prog} (c:Code) (tm:List AV) (hp:List Blk) (b:Ev.β) (K:Exit→List AV→List Blk→Ev.β→Prop) (h:wlFw c tm hp b K):W Ev c ⟨tm,hp,b⟩ (fun e s=>K e s.tm s.hp s.b):=by
 obtain ⟨l,q,rfl,htm,rfl,hz,hK⟩:=h;refine W.cast (htm▸AAc9 _ tm 0) (Zbu _) ?_;exact W.rounds (wrFw (Q:=fun e s=>K e s.tm s.hp s.b) l (fun h=>by rw [hz,h] at hK;exact hK) fun h=>by rw [hz,h] at hK;exact hK)
theorem BVd9 (l:List NearT):wpFn prog ⟨[], [],wlFw,y,false⟩ 100 f33 [.d (.sl 31 (rowsN l))] b R=(∃(l0:List NearT) (q1:Bool),Zav lpFw=Zav lpFw∧(Zae (Zan 31 (rowsN l))::Zab::Zae (bo false)::Zae (i64 0)::bds 35 [])=(Zae (Zan 31 (rowsN l0))::Zab::Zae (bo false)::Zae (i64 0)::bds 35 [])∧([]:List Blk)= []∧q1=Zdg (Zbs 70 l0) manyN∧BIf q1 (∀(i:Int),R (.d (bo false)) b) (∀(i:Int),R (.d (bo (decide (((Zaa (rowsN l0):Nat):Int)≤(70:Int))))) b)):=by kernel_rfl
def AUg9 (l:List NearT):Bool:= !(l.take 70).any manyN&&decide ((l.length:Int)≤70)
theorem CBo9 (l:List NearT):PCall prog 33 [.d (.sl 31 (rowsN l))] (.d (bo (AUg9 l))):=by
 refine Zda (n:=100) (u:=false) (fun _=>wlFw) mixed Zaj Zah (fun Ev=>BZe9) func33 (by rfl) (by rfl) fun Ev bb=> ?_;rw [BVd9];refine ⟨l,_,rfl,rfl,rfl,rfl,Zba (fun h i=> ?_) fun h i=> ?_⟩
 ·rw [AUg9,h];rfl
 ·rw [AUg9,h,ABs9];rfl
def CDs9 (args:List AV) (K:AV→Prop):Prop:=∃(l:List NearT) (q:Bool),args= [.d (.sl 31 (rowsN l))]∧q=AUg9 l∧K (.d (bo q))
theorem BNc9:∀args K,CDs9 args K→∃x,PCall prog 33 args x∧K x:=by
 rintro _ K ⟨l,_,rfl,rfl,hk⟩;exact ⟨_,CBo9 l,hk⟩
def graB (g:GraT):Blk:=⟨[.d (i64 g.sl), .d (i64 g.of), .d (i64 g.pe), .d (i64 g.st), .d (i64 g.un)],false,false,0⟩
def TRw:List (Nat×(List AV→(AV→Prop)→Prop)):= [(109,CDm9),(27,BPk9),(25,cUses),(26,cAsks)]
theorem CHg9:AAb9 prog TRw:=Zai BMx9 (Zai BGi9 (Zai BWc9 (Zai BWt9 Zaj)))
def AYm9 (ly:LayT) (g:GraT) (me:Int) (x:NearT) (fr:Int):Bool:=ARu9 x fr&&(UsesS ly x g.sl g.of me||AsksS ly x g.sl g.of me)
def TSm:List (Nat×(List AV→(AV→Prop)→Prop)):= [(33,CDs9),(34,CDt9)]
theorem CHf9:AAb9 prog TSm:=Zai BNc9 (Zai BNd9 Zaj)
theorem BSg9 (t:TabT) (l:List NearT):wpFn prog ⟨TSm, [],wl,y,false⟩ 100 f11 [tabA t, .d (.sl 31 (rowsN l))] b R=(∃(l0:List NearT) (q1:Bool), [Zae (Zan 31 (rowsN l))]= [Zae (Zan 31 (rowsN l0))]∧q1=AUg9 l0∧BIf q1 (∃(t2:TabT) (q3:Bool), [Zar (Qz1 t)]= [Zar (Qz1 t2)]∧q3=APe9 t2∧R (.d (bo q3)) b) (R (.d (bo false)) b)):=by kernel_rfl
def AQk9 (t:TabT) (l:List NearT):Bool:=AUg9 l&&APe9 t
theorem CBh9 (t:TabT) (l:List NearT):PCall prog 11 [tabA t, .d (.sl 31 (rowsN l))] (.d (bo (AQk9 t l))):=by
 refine Zbg (n:=100) (u:=false) mixed CHf9 Zah func11 (by rfl) (by rfl) fun Ev bb=> ?_;rw [BSg9];refine ⟨l,_,rfl,rfl,Zba (fun h=>⟨t,_,rfl,rfl, ?_⟩) fun h=> ?_⟩
 ·rw [AQk9,h];rfl
 ·rw [AQk9,h];rfl
def CDk9 (args:List AV) (K:AV→Prop):Prop:=∃(t:TabT) (l:List NearT) (q:Bool),args= [tabA t, .d (.sl 31 (rowsN l))]∧q=AQk9 t l∧K (.d (bo q))
theorem BMv9:∀args K,CDk9 args K→∃x,PCall prog 11 args x∧K x:=by
 rintro _ K ⟨t,l,_,rfl,rfl,hk⟩;exact ⟨_,CBh9 t l,hk⟩
theorem BZp9 (t:TabT) (me fr:Int):wpFn prog ⟨[], [],wl,y,false⟩ 100 f32 [.d (i64 me),tabA t, .d (i64 fr)] b R=(R (Zfx 31 [[i64 fr,i64 me,i64 0,i64 0,i64 0,i64 0,i64 0,i64 0,i64 0,i64 0,i64 0,i64 0,Zan 4 (rowsU (Zbv t)),Zan 5 (rowsG (Zbi t)),Zan 3 (rowsA (Zby t)),Zdx (.slice none 0 0),bo false,Zdx (.slice none 0 0),Zdx (.slice none 0 0),Zdx (.slice none 0 0),i64 0,i64 0,u64 0,i64 0,i64 0,i64 0,i64 0,i64 0,Zdx (.slice none 0 0),Zdx (.slice none 0 0),bo false]]) b):=by kernel_rfl
theorem PCall.semRes {P:Program} {f:Nat} {args:List AV} {x y:AV} (h:SemV x.view y.view) (hp:PCall P f args x):PCall P f args y:=by
 refine ⟨hp.1,fun S w vs h1 h2 h3 h4=>CallsIn.mono (hp.2 S w vs h1 h2 h3 h4) ?_⟩;rintro e w' hq;obtain ⟨v,S',g1,g2,g3,g4,g5⟩:=hq;exact ⟨v,S',g1,g2,g3,g4,h _ _ _ _ _ g5⟩
def toldN (me:Int) (t:TabT) (fr:Int):NearT:=⟨fr,me,t.us,t.gs,t.ak,0,0,0,0,0,0,0,0,0,0, [],false, [], [], [],0,0,0,0,0,0,0,0, [], [],false⟩
def AQc9 (me:Int) (t:TabT) (fr:Int):List Dv:= [i64 fr,i64 me,i64 0,i64 0,i64 0,i64 0,i64 0,i64 0,i64 0,i64 0,i64 0,i64 0,Zan 4 (rowsU t.us),Zan 5 (rowsG t.gs),Zan 3 (rowsA t.ak),Zdx (Zcz none 0 0),bo false,Zdx (Zcz none 0 0),Zdx (Zcz none 0 0),Zdx (Zcz none 0 0),i64 0,i64 0,u64 0,i64 0,i64 0,i64 0,i64 0,i64 0,Zdx (Zcz none 0 0),Zdx (Zcz none 0 0),bo false]
theorem AQb9 (me:Int) (t:TabT) (fr:Int):AGx9 (AQc9 me t fr) (nearR (toldN me t fr)):=by
 unfold AQc9 nearR toldN;repeat' (first|exact .nil|refine .cons .rfl ?_|refine .cons .nil ?_)
theorem CFr9 (t:TabT) (me fr:Int):PCall prog 32 [.d (i64 me),tabA t, .d (i64 fr)] (.d (.sl 31 (rowsN [toldN me t fr]))):=by
 have h:PCall prog 32 [.d (i64 me),tabA t, .d (i64 fr)] (.full 31 [AQc9 me t fr]):=by
  refine Zbg (n:=100) (u:=false) mixed Zaj Zah func32 (by rfl) (by rfl) fun Ev bb=> ?_;rw [BZp9];rfl
 have g:SemV (Zfx 31 [AQc9 me t fr]).view (Zae (Zan 31 (rowsN [toldN me t fr]))).view:=SemV.rows (.cons (AQb9 me t fr) .nil);exact PCall.semRes g h
def cTold (args:List AV) (K:AV→Prop):Prop:=∃(t:TabT) (me fr:Int) (q:List NearT),args= [.d (i64 me),tabA t, .d (i64 fr)]∧q= [toldN me t fr]∧K (.d (.sl 31 (rowsN q)))
theorem BWe9:∀args K,cTold args K→∃x,PCall prog 32 args x∧K x:=by
 rintro _ K ⟨t,me,fr,_,rfl,rfl,hk⟩;exact ⟨_,CFr9 t me fr,hk⟩
def sortA (l:List AskT):Nat→List AskT
 |0=> []
 |n+1=>sortA l n++l.filter (fun x=>x.sl==((n:Nat):Int))
theorem BWy9 {α:Type} (p:α→Bool) (l:List α) (k:Nat) (x:α) (h:l[k]? =some x):(l.take (k+1)).any p=((l.take k).any p||p x):=by
 rw [Zfj,h,List.any_append];simp
noncomputable def lpTs:Code:=sub [1,0,1,2,3] (code f31)
def tmTs (l:List NearT) (me fr:Int) (z:Bool) (i:Int):List AV:= [.bad, .bad, .d (i64 me), .d (.sl 31 (rowsN l)), .d (i64 fr), .ptr 0 0, .ptr 1 0, .bad, .bad, .bad, .d (bo z), .d (i64 i)]++Zap 51 .bad
abbrev Qz41 (v0:LayT) (v1:GraT):= [Blk.mk (Qz3 v0) false false 0,Blk.mk (Qz5 v1) false false 0]
abbrev Qz77 (v0:Int) (v1:List NearT) (v2:Int) (v3:Int):=Zab::Zab::Zae (i64 v0)::Zae (Zan 31 (rowsN v1))::Zae (i64 v2)::Zaf 0 0::Zaf 1 0::bds 3 (Zae (bo true)::Zae (i64 v3)::bds 51 [])
theorem rTs (ly:LayT) (g:GraT) (l:List NearT) (me fr i:Int):wpc prog ⟨TRw, [],wl,y,false⟩ 100 lpTs (tmTs l me fr false i) [layB ly,graB g] b (maskK 2 [2,3,4,5,6,10,11] K)=(BIf (decide (i<((Zaa (rowsN l):Nat):Int))) (BIf (true&&decide (0≤i)) (∃(n0:NearT),(rowsN l)[Zam i]? =some (nearR n0)∧∃(n3:NearT) (fr4:Int) (q5:Bool), [nearA n0,Zae (i64 fr)]= [nearA n3,Zae (i64 fr4)]∧q5=ARu9 n3 fr4∧BIf (true&&decide (0≤i)) (∃(n6:NearT),(rowsN l)[Zam i]? =some (nearR n6)∧∃(l9:LayT) (n10:NearT) (sl11:Int) (of12:Int) (pe13:Int) (q14:Bool), [Zar (Qz3 ly),nearA n6,Zar (Qz57 g),Zae (i64 me)]= [Zar (Qz3 l9),nearA n10,Zar [Zae (i64 sl11),Zae (i64 of12)],Zae (i64 pe13)]∧(Zaa (Zbk n10)≤9223372036854775807∧q14=UsesS l9 n10 sl11 of12 pe13)∧BIf (true&&decide (0≤i)) (∃(n15:NearT),(rowsN l)[Zam i]? =some (nearR n15)∧∃(l18:LayT) (n19:NearT) (sl20:Int) (of21:Int) (pe22:Int) (q23:Bool), [Zar (Qz3 ly),nearA n15,Zar (Qz57 g),Zae (i64 me)]= [Zar (Qz3 l18),nearA n19,Zar [Zae (i64 sl20),Zae (i64 of21)],Zae (i64 pe22)]∧(Zaa (Zbq n19)≤9223372036854775807∧q23=AsksS l18 n19 sl20 of21 pe22)∧BIf (true&&decide (0≤i)) (∃(n24:NearT),(rowsN l)[Zam i]? =some (nearR n24)∧BIf (Zdi n24==GraT.pe g) (BIf q5 (BIf q14 (K .ret (Qz77 me l fr i) (Qz41 ly g) b) (BIf q23 (K .ret (Qz77 me l fr i) (Qz41 ly g) b) (K .normal (Zab::Zab::Zae (i64 me)::Zae (Zan 31 (rowsN l))::Zae (i64 fr)::Zaf 0 0::Zaf 1 0::bds 3 (Zae (bo false)::Zae (i64 (Zad .i64 (i+1)))::bds 51 [])) (Qz41 ly g) b))) (K .normal (Zab::Zab::Zae (i64 me)::Zae (Zan 31 (rowsN l))::Zae (i64 fr)::Zaf 0 0::Zaf 1 0::bds 3 (Zae (bo false)::Zae (i64 (Zad .i64 (i+1)))::bds 51 [])) (Qz41 ly g) b)) (K .normal (Zab::Zab::Zae (i64 me)::Zae (Zan 31 (rowsN l))::Zae (i64 fr)::Zaf 0 0::Zaf 1 0::bds 3 (Zae (bo false)::Zae (i64 (Zad .i64 (i+1)))::bds 51 [])) (Qz41 ly g) b)) False) False) False) False) (K (Zbn 0) (Zab::Zab::Zae (i64 me)::Zae (Zan 31 (rowsN l))::Zae (i64 fr)::Zaf 0 0::Zaf 1 0::bds 3 (Zae (bo false)::Zae (i64 i)::bds 51 [])) (Qz41 ly g) b)):=by kernel_rfl
def tellP (ly:LayT) (g:GraT) (me fr:Int) (x:NearT):Bool:=x.fm==g.pe&&AYm9 ly g me x fr
theorem wrTs {Ev:Env prog} {b:Ev.β} {Q:Exit→St Ev.β→Prop} (ly:LayT) (g:GraT) (l:List NearT) (me fr:Int) (hl:l.length≤9223372036854775807) (hN:∀x∈l,ADm9 x) (h1:l.any (tellP ly g me fr)=false→∀i:Int,Q (.exit 0) ⟨tmTs l me fr false i, [layB ly,graB g],b⟩) (h2:l.any (tellP ly g me fr)=true→∀i:Int,Q .ret ⟨tmTs l me fr true i, [layB ly,graB g],b⟩):
 WR Ev lpTs (l.length+1) ⟨tmTs l me fr false (0:Nat), [layB ly,graB g],b⟩ Q:=by
 refine WR.scanL (X:=⟨TRw, [],wlW Ev,Ev.Y,false⟩) (k:=100) [2,3,4,5,6,10,11] mixed (CX.Ok.of CHg9 Zah) l (tellP ly g me fr) (fun i=>tmTs l me fr false (i:Nat)) (fun i=>tmTs l me fr true (i:Nat)) [layB ly,graB g] 0 (fun i x hi hx K k1 k2=> ?_) (fun K k1=> ?_) (fun h=>h1 h _) fun h i=>h2 h _
 ·have ho:=hN x (Zbr hx);refine Eq.mpr (rTs _ _ _ K ly g l me fr i) ?_;rw [ABs9];refine Zaz (by simp;omega) (Zaz (natI i) ⟨_,ABt9 hx,x,fr,_,rfl,rfl,Zaz (natI i) ⟨_,ABt9 hx,ly,x,g.sl,g.of,me,_,rfl,⟨ho.1,rfl⟩,Zaz (natI i) ⟨_,ABt9 hx,ly,x,g.sl,g.of,me,_,rfl,⟨ho.2.2,rfl⟩,Zaz (natI i) ⟨_,ABt9 hx, ?_⟩⟩⟩⟩);refine Zba (fun c0=>Zba (fun c1=>Zba (fun c2=> ?_) fun c2=>Zba (fun c3=> ?_) fun c3=> ?_) fun c1=> ?_) fun c0=> ?_
  ·exact k1 (by rw [tellP,show (x.fm==g.pe)=true from c0,AYm9,c1,c2];rfl)
  ·exact k1 (by rw [tellP,show (x.fm==g.pe)=true from c0,AYm9,c1,c2,c3];rfl)
  ·rw [wrapN (by omega)];exact k2 (by rw [tellP,AYm9,c1,c2,c3];simp)
  ·rw [wrapN (by omega)];exact k2 (by rw [tellP,AYm9,c1];simp)
  ·rw [wrapN (by omega)];exact k2 (by rw [tellP,show (x.fm==g.pe)=false from c0];rfl)
 ·refine Eq.mpr (rTs _ _ _ K ly g l me fr _) ?_;rw [ABs9];exact Zdf (by simp) k1
def wlTs {β:Type}:WLT β:=fun cd tm hp b K=>∃(ly:LayT) (g:GraT) (l:List NearT) (me fr:Int) (q:Bool),cd= .loop lpTs∧AAx9 [2,3,4,5,6,10,11] 0 tm=tmTs l me fr false 0∧hp= [layB ly,graB g]∧(l.length≤9223372036854775807∧(∀x∈l,ADm9 x)∧q=l.any (tellP ly g me fr))∧BIf q (∀i:Int,K .ret (tmTs l me fr true i) [layB ly,graB g] b) (∀i:Int,K (.exit 0) (tmTs l me fr false i) [layB ly,graB g] b)
theorem BYo9 {Ev:Env prog} (c:Code) (tm:List AV) (hp:List Blk) (b:Ev.β) (K:Exit→List AV→List Blk→Ev.β→Prop) (h:wlTs c tm hp b K):W Ev c ⟨tm,hp,b⟩ (fun e s=>K e s.tm s.hp s.b):=by
 obtain ⟨ly,g,l,me,fr,q,rfl,htm,rfl,⟨hl,hN,hz⟩,hK⟩:=h;refine W.cast (htm▸AAc9 _ tm 0) (Zbu _) ?_;exact W.rounds (wrTs (Q:=fun e s=>K e s.tm s.hp s.b) ly g l me fr hl hN (fun h=>by rw [hz,h] at hK;exact hK) fun h=>by rw [hz,h] at hK;exact hK)
abbrev Qz70 (v0:Int) (v1:List NearT) (v2:Int):=Zab::Zab::Zae (i64 v0)::Zae (Zan 31 (rowsN v1))::Zae (i64 v2)::Zaf 0 0::Zaf 1 0::bds 3 (Zae (bo false)::Zae (i64 0)::bds 51 [])
theorem BKx9 (ly:LayT) (g:GraT) (l:List NearT) (me fr:Int):wpFn prog ⟨[], [],wlTs,y,false⟩ 100 f31 [layA ly,graA g, .d (i64 me), .d (.sl 31 (rowsN l)), .d (i64 fr)] b R=(∃(ly0:LayT) (g1:GraT) (l2:List NearT) (me3:Int) (fr4:Int) (q5:Bool),Zav lpTs=Zav lpTs∧(Qz70 me l fr)=(Qz70 me3 l2 fr4)∧(Qz41 ly g)=(Qz41 ly0 g1)∧(Zaa l2≤9223372036854775807∧(∀(x:NearT),x∈l2→Zaa (Zbk x)≤9223372036854775807∧Zaa (Zbm x)≤9223372036854775807∧Zaa (Zbq x)≤9223372036854775807)∧q5=Zdg l2 (tellP ly0 g1 me3 fr4))∧BIf q5 (∀(i:Int),R (.d (bo true)) b) (∀(i:Int),R (.d (bo false)) b)):=by kernel_rfl
theorem BSz9 (ly:LayT) (g:GraT) (l:List NearT) (me fr:Int) (hl:l.length≤9223372036854775807) (hN:∀x∈l,ADm9 x):PCall prog 31 [layA ly,graA g, .d (i64 me), .d (.sl 31 (rowsN l)), .d (i64 fr)] (.d (bo (l.any (tellP ly g me fr)))):=by
 refine Zda (n:=100) (u:=false) (fun _=>wlTs) mixed Zaj Zah (fun Ev=>BYo9) func31 (by rfl) (by rfl) fun Ev bb=> ?_;rw [BKx9];exact ⟨ly,g,l,me,fr,_,rfl,rfl,rfl,⟨hl,hN,rfl⟩,Zba (fun h i=>by rw [h]) fun h i=>by rw [h]⟩
def BPi9 (args:List AV) (K:AV→Prop):Prop:=∃(ly:LayT) (g:GraT) (l:List NearT) (me fr:Int) (q:Bool),args= [layA ly,graA g, .d (i64 me), .d (.sl 31 (rowsN l)), .d (i64 fr)]∧(l.length≤9223372036854775807∧(∀x∈l,ADm9 x)∧q=l.any (tellP ly g me fr))∧K (.d (bo q))
theorem BGg9:∀args K,BPi9 args K→∃x,PCall prog 31 args x∧K x:=by
 rintro _ K ⟨ly,g,l,me,fr,_,rfl,⟨hl,hN,rfl⟩,hk⟩;exact ⟨_,BSz9 ly g l me fr hl hN,hk⟩
noncomputable def lpNs:Code:=sub [1,1,1,0,1,2,3] (code f35)
def nilP:Dv:= .s (.pointer none)
def tmNs (l:List NearT) (me fr i:Int):List AV:= [.bad, .bad, .d (i64 me), .d (.sl 31 (rowsN l)), .d (i64 fr), .ptr 0 0, .bad, .bad, .bad, .bad, .d nilP, .d (bo false), .ptr 2 0]++Zap 26 .bad++ [.d (.sl 31 (rowsN l)), .d (i64 l.length), .d (i64 i)]++Zap 75 .bad
def layF (l:LayT) (z:Bool):Blk:=⟨[.d (i64 l.no), .d (i64 l.da)],z,false,0⟩
def sideB (l:LayT) (me fr:Int) (x:AV):Blk:=⟨[.d (i64 l.no), .d (i64 l.da), .d (i64 me),x, .d (i64 fr)],false,false,0⟩
def TNs:List (Nat×(List AV→(AV→Prop)→Prop)):= [(73,BMo9),(36,cIn),(74,AWv9),(77,AWw9),(40,AWx9)]
theorem CEo9:AAb9 prog TNs:=Zai APk9 (Zai BGm9 (Zai AUl9 (Zai AUm9 (Zai AUn9 Zaj))))
def junkB (cs:List AV):Blk:=⟨cs,false,false,0⟩
def growB (v:Nat) (cs:List AV):Blk:=⟨cs,false,true,v⟩
def UNs:List (Nat×(List AV→List Blk→(AV→List Blk→Prop)→Prop)):= [(1000055,fun _ _ _=>False)]
theorem CEh9:AAl9 prog UNs:=Zbw (fun _ _ _ h=>h.elim) Zah
abbrev Qz6 (v0:NearT) (v1:List UseT) (v2:List GraT) (v3:List AskT):List AV:= [Zae (i64 (Zgb v0)),Zae (i64 (Zdi v0)),Zae (i64 0),Zae (i64 0),Zae (i64 0),Zae (i64 0),Zae (i64 0),Zae (i64 0),Zae (i64 0),Zae (i64 0),Zae (i64 0),Zae (i64 0),Zae (Zan 4 (rowsU v1)),Zae (Zan 5 (rowsG v2)),Zae (Zan 3 (rowsA v3)),Zae (Zdx (.slice none 0 0)),Zae (bo false),Zae (Zdx (.slice none 0 0)),Zae (Zdx (.slice none 0 0)),Zae (Zdx (.slice none 0 0)),Zae (i64 0),Zae (i64 0),Zae (u64 0),Zae (i64 0),Zae (i64 0),Zae (i64 0),Zae (i64 0),Zae (i64 0),Zae (Zdx (.slice none 0 0)),Zae (Zdx (.slice none 0 0)),Zae (bo false)]
abbrev Qz27 (v0:LayT) (v1:TabT) (v2:Int) (v3:Int) (v4:NearT):= [Blk.mk (Qz3 v0) false false 0,Blk.mk (Qz1 v1) false false 0,Blk.mk [Zae (i64 (Zfa v0)),Zae (i64 (Zcv v0)),Zae (i64 v2),Zae (Zdx (.slice none 0 0)),Zae (i64 v3)] false false 0,nearB v4]
abbrev Qz30 (v0:NearT) (v1:List UseT) (v2:List GraT) (v3:List AskT):List AV:= [Zae (i64 (Zdi v0)),Zae (i64 0),Zae (i64 0),Zae (i64 0),Zae (i64 0),Zae (i64 0),Zae (i64 0),Zae (i64 0),Zae (i64 0),Zae (i64 0),Zae (i64 0),Zae (Zan 4 (rowsU v1)),Zae (Zan 5 (rowsG v2)),Zae (Zan 3 (rowsA v3)),Zae (Zdx (.slice none 0 0)),Zae (bo false),Zae (Zdx (.slice none 0 0)),Zae (Zdx (.slice none 0 0)),Zae (Zdx (.slice none 0 0)),Zae (i64 0),Zae (i64 0),Zae (u64 0),Zae (i64 0),Zae (i64 0),Zae (i64 0),Zae (i64 0),Zae (i64 0),Zae (Zdx (.slice none 0 0)),Zae (Zdx (.slice none 0 0)),Zae (bo false)]
abbrev Qz42 (v0:LayT) (v1:TabT) (v2:Int) (v3:Int):= [Blk.mk (Qz3 v0) false false 0,Blk.mk (Qz1 v1) false false 0,Blk.mk [Zae (i64 (Zfa v0)),Zae (i64 (Zcv v0)),Zae (i64 v2),Zae (Zdx (.slice none 0 0)),Zae (i64 v3)] false false 0]
theorem rNs0 (ly:LayT) (t:TabT) (l:List NearT) (me fr i:Int):wpc prog ⟨TNs,UNs,wl,y,false⟩ 100 lpNs (tmNs l me fr i) [layF ly false,tabB t,sideB ly me fr (.d (.s (.slice none 0 0)))] b (maskT [2,3,4,5,10,11,12,39,40,41] K)=(BIf (decide (i<((Zaa l:Nat):Int))) (BIf (true&&decide (0≤i)) (∃(n0:NearT),(rowsN l)[Zam i]? =some (nearR n0)∧∃(n3:Int) (h4:Int) (z5:Bool), [Zae (i64 (Zdi n0)),Zae (i64 (Zad .i64 (Zfa ly - (1:Int))))]= [Zae (i64 n3),Zae (i64 h4)]∧z5=inN n3 h4∧BIf (!z5) (K .ret (Zab::Zab::Zae (i64 me)::Zae (Zan 31 (rowsN l))::Zae (i64 fr)::Zaf 0 0::bds 4 (Zae (Zdx (Zci none))::Zae (bo false)::Zaf 2 0::bds 26 (Zae (Zan 31 (rowsN l))::Zae (i64 ((Zaa l:Nat):Int))::Zae (i64 i)::bds 75 []))) (Qz27 ly t me fr n0) b) (BIf (Zdi n0==me) (K .ret (Zab::Zab::Zae (i64 me)::Zae (Zan 31 (rowsN l))::Zae (i64 fr)::Zaf 0 0::bds 4 (Zae (Zdx (Zci none))::Zae (bo false)::Zaf 2 0::bds 26 (Zae (Zan 31 (rowsN l))::Zae (i64 ((Zaa l:Nat):Int))::Zae (i64 i)::bds 75 []))) (Qz27 ly t me fr n0) b) (BIf (decide (i>(0:Int))) (BIf (true&&decide ((0:Int)≤Zad .i64 (i - 1))) (∃(n6:NearT),(rowsN l)[Zam (Zad .i64 (i - 1))]? =some (nearR n6)∧BIf (decide (Zdi n0≤Zdi n6)) (K .ret (Zab::Zab::Zae (i64 me)::Zae (Zan 31 (rowsN l))::Zae (i64 fr)::Zaf 0 0::bds 4 (Zae (Zdx (Zci none))::Zae (bo false)::Zaf 2 0::bds 26 (Zae (Zan 31 (rowsN l))::Zae (i64 ((Zaa l:Nat):Int))::Zae (i64 i)::bds 75 []))) (Qz27 ly t me fr n0) b) (∃(n9:Int) (h10:Int) (z11:Bool), [Zae (i64 (Zgb n0)),Zae (i64 fr)]= [Zae (i64 n9),Zae (i64 h10)]∧z11=inN n9 h10∧BIf (!z11) (K .ret (Zab::Zab::Zae (i64 me)::Zae (Zan 31 (rowsN l))::Zae (i64 fr)::Zaf 0 0::bds 4 (Zae (Zdx (Zci none))::Zae (bo false)::Zaf 2 0::bds 26 (Zae (Zan 31 (rowsN l))::Zae (i64 ((Zaa l:Nat):Int))::Zae (i64 i)::bds 75 []))) (Qz27 ly t me fr n0) b) (∃(l12:List UseT) (ly13:LayT) (q14:List UseT), [Zae (Zan 4 (rowsU (Zbk n0))),Zaw (Fn.func 75) [] (Qz14 ly)]= [Zae (Zan 4 (rowsU l12)),Zaw (Fn.func 75) [] (Qz14 ly13)]∧(Zaa l12<1000000∧q14=Zcn (fun (x15:UseT)=>useIs x15 ly13) l12)∧∃(l16:List GraT) (ly17:LayT) (q18:List GraT), [Zae (Zan 5 (rowsG (Zbm n0))),Zaw (Fn.func 78) [] (Qz14 ly)]= [Zae (Zan 5 (rowsG l16)),Zaw (Fn.func 78) [] (Qz14 ly17)]∧(Zaa l16<1000000∧q18=Zcn (fun (x19:GraT)=>graIs x19 ly17) l16)∧∃(l20:List AskT) (ly21:LayT) (q22:List AskT), [Zae (Zan 3 (rowsA (Zbq n0))),Zaw (Fn.func 80) [] (Qz14 ly)]= [Zae (Zan 3 (rowsA l20)),Zaw (Fn.func 80) [] (Qz14 ly21)]∧(Zaa l20<1000000∧q22=Zcn (fun (x23:AskT)=>ABv9 (Zcs x23) (Zfz x23) (Zfm x23) ly21) l20)∧1*392≤140737488355328∧K .normal (Zab::Zab::Zae (i64 me)::Zae (Zan 31 (rowsN l))::Zae (i64 fr)::Zaf 0 0::bds 4 (Zae (Zdx (Zci none))::Zae (bo false)::Zaf 2 0::bds 26 (Zae (Zan 31 (rowsN l))::Zae (i64 ((Zaa l:Nat):Int))::Zae (i64 (Zad .i64 (i+1)))::bds 75 []))) [Blk.mk (Qz3 ly) true false 0,Blk.mk (Qz1 t) false false 0,Blk.mk [Zae (i64 (Zfa ly)),Zae (i64 (Zcv ly)),Zae (i64 me),Zbl 5 0 1 31,Zae (i64 fr)] false false 0,nearB n0,Blk.mk (Qz30 n0 q14 q18 q22) false false 0,Blk.mk (Qz6 n0 q14 q18 q22) false true 0] b))) False) (∃(n24:Int) (h25:Int) (z26:Bool), [Zae (i64 (Zgb n0)),Zae (i64 fr)]= [Zae (i64 n24),Zae (i64 h25)]∧z26=inN n24 h25∧BIf (!z26) (K .ret (Zab::Zab::Zae (i64 me)::Zae (Zan 31 (rowsN l))::Zae (i64 fr)::Zaf 0 0::bds 4 (Zae (Zdx (Zci none))::Zae (bo false)::Zaf 2 0::bds 26 (Zae (Zan 31 (rowsN l))::Zae (i64 ((Zaa l:Nat):Int))::Zae (i64 i)::bds 75 []))) (Qz27 ly t me fr n0) b) (∃(l27:List UseT) (ly28:LayT) (q29:List UseT), [Zae (Zan 4 (rowsU (Zbk n0))),Zaw (Fn.func 75) [] (Qz14 ly)]= [Zae (Zan 4 (rowsU l27)),Zaw (Fn.func 75) [] (Qz14 ly28)]∧(Zaa l27<1000000∧q29=Zcn (fun (x30:UseT)=>useIs x30 ly28) l27)∧∃(l31:List GraT) (ly32:LayT) (q33:List GraT), [Zae (Zan 5 (rowsG (Zbm n0))),Zaw (Fn.func 78) [] (Qz14 ly)]= [Zae (Zan 5 (rowsG l31)),Zaw (Fn.func 78) [] (Qz14 ly32)]∧(Zaa l31<1000000∧q33=Zcn (fun (x34:GraT)=>graIs x34 ly32) l31)∧∃(l35:List AskT) (ly36:LayT) (q37:List AskT), [Zae (Zan 3 (rowsA (Zbq n0))),Zaw (Fn.func 80) [] (Qz14 ly)]= [Zae (Zan 3 (rowsA l35)),Zaw (Fn.func 80) [] (Qz14 ly36)]∧(Zaa l35<1000000∧q37=Zcn (fun (x38:AskT)=>ABv9 (Zcs x38) (Zfz x38) (Zfm x38) ly36) l35)∧1*392≤140737488355328∧K .normal (Zab::Zab::Zae (i64 me)::Zae (Zan 31 (rowsN l))::Zae (i64 fr)::Zaf 0 0::bds 4 (Zae (Zdx (Zci none))::Zae (bo false)::Zaf 2 0::bds 26 (Zae (Zan 31 (rowsN l))::Zae (i64 ((Zaa l:Nat):Int))::Zae (i64 (Zad .i64 (i+1)))::bds 75 []))) [Blk.mk (Qz3 ly) true false 0,Blk.mk (Qz1 t) false false 0,Blk.mk [Zae (i64 (Zfa ly)),Zae (i64 (Zcv ly)),Zae (i64 me),Zbl 5 0 1 31,Zae (i64 fr)] false false 0,nearB n0,Blk.mk (Qz30 n0 q29 q33 q37) false false 0,Blk.mk (Qz6 n0 q29 q33 q37) false true 0] b))))) False) (K (Zbn 0) (Zab::Zab::Zae (i64 me)::Zae (Zan 31 (rowsN l))::Zae (i64 fr)::Zaf 0 0::bds 4 (Zae (Zdx (Zci none))::Zae (bo false)::Zaf 2 0::bds 26 (Zae (Zan 31 (rowsN l))::Zae (i64 ((Zaa l:Nat):Int))::Zae (i64 i)::bds 75 []))) (Qz42 ly t me fr) b)):=by kernel_rfl
abbrev Qz25 (v0:LayT) (v1:Int) (v2:Nat) (v3:Nat) (v4:Int):List AV:= [Zae (i64 (Zfa v0)),Zae (i64 (Zcv v0)),Zae (i64 v1),Zbl 5 v2 v3 31,Zae (i64 v4)]
abbrev Qz48 (v0:LayT) (v1:Int) (v2:Nat) (v3:Nat) (v4:Int):List AV:= [Zae (i64 (Zfa v0)),Zae (i64 (Zcv v0)),Zae (i64 v1),Zbl 5 (v2+1) (v3+1) 31,Zae (i64 v4)]
theorem rNs (ly:LayT) (t:TabT) (l:List NearT) (me fr i:Int) (v n:Nat) (c3 c4 cs:List AV):wpc prog ⟨TNs,UNs,wl,y,false⟩ 100 lpNs (tmNs l me fr i) [layF ly true,tabB t,sideB ly me fr (.gref 5 v n 31),junkB c3,junkB c4,growB v cs] b (maskK 6 [2,3,4,5,10,11,12,39,40,41] K)=(BIf (decide (i<((Zaa l:Nat):Int))) (BIf (true&&decide (0≤i)) (∃(n0:NearT),(rowsN l)[Zam i]? =some (nearR n0)∧∃(n3:Int) (h4:Int) (z5:Bool), [Zae (i64 (Zdi n0)),Zae (i64 (Zad .i64 (Zfa ly - (1:Int))))]= [Zae (i64 n3),Zae (i64 h4)]∧z5=inN n3 h4∧BIf (!z5) (BIf (Zbo [Blk.mk (Qz3 ly) true false 0,Blk.mk (Qz1 t) false false 0,Blk.mk (Qz25 ly me v n fr) false false 0,Blk.mk c3 false false 0,Blk.mk c4 false false 0,Blk.mk cs false true v] fun (blk6:Blk)=>lows 6 blk6.1) (K .ret (Zab::Zab::Zae (i64 me)::Zae (Zan 31 (rowsN l))::Zae (i64 fr)::Zaf 0 0::bds 4 (Zae (Zdx (Zci none))::Zae (bo false)::Zaf 2 0::bds 26 (Zae (Zan 31 (rowsN l))::Zae (i64 ((Zaa l:Nat):Int))::Zae (i64 i)::bds 75 []))) [Blk.mk (Qz3 ly) true false 0,Blk.mk (Qz1 t) false false 0,Blk.mk (Qz25 ly me v n fr) false false 0,Blk.mk c3 false false 0,Blk.mk c4 false false 0,Blk.mk cs false true v] b) False) (BIf (Zdi n0==me) (BIf (Zbo [Blk.mk (Qz3 ly) true false 0,Blk.mk (Qz1 t) false false 0,Blk.mk (Qz25 ly me v n fr) false false 0,Blk.mk c3 false false 0,Blk.mk c4 false false 0,Blk.mk cs false true v] fun (blk7:Blk)=>lows 6 blk7.1) (K .ret (Zab::Zab::Zae (i64 me)::Zae (Zan 31 (rowsN l))::Zae (i64 fr)::Zaf 0 0::bds 4 (Zae (Zdx (Zci none))::Zae (bo false)::Zaf 2 0::bds 26 (Zae (Zan 31 (rowsN l))::Zae (i64 ((Zaa l:Nat):Int))::Zae (i64 i)::bds 75 []))) [Blk.mk (Qz3 ly) true false 0,Blk.mk (Qz1 t) false false 0,Blk.mk (Qz25 ly me v n fr) false false 0,Blk.mk c3 false false 0,Blk.mk c4 false false 0,Blk.mk cs false true v] b) False) (BIf (decide (i>(0:Int))) (BIf (true&&decide ((0:Int)≤Zad .i64 (i - 1))) (∃(n8:NearT),(rowsN l)[Zam (Zad .i64 (i - 1))]? =some (nearR n8)∧BIf (decide (Zdi n0≤Zdi n8)) (BIf (Zbo [Blk.mk (Qz3 ly) true false 0,Blk.mk (Qz1 t) false false 0,Blk.mk (Qz25 ly me v n fr) false false 0,Blk.mk c3 false false 0,Blk.mk c4 false false 0,Blk.mk cs false true v] fun (blk11:Blk)=>lows 6 blk11.1) (K .ret (Zab::Zab::Zae (i64 me)::Zae (Zan 31 (rowsN l))::Zae (i64 fr)::Zaf 0 0::bds 4 (Zae (Zdx (Zci none))::Zae (bo false)::Zaf 2 0::bds 26 (Zae (Zan 31 (rowsN l))::Zae (i64 ((Zaa l:Nat):Int))::Zae (i64 i)::bds 75 []))) [Blk.mk (Qz3 ly) true false 0,Blk.mk (Qz1 t) false false 0,Blk.mk (Qz25 ly me v n fr) false false 0,Blk.mk c3 false false 0,Blk.mk c4 false false 0,Blk.mk cs false true v] b) False) (∃(n12:Int) (h13:Int) (z14:Bool), [Zae (i64 (Zgb n0)),Zae (i64 fr)]= [Zae (i64 n12),Zae (i64 h13)]∧z14=inN n12 h13∧BIf (!z14) (BIf (Zbo [Blk.mk (Qz3 ly) true false 0,Blk.mk (Qz1 t) false false 0,Blk.mk (Qz25 ly me v n fr) false false 0,Blk.mk c3 false false 0,Blk.mk c4 false false 0,Blk.mk cs false true v] fun (blk15:Blk)=>lows 6 blk15.1) (K .ret (Zab::Zab::Zae (i64 me)::Zae (Zan 31 (rowsN l))::Zae (i64 fr)::Zaf 0 0::bds 4 (Zae (Zdx (Zci none))::Zae (bo false)::Zaf 2 0::bds 26 (Zae (Zan 31 (rowsN l))::Zae (i64 ((Zaa l:Nat):Int))::Zae (i64 i)::bds 75 []))) [Blk.mk (Qz3 ly) true false 0,Blk.mk (Qz1 t) false false 0,Blk.mk (Qz25 ly me v n fr) false false 0,Blk.mk c3 false false 0,Blk.mk c4 false false 0,Blk.mk cs false true v] b) False) (∃(l16:List UseT) (ly17:LayT) (q18:List UseT), [Zae (Zan 4 (rowsU (Zbk n0))),Zaw (Fn.func 75) [] (Qz14 ly)]= [Zae (Zan 4 (rowsU l16)),Zaw (Fn.func 75) [] (Qz14 ly17)]∧(Zaa l16<1000000∧q18=Zcn (fun (x19:UseT)=>useIs x19 ly17) l16)∧∃(l20:List GraT) (ly21:LayT) (q22:List GraT), [Zae (Zan 5 (rowsG (Zbm n0))),Zaw (Fn.func 78) [] (Qz14 ly)]= [Zae (Zan 5 (rowsG l20)),Zaw (Fn.func 78) [] (Qz14 ly21)]∧(Zaa l20<1000000∧q22=Zcn (fun (x23:GraT)=>graIs x23 ly21) l20)∧∃(l24:List AskT) (ly25:LayT) (q26:List AskT), [Zae (Zan 3 (rowsA (Zbq n0))),Zaw (Fn.func 80) [] (Qz14 ly)]= [Zae (Zan 3 (rowsA l24)),Zaw (Fn.func 80) [] (Qz14 ly25)]∧(Zaa l24<1000000∧q26=Zcn (fun (x27:AskT)=>ABv9 (Zcs x27) (Zfz x27) (Zfm x27) ly25) l24)∧v=v∧(n+1)*392≤140737488355328∧BIf (Zbo [Blk.mk (Qz3 ly) true false 0,Blk.mk (Qz1 t) false false 0,Blk.mk (Qz48 ly me v n fr) false false 0,Blk.mk c3 false false 0,Blk.mk c4 false false 0,Blk.mk (cs++(Qz6 n0 q18 q22 q26)) false true (v+1)] fun (blk28:Blk)=>lows 6 blk28.1) (K .normal (Zab::Zab::Zae (i64 me)::Zae (Zan 31 (rowsN l))::Zae (i64 fr)::Zaf 0 0::bds 4 (Zae (Zdx (Zci none))::Zae (bo false)::Zaf 2 0::bds 26 (Zae (Zan 31 (rowsN l))::Zae (i64 ((Zaa l:Nat):Int))::Zae (i64 (Zad .i64 (i+1)))::bds 75 []))) [Blk.mk (Qz3 ly) true false 0,Blk.mk (Qz1 t) false false 0,Blk.mk (Qz48 ly me v n fr) false false 0,Blk.mk c3 false false 0,Blk.mk c4 false false 0,Blk.mk (cs++(Qz6 n0 q18 q22 q26)) false true (v+1)] b) False))) False) (∃(n29:Int) (h30:Int) (z31:Bool), [Zae (i64 (Zgb n0)),Zae (i64 fr)]= [Zae (i64 n29),Zae (i64 h30)]∧z31=inN n29 h30∧BIf (!z31) (BIf (Zbo [Blk.mk (Qz3 ly) true false 0,Blk.mk (Qz1 t) false false 0,Blk.mk (Qz25 ly me v n fr) false false 0,Blk.mk c3 false false 0,Blk.mk c4 false false 0,Blk.mk cs false true v] fun (blk32:Blk)=>lows 6 blk32.1) (K .ret (Zab::Zab::Zae (i64 me)::Zae (Zan 31 (rowsN l))::Zae (i64 fr)::Zaf 0 0::bds 4 (Zae (Zdx (Zci none))::Zae (bo false)::Zaf 2 0::bds 26 (Zae (Zan 31 (rowsN l))::Zae (i64 ((Zaa l:Nat):Int))::Zae (i64 i)::bds 75 []))) [Blk.mk (Qz3 ly) true false 0,Blk.mk (Qz1 t) false false 0,Blk.mk (Qz25 ly me v n fr) false false 0,Blk.mk c3 false false 0,Blk.mk c4 false false 0,Blk.mk cs false true v] b) False) (∃(l33:List UseT) (ly34:LayT) (q35:List UseT), [Zae (Zan 4 (rowsU (Zbk n0))),Zaw (Fn.func 75) [] (Qz14 ly)]= [Zae (Zan 4 (rowsU l33)),Zaw (Fn.func 75) [] (Qz14 ly34)]∧(Zaa l33<1000000∧q35=Zcn (fun (x36:UseT)=>useIs x36 ly34) l33)∧∃(l37:List GraT) (ly38:LayT) (q39:List GraT), [Zae (Zan 5 (rowsG (Zbm n0))),Zaw (Fn.func 78) [] (Qz14 ly)]= [Zae (Zan 5 (rowsG l37)),Zaw (Fn.func 78) [] (Qz14 ly38)]∧(Zaa l37<1000000∧q39=Zcn (fun (x40:GraT)=>graIs x40 ly38) l37)∧∃(l41:List AskT) (ly42:LayT) (q43:List AskT), [Zae (Zan 3 (rowsA (Zbq n0))),Zaw (Fn.func 80) [] (Qz14 ly)]= [Zae (Zan 3 (rowsA l41)),Zaw (Fn.func 80) [] (Qz14 ly42)]∧(Zaa l41<1000000∧q43=Zcn (fun (x44:AskT)=>ABv9 (Zcs x44) (Zfz x44) (Zfm x44) ly42) l41)∧v=v∧(n+1)*392≤140737488355328∧BIf (Zbo [Blk.mk (Qz3 ly) true false 0,Blk.mk (Qz1 t) false false 0,Blk.mk (Qz48 ly me v n fr) false false 0,Blk.mk c3 false false 0,Blk.mk c4 false false 0,Blk.mk (cs++(Qz6 n0 q35 q39 q43)) false true (v+1)] fun (blk45:Blk)=>lows 6 blk45.1) (K .normal (Zab::Zab::Zae (i64 me)::Zae (Zan 31 (rowsN l))::Zae (i64 fr)::Zaf 0 0::bds 4 (Zae (Zdx (Zci none))::Zae (bo false)::Zaf 2 0::bds 26 (Zae (Zan 31 (rowsN l))::Zae (i64 ((Zaa l:Nat):Int))::Zae (i64 (Zad .i64 (i+1)))::bds 75 []))) [Blk.mk (Qz3 ly) true false 0,Blk.mk (Qz1 t) false false 0,Blk.mk (Qz48 ly me v n fr) false false 0,Blk.mk c3 false false 0,Blk.mk c4 false false 0,Blk.mk (cs++(Qz6 n0 q35 q39 q43)) false true (v+1)] b) False))))) False) (BIf (Zbo [Blk.mk (Qz3 ly) true false 0,Blk.mk (Qz1 t) false false 0,Blk.mk (Qz25 ly me v n fr) false false 0,Blk.mk c3 false false 0,Blk.mk c4 false false 0,Blk.mk cs false true v] fun (blk46:Blk)=>lows 6 blk46.1) (K (Zbn 0) (Zab::Zab::Zae (i64 me)::Zae (Zan 31 (rowsN l))::Zae (i64 fr)::Zaf 0 0::bds 4 (Zae (Zdx (Zci none))::Zae (bo false)::Zaf 2 0::bds 26 (Zae (Zan 31 (rowsN l))::Zae (i64 ((Zaa l:Nat):Int))::Zae (i64 i)::bds 75 []))) [Blk.mk (Qz3 ly) true false 0,Blk.mk (Qz1 t) false false 0,Blk.mk (Qz25 ly me v n fr) false false 0,Blk.mk c3 false false 0,Blk.mk c4 false false 0,Blk.mk cs false true v] b) False)):=by kernel_rfl
def fTab (ly:LayT) (n:NearT):TabT:=⟨n.us.filter (fun x:UseT=>useIs x ly),n.gs.filter (fun x:GraT=>graIs x ly),n.ak.filter (fun x:AskT=>ABv9 x.sl x.of x.pe ly)⟩
def filN (ly:LayT) (n:NearT):NearT:=toldN n.fm (fTab ly n) n.fr
def ALx9 (ly:LayT) (n:NearT):List Dv:=AQc9 n.fm (fTab ly n) n.fr
def AFb9 (x:NearT):Prop:=x.us.length<1000000∧x.gs.length<1000000∧x.ak.length<1000000
theorem WR.scanG {α:Type} {P:Program} {Ev:Env P} {X:CX Ev.β} {lp:Code} {b:Ev.β} {Q:Exit→St Ev.β→Prop} {k L:Nat} (keep:List Nat) (hm:P.follows .mixedOrders=true) (hX:X.Ok) (xs:List α) (p:α→Bool) (tmOf:Nat→List AV) (hpOf:Nat→List Blk) (hL:∀i,(hpOf i).length=L) (id:Nat) (s:Nat)
 (hr:∀(i:Nat) (x:α),s≤i→i<xs.length→xs[i]? =some x→∀K:Exit→List AV→List Blk→Ev.β→Prop,(p x=true→K .ret (tmOf i) (hpOf i) b)→(p x=false→K .normal (tmOf (i+1)) (hpOf (i+1)) b)→wpc P X k lp (tmOf i) (hpOf i) b (maskK L keep K))
 (he:∀K:Exit→List AV→List Blk→Ev.β→Prop,K (.exit id) (tmOf xs.length) (hpOf xs.length) b→wpc P X k lp (tmOf xs.length) (hpOf xs.length) b (maskK L keep K))
 (h1:(xs.drop s).any p=false→Q (.exit id) ⟨tmOf xs.length,hpOf xs.length,b⟩) (h2:(xs.drop s).any p=true→∀i,Q .ret ⟨tmOf i,hpOf i,b⟩):
 ∀(m i:Nat),i+m=xs.length→s≤i→((xs.drop s).any p=(xs.drop i).any p)→WR Ev lp (m+1) ⟨tmOf i,hpOf i,b⟩ Q
 | 0,i,hi,hs,hj=>by
  have e:i=xs.length:=by omega
  subst e;refine Zdo keep hm hX (k:=k) (by rw [hL];exact he _ (h1 (by rw [hj,List.drop_length];rfl)))
 | m+1,i,hi,hs,hj=>by
  have hlt:i<xs.length:=by omega
  have hx:xs[i]? =some xs[i]:=Zbb hlt;have hd:xs.drop i=xs[i]::xs.drop (i+1):=List.drop_eq_getElem_cons hlt;refine Zdo keep hm hX (k:=k) (by
   rw [hL];refine hr i xs[i] hs hlt hx _ (fun hp=>h2 (by rw [hj,hd,List.any_cons,hp];rfl) i) fun hp=> ?_;exact WR.scanG keep hm hX xs p tmOf hpOf hL id s hr he h1 h2 m (i+1) (by omega) (by omega) (by rw [hj,hd,List.any_cons,hp];rfl))
theorem BEx9 (xs:List (List Dv)) (r:List Dv):flatA (xs++ [r])=flatA xs++r.map .d:=by simp [flatA]
def nsB (ly:LayT) (t:TabT) (l:List NearT) (me fr:Int) (c3 c4:List AV) (i:Nat):List Blk:= [layF ly true,tabB t,sideB ly me fr (.gref 5 (i - 1) i 31),junkB c3,junkB c4,growB (i - 1) (flatA ((l.take i).map (ALx9 ly)))]
theorem CGi9 {ly:LayT} {t:TabT} {l:List NearT} {me fr:Int} {c3 c4:List AV} (h3:lows 6 c3=true) (h4:lows 6 c4=true) (i:Nat):Zbo (nsB ly t l me fr c3 c4 i) (fun blk=>lows 6 blk.1)=true:=by
 simp only [nsB,List.all_cons,List.all_nil,Bool.and_true,Zak];exact ⟨rfl,rfl,rfl,h3,h4,ACu9 6 _⟩
theorem BOv9 {ly:LayT} (h:1≤ly.no∧ly.no≤1000000) (n:Int):inN n (Zad Zbc (ly.no - 1))= !(decide (n<0)||decide (n≥ly.no)):=by
 rw [AAt9 (by omega) (by omega),inN];by_cases h1:n<0
 ·simp [h1];omega
 ·by_cases h2:n≥ly.no
  ·simp [h1,h2];omega
  ·simp [h1,h2];omega
theorem CCk9 (n fr:Int):inN n fr= !(decide (n<0)||decide (n>fr)):=by
 rw [inN];by_cases h1:n<0
 ·simp [h1];omega
 ·by_cases h2:n>fr
  ·simp [h1,h2]
  ·simp [h1,h2];omega
theorem wrNs1 {Ev:Env prog} {b:Ev.β} {Q:Exit→St Ev.β→Prop} (ly:LayT) (t:TabT) (l:List NearT) (me fr:Int) (c3 c4:List AV) (hc3:lows 6 c3=true) (hc4:lows 6 c4=true) (hno:1≤ly.no∧ly.no≤1000000) (hl:l.length<1000000) (hx:∀x∈l,AFb9 x)
 (h1:((AAg9 none l).drop 1).any (badN ly me fr)=false→Q (.exit 0) ⟨tmNs l me fr l.length,nsB ly t l me fr c3 c4 l.length,b⟩) (h2:((AAg9 none l).drop 1).any (badN ly me fr)=true→∀(i:Nat),Q .ret ⟨tmNs l me fr i,nsB ly t l me fr c3 c4 i,b⟩) (m:Nat) (hm:1+m=l.length):
 WR Ev lpNs (m+1) ⟨tmNs l me fr (1:Nat),nsB ly t l me fr c3 c4 1,b⟩ Q:=by
 have e:=ADw9 l none;have low:=fun i=>CGi9 (ly:=ly) (t:=t) (l:=l) (me:=me) (fr:=fr) hc3 hc4 i;refine WR.scanG (X:=⟨TNs,UNs,wlW Ev,Ev.Y,false⟩) (k:=100) (L:=6) [2,3,4,5,10,11,12,39,40,41] mixed (CX.Ok.of CEo9 CEh9) (AAg9 none l) (badN ly me fr) (fun i=>tmNs l me fr (i:Nat)) (fun i=>nsB ly t l me fr c3 c4 i) (fun i=>rfl) 0 1 (fun i p hs hi hp K k1 k2=> ?_) (fun K k1=> ?_) (fun h=>by simp only [e];exact h1 h) (fun h i=>h2 h i) m 1 (by rw [e];exact hm) (Zax _) rfl
 ·obtain ⟨g1,g2,g3⟩:=AEp9 l none i p hp;obtain ⟨o,x⟩:=p;simp only at g1 g2 g3;have hxl:AFb9 x:=hx x (Zbr g1);obtain ⟨j,rfl⟩:∃j,i=j+1:=⟨i - 1,by omega⟩;obtain ⟨w,hw,hj⟩:=g3 j rfl;refine Eq.mpr (rNs _ _ _ K ly t l me fr ((j+1:Nat):Int) j (j+1) c3 c4 _) ?_;refine Zaz (by simp;omega) (Zaz (natI _) ⟨_,ABt9 g1, ?_⟩);refine ⟨_,_,_,rfl,rfl, ?_⟩;rw [BOv9 hno,Zfo];refine Zba (fun c1=>Zaz (low (j+1)) (k1 (by rw [badN,←Bool.or_assoc];simp only [c1,Zeq]))) fun c1=>Zba (fun c2=>Zaz (low (j+1)) (k1 (by rw [badN];simp only [show (x.fm==me)=true from c2,Zeq,Zfe]))) fun c2=>Zaz (by simp) ?_;rw [show Zad Zbc (((j+1:Nat):Int) - 1)=((j:Nat):Int) by rw [AAt9 (by omega) (by omega)];omega];refine Zaz (natI j) ⟨_,ABt9 hj,Zba (fun c3=>Zaz (low (j+1)) (k1 ?_)) fun c3=>⟨_,_,_,rfl,rfl, ?_⟩⟩
  ·have hpv:AVy9 o x.fm=true:=by rw [hw];exact c3
   rw [badN];simp only [hpv,Zfe]
  ·rw [CCk9,Zfo];refine Zba (fun c4=>Zaz (low (j+1)) (k1 ?_)) fun c4=> ?_
   ·rcases (Zdy ..).mp c4 with c4|c4<;> · rw [badN];simp only [c4,Zeq,Zfe]
   ·have hpv:AVy9 o x.fm=false:=by rw [hw];exact c3
    have hb:badN ly me fr (o,x)=false:=by
     rw [Bool.or_eq_false_iff] at c1 c4;rw [badN,c1.1,c1.2,show (x.fm==me)=false from c2,c4.1,c4.2,hpv];rfl
    have hk:=k2 hb;have htk:(l.take (j+1+1)).map (ALx9 ly)=(l.take (j+1)).map (ALx9 ly)++ [ALx9 ly x]:=by
     rw [Zfj,g1];simp
    have hl2:=low (j+1+1);simp only [nsB,htk,BEx9] at hk hl2;refine ⟨x.us,ly,_,rfl,⟨hxl.1,rfl⟩,x.gs,ly,_,rfl,⟨hxl.2.1,rfl⟩,x.ak,ly,_,rfl,⟨hxl.2.2,rfl⟩,rfl,by omega,Zaz hl2 ?_⟩;rw [wrapN (by omega)];exact hk
 ·simp only [e] at k1 ⊢;refine Eq.mpr (rNs _ _ _ K ly t l me fr l.length (l.length - 1) l.length c3 c4 _) ?_;exact Zdf (by simp) (Zaz (low l.length) k1)
def nsB0 (ly:LayT) (t:TabT) (me fr:Int):List Blk:= [layF ly false,tabB t,sideB ly me fr (.d (.s (.slice none 0 0)))]
theorem wrNs {Ev:Env prog} {b:Ev.β} {Q:Exit→St Ev.β→Prop} (ly:LayT) (t:TabT) (l:List NearT) (me fr:Int) (hno:1≤ly.no∧ly.no≤1000000) (hl:l.length<1000000) (hx:∀x∈l,AFb9 x)
 (h0:l= []→Q (.exit 0) ⟨tmNs l me fr l.length,nsB0 ly t me fr,b⟩) (h1:l≠ []→(AAg9 none l).any (badN ly me fr)=false→∀c3 c4,Q (.exit 0) ⟨tmNs l me fr l.length,nsB ly t l me fr c3 c4 l.length,b⟩) (h2:(AAg9 none l).any (badN ly me fr)=true→∀(i:Nat) (hp:List Blk),Q .ret ⟨tmNs l me fr i,hp,b⟩):
 WR Ev lpNs (l.length+1) ⟨tmNs l me fr (0:Nat),nsB0 ly t me fr,b⟩ Q:=by
 refine WR.ofMaskT (X:=⟨TNs,UNs,wlW Ev,Ev.Y,false⟩) (k:=100) [2,3,4,5,10,11,12,39,40,41] mixed (CX.Ok.of CEo9 CEh9) ?_;refine Eq.mpr (rNs0 _ _ _ _ ly t l me fr ((0:Nat):Int)) ?_;cases l with
 |nil=>exact Zdf (by simp) (h0 rfl)
 | cons x r=>
  have hxl:AFb9 x:=hx x (Zcc ..);have g1:(x::r)[0]? =some x:=rfl;have hwp:AAg9 none (x::r)=(none,x)::AAg9 (some x) r:=rfl;refine Zaz (by simp) (Zaz (natI 0) ⟨_,ABt9 g1, ?_⟩);refine ⟨_,_,_,rfl,rfl, ?_⟩;rw [BOv9 hno,Zfo];have bad:badN ly me fr (none,x)=true→∀(i:Nat) (hp:List Blk),Q .ret ⟨tmNs (x::r) me fr i,hp,b⟩:=fun h=>h2 (by rw [hwp,List.any_cons,h];rfl);refine Zba (fun c1=>bad (by rw [badN,←Bool.or_assoc];simp only [c1,Zeq]) 0 _) fun c1=>Zba (fun c2=>bad (by rw [badN];simp only [show (x.fm==me)=true from c2,Zeq,Zfe]) 0 _) fun c2=>Zdf (by decide) ?_;refine ⟨_,_,_,rfl,rfl, ?_⟩;rw [CCk9,Zfo];refine Zba (fun c4=>bad ?_ 0 _) fun c4=> ?_
  ·rcases (Zdy ..).mp c4 with c4|c4<;> · rw [badN];simp only [c4,Zeq,Zfe]
  ·have hb:badN ly me fr (none,x)=false:=by
    rw [Bool.or_eq_false_iff] at c1 c4;rw [badN,c1.1,c1.2,show (x.fm==me)=false from c2,c4.1,c4.2];rfl
   have hd:(AAg9 none (x::r)).drop 1=AAg9 (some x) r:=rfl;have hk:=fun c3 c4 h3 h4=>wrNs1 (Q:=Q) ly t (x::r) me fr c3 c4 h3 h4 hno hl hx (fun h=>h1 (by simp) (by rw [hwp,List.any_cons,hb];rw [hd] at h;exact h) c3 c4) (fun h i=>h2 (by rw [hwp,List.any_cons,hb];rw [hd] at h;exact h) i _) r.length (by simp;omega);refine ⟨x.us,ly,_,rfl,⟨hxl.1,rfl⟩,x.gs,ly,_,rfl,⟨hxl.2.1,rfl⟩,x.ak,ly,_,rfl,⟨hxl.2.2,rfl⟩,by decide, ?_⟩;rw [wrapN (by omega)];exact hk _ _ rfl rfl
def wlNs {β:Type}:WLT β:=fun cd tm hp b K=>∃(ly:LayT) (t:TabT) (l:List NearT) (me fr:Int) (q:Bool),cd= .loop lpNs∧AAx9 [2,3,4,5,10,11,12,39,40,41] 0 tm=tmNs l me fr 0∧hp=nsB0 ly t me fr∧
 ((1≤ly.no∧ly.no≤1000000)∧l.length<1000000∧(∀x∈l,AFb9 x)∧q=(AAg9 none l).any (badN ly me fr))∧
 BIf q (∀(i:Nat) (hp:List Blk),K .ret (tmNs l me fr i) hp b) (BIf l.isEmpty (K (.exit 0) (tmNs l me fr l.length) (nsB0 ly t me fr) b) (∀(c3 c4:List AV),K (.exit 0) (tmNs l me fr l.length) [layF ly true,tabB t,sideB ly me fr (.gref 5 (l.length - 1) l.length 31),junkB c3,junkB c4,growB (l.length - 1) (flatA (l.map (ALx9 ly)))] b))
theorem BYx9 {Ev:Env prog} (c:Code) (tm:List AV) (hp:List Blk) (b:Ev.β) (K:Exit→List AV→List Blk→Ev.β→Prop) (h:wlNs c tm hp b K):W Ev c ⟨tm,hp,b⟩ (fun e s=>K e s.tm s.hp s.b):=by
 obtain ⟨ly,t,l,me,fr,q,rfl,htm,rfl,⟨hno,hl,hx,hz⟩,hK⟩:=h;refine W.cast (htm▸AAc9 _ tm 0) (Zbu _) ?_;refine W.rounds (wrNs (Q:=fun e s=>K e s.tm s.hp s.b) ly t l me fr hno hl hx (fun h=> ?_) (fun hne h c3 c4=> ?_) fun h=>by rw [hz,h] at hK;exact hK)
 ·subst h;rw [hz] at hK;exact hK
 ·rw [hz,h] at hK;cases l with
  |nil=>exact absurd rfl hne
  | cons x r=>
   have hK':=(show ∀(c3 c4:List AV),_ from hK) c3 c4;simp only [nsB,Zdk];exact hK'
def TNf:List (Nat×(List AV→(AV→Prop)→Prop)):= [(73,BMo9),(36,cIn)]
theorem CHk9:AAb9 prog TNf:=Zai APk9 (Zai BGm9 Zaj)
abbrev Qz59:List AV:= [Zae (Zdx (Zci none)),Zae (bo false)]
theorem ns_nf (ly:LayT) (t:TabT) (l:List NearT) (me fr:Int):wpFn prog ⟨TNf, [],wlNs,y,false⟩ 100 f35 [layA ly,tabA t, .d (i64 me), .d (.sl 31 (rowsN l)), .d (i64 fr)] b R=(∃(t0:TabT) (l1:LayT) (q2:Bool), [Zar (Qz1 t),Zar (Qz3 ly)]= [Zar (Qz1 t0),Zar (Qz3 l1)]∧((Zaa (Zbv t0)<10000∧Zaa (Zbi t0)<10000∧Zaa (Zby t0)<10000)∧q2=ACq9 t0 l1)∧BIf (!q2) (R (.tup Qz59) b) (∃(n3:Int) (h4:Int) (z5:Bool), [Zae (i64 me),Zae (i64 (Zad .i64 (Zfa ly - (1:Int))))]= [Zae (i64 n3),Zae (i64 h4)]∧z5=inN n3 h4∧BIf (!z5) (R (.tup Qz59) b) (∃(n6:Int) (h7:Int) (z8:Bool), [Zae (i64 fr),Zae (i64 999999992)]= [Zae (i64 n6),Zae (i64 h7)]∧z8=inN n6 h7∧BIf (!z8) (R (.tup Qz59) b) (∃(ly9:LayT) (t10:TabT) (l11:List NearT) (me12:Int) (fr13:Int) (q14:Bool),Zav lpNs=Zav lpNs∧(Zab::Zab::Zae (i64 me)::Zae (Zan 31 (rowsN l))::Zae (i64 fr)::Zaf 0 0::bds 4 (Zae (Zdx (Zci none))::Zae (bo false)::Zaf 2 0::bds 26 (Zae (Zan 31 (rowsN l))::Zae (i64 ((Zaa (rowsN l):Nat):Int))::Zae (i64 0)::bds 75 [])))=(Zab::Zab::Zae (i64 me12)::Zae (Zan 31 (rowsN l11))::Zae (i64 fr13)::Zaf 0 0::bds 4 (Zae (Zdx (Zci none))::Zae (bo false)::Zaf 2 0::bds 26 (Zae (Zan 31 (rowsN l11))::Zae (i64 ((Zaa l11:Nat):Int))::Zae (i64 0)::bds 75 [])))∧(Qz42 ly t me fr)=(Qz42 ly9 t10 me12 fr13)∧(((1:Int)≤Zfa ly9∧Zfa ly9≤(1000000:Int))∧Zaa l11<1000000∧(∀(x:NearT),x∈l11→Zaa (Zbk x)<1000000∧Zaa (Zbm x)<1000000∧Zaa (Zbq x)<1000000)∧q14=Zdg (AAg9 none l11) (badN ly9 me12 fr13))∧BIf q14 (∀(i:Nat) (hp:List Blk),R (.tup Qz59) b) (BIf (Zfs l11) (R (.tup [Zag [i64 (Zfa ly9),i64 (Zcv ly9),i64 me12,Zdx (.slice none 0 0),i64 fr13],Zae (bo true)]) b) (∀(c3 c4:List AV),Zaa l11 - 1=Zaa l11 - 1∧∃(xs15:List (List Dv)),flatA (List.map (ALx9 ly9) l11)=flatA xs15∧Zaa xs15=Zaa l11∧(∀(r:List Dv),r∈xs15→Zaa r=31)∧R (.tup [Zag [i64 (Zfa ly9),i64 (Zcv ly9),i64 me12,Zan 31 xs15,i64 fr13],Zae (bo true)]) b)))))):=by kernel_rfl
theorem SemV.tup2 {a a' b:AV} (h:SemV a a'):SemV (.tup [a,b]) (.tup [a',b]):=by
 intro S w m yv v hr;cases hr with
 | tup hl h0=>
  refine .tup hl fun i c v hc hv=> ?_
  match i,hc with
  |0,hc=>simp at hc;subst hc;exact h _ _ _ _ _ (h0 0 a v (by simp) hv)
  |1,hc=>exact h0 1 c v hc hv
theorem SemV.rptr {cs ds:List Dv} (hl:cs.length=ds.length) (h:∀(j:Nat) (c d:Dv),cs[j]? =some c→ds[j]? =some d→ASt9 c d∨∃k xs ys,c= .sl k xs∧d= .sl k ys∧AJq9 xs ys):SemV (.rptr cs) (.rptr ds):=by
 intro S w m yv v hr;cases hr with
 | rptr vals hne hsp hs hc hr h1=>
  have get:∀(j:Nat) (d:Dv),ds[j]? =some d→∃c,cs[j]? =some c:=fun j d hd=>by
   have:=(Zac.1 hd).1;exact ⟨cs[j]'(by omega),Zbb (by omega)⟩
  refine .rptr vals (fun e=>hne (List.length_eq_zero_iff.1 (by rw [hl,e];rfl))) hsp (fun j d hd=> ?_) (fun j d hd=> ?_) (fun j d hd=> ?_) (fun j d hd=> ?_);all_goals obtain ⟨c,hc0⟩:=get j d hd
  ·exact hs j c hc0
  ·exact hc j c hc0
  ·rcases h j c d hc0 hd with h2|⟨k,xs,ys,rfl,rfl,h2⟩
   ·exact h2.dr (hr j c hc0)
   ·exact h2.dr (hr j _ hc0)
  ·exact h1 j c hc0
def newS (ly:LayT) (t:TabT) (me:Int) (l:List NearT) (fr:Int):Bool:=ACq9 t ly&&(inN me (Zad Zbc (ly.no - 1))&&(inN fr 999999992&& !(AAg9 none l).any (badN ly me fr)))
def sideS (ly:LayT) (me:Int) (l:List NearT) (fr:Int):SideT:=⟨ly,me,l.map (filN ly),fr⟩
def nsA (q:Bool) (s:SideT):AV:= .tup [if q then .rptr (sideD s) else .d nilP, .d (bo q)]
theorem AWl9 (ly:LayT):∀l:List NearT,AJq9 (l.map (ALx9 ly)) (rowsN (l.map (filN ly)))
 | []=> .nil
 |n::r=> .cons (AQb9 n.fm (fTab ly n) n.fr) (AWl9 ly r)
theorem BZv9 (ly:LayT) (me:Int) (l:List NearT) (fr:Int):SemV (.rptr [i64 ly.no,i64 ly.da,i64 me, .sl 31 (l.map (ALx9 ly)),i64 fr]) (.rptr (sideD (sideS ly me l fr))):=by
 refine SemV.rptr rfl fun j c d hc hd=> ?_
 match j,hc,hd with
 |0,hc,hd=>simp [sideD,sideS] at hc hd;subst hc;subst hd;exact .inl .rfl
 |1,hc,hd=>simp [sideD,sideS] at hc hd;subst hc;subst hd;exact .inl .rfl
 |2,hc,hd=>simp [sideD,sideS] at hc hd;subst hc;subst hd;exact .inl .rfl
 |3,hc,hd=>simp [sideD,sideS] at hc hd;subst hc;subst hd;exact .inr ⟨31,_,_,rfl,rfl,AWl9 ly l⟩
 |4,hc,hd=>simp [sideD,sideS] at hc hd;subst hc;subst hd;exact .inl .rfl
theorem BSi9 (ly:LayT) (me fr:Int):SemV (.rptr [i64 ly.no,i64 ly.da,i64 me,Zdx (Zcz none 0 0),i64 fr]) (.rptr (sideD (sideS ly me [] fr))):=by
 refine SemV.rptr rfl fun j c d hc hd=> ?_
 match j,hc,hd with
 |0,hc,hd=>simp [sideD,sideS] at hc hd;subst hc;subst hd;exact .inl .rfl
 |1,hc,hd=>simp [sideD,sideS] at hc hd;subst hc;subst hd;exact .inl .rfl
 |2,hc,hd=>simp [sideD,sideS] at hc hd;subst hc;subst hd;exact .inl .rfl
 |3,hc,hd=>simp [sideD,sideS,rowsN] at hc hd;subst hc;subst hd;exact .inl .nil
 |4,hc,hd=>simp [sideD,sideS] at hc hd;subst hc;subst hd;exact .inl .rfl
theorem BFa9 (ly:LayT) (l:List NearT):∀r∈l.map (ALx9 ly),r.length=31:=by
 intro r hr;simp only [Zbj] at hr;obtain ⟨x,_,rfl⟩:=hr;rfl
theorem ACb9 {t:TabT} {l:LayT} (h:ACq9 t l=true):(1≤l.no∧l.no≤60)∧(1≤l.da∧l.da≤60):=by
 unfold ACq9 at h;split at h<;>try (cases h;done)
 split at h<;>try (cases h;done)
 split at h<;>try (cases h;done)
 split at h<;>try (cases h;done)
 omega
theorem pcNew (ly:LayT) (t:TabT) (me:Int) (l:List NearT) (fr:Int) (ht:TabOk t) (hl:l.length<1000000) (hx:∀x∈l,AFb9 x):
 PCall prog 35 [layA ly,tabA t, .d (i64 me), .d (.sl 31 (rowsN l)), .d (i64 fr)] (nsA (newS ly t me l fr) (sideS ly me l fr)):=by
 have key:PCall prog 35 [layA ly,tabA t, .d (i64 me), .d (.sl 31 (rowsN l)), .d (i64 fr)] (.tup [if newS ly t me l fr then .rptr [i64 ly.no,i64 ly.da,i64 me,if l.isEmpty then Zdx (Zcz none 0 0) else .sl 31 (l.map (ALx9 ly)),i64 fr] else .d nilP, .d (bo (newS ly t me l fr))]):=by
  refine Zda (n:=100) (u:=false) (fun _=>wlNs) mixed CHk9 Zah (fun Ev=>BYx9) func35 (by rfl) (by rfl) fun Ev bb=> ?_;rw [ns_nf,ABs9];refine ⟨t,ly,_,rfl,⟨ht,rfl⟩,Zba (fun h1=> ?_) fun h1=>⟨_,_,_,rfl,rfl,Zba (fun h2=> ?_) fun h2=>⟨_,_,_,rfl,rfl,Zba (fun h3=> ?_) fun h3=> ?_⟩⟩⟩
  ·rw [Zcp] at h1;rw [newS,h1];rfl
  ·rw [Zcp] at h2;rw [newS,h2,Zck,Zdc];rfl
  ·rw [Zcp] at h3;rw [newS,h3,Zck,Zdc,Zdc];rfl
  ·rw [Zek] at h1 h2 h3;have hv:=ACb9 h1;refine ⟨ly,t,l,me,fr,_,rfl,rfl,rfl,⟨⟨hv.1.1,by omega⟩,hl,hx,rfl⟩,Zba (fun h4 i hp=> ?_) fun h4=> ?_⟩
   ·rw [newS,h1,h2,h3,h4];rfl
   ·rw [newS,h1,h2,h3,h4];refine Zba (fun h5=> ?_) fun h5=> ?_
    ·rw [h5];rfl
    ·intro c3 c4;rw [h5];exact ⟨rfl,l.map (ALx9 ly),rfl,by simp,BFa9 ly l,rfl⟩
 refine PCall.semRes ?_ key;cases hq:newS ly t me l fr with
 |false=>exact SemV.rfl
 | true=>
  refine SemV.tup2 ?_;cases l with
  |nil=>exact BSi9 ly me fr
  |cons x r=>exact BZv9 ly me (x::r) fr
def cNew (args:List AV) (K:AV→Prop):Prop:=∃(ly:LayT) (t:TabT) (me:Int) (l:List NearT) (fr:Int) (s:SideT) (q:Bool),args= [layA ly,tabA t, .d (i64 me), .d (.sl 31 (rowsN l)), .d (i64 fr)]∧(TabOk t∧l.length<1000000∧(∀x∈l,AFb9 x)∧q=newS ly t me l fr∧s=sideS ly me l fr)∧BIf q (K (.tup [.rptr (sideD s), .d (bo true)])) (K (.tup [.d nilP, .d (bo false)]))
theorem BGf9:∀args K,cNew args K→∃x,PCall prog 35 args x∧K x:=by
 rintro _ K ⟨ly,t,me,l,fr,_,q,rfl,⟨ht,hl,hx,hq,rfl⟩,hk⟩;refine ⟨_,pcNew ly t me l fr ht hl hx, ?_⟩;rw [←hq];cases q with
 |true=>exact hk
 |false=>exact hk
theorem CBw9 (x:GraT) (fr:Int):wpFn prog ⟨[], [],wl,y,false⟩ 100 f96 [graA x, .rptr [i64 fr]] b R=(R (Zae (bo (decide (Zdt x<fr)))) b):=by kernel_rfl
theorem CBx9 (x:AskT) (sl:Int):wpFn prog ⟨[], [],wl,y,false⟩ 100 f138 [askA x, .rptr [i64 sl]] b R=(R (Zae (bo (Zcs x==sl))) b):=by kernel_rfl
theorem CFy9 (x:GraT) (fr:Int):PCall prog 96 [graA x, .rptr [i64 fr]] (.d (bo (decide (x.un<fr)))):=by
 refine Zbg (n:=100) (u:=false) mixed Zaj Zah func96 (by rfl) (by rfl) fun Ev bb=> ?_;rw [CBw9]
def cOutG (args:List AV) (K:AV→Prop):Prop:=∃(x:GraT) (fr:Int) (q:Bool),args= [graA x, .rptr [i64 fr]]∧q=decide (x.un<fr)∧K (.d (bo q))
theorem BWm9:∀args K,cOutG args K→∃x,PCall prog 96 args x∧K x:=by
 rintro _ K ⟨x,fr,_,rfl,rfl,hk⟩;exact ⟨_,CFy9 x fr,hk⟩
theorem CFz9 (x:AskT) (sl:Int):PCall prog 138 [askA x, .rptr [i64 sl]] (.d (bo (x.sl==sl))):=by
 refine Zbg (n:=100) (u:=false) mixed Zaj Zah func138 (by rfl) (by rfl) fun Ev bb=> ?_;rw [CBx9]
def cOutA (args:List AV) (K:AV→Prop):Prop:=∃(x:AskT) (sl:Int) (q:Bool),args= [askA x, .rptr [i64 sl]]∧q=(x.sl==sl)∧K (.d (bo q))
theorem BWn9:∀args K,cOutA args K→∃x,PCall prog 138 args x∧K x:=by
 rintro _ K ⟨x,sl,_,rfl,rfl,hk⟩;exact ⟨_,CFz9 x sl,hk⟩
def TOutG:List (Nat×(List AV→(AV→Prop)→Prop)):= [(95,BMs9),(96,cOutG)]
theorem BXe9:AAb9 prog TOutG:=Zai APl9 (Zai BWm9 Zaj)
def TOutA:List (Nat×(List AV→(AV→Prop)→Prop)):= [(118,BWg9),(138,cOutA)]
theorem BXf9:AAb9 prog TOutA:=Zai AWu9 (Zai BWn9 Zaj)
def TInsG:List (Nat×(List AV→(AV→Prop)→Prop)):= [(95,BMs9),(167,BNi9)]
theorem BXl9:AAb9 prog TInsG:=Zai APl9 (Zai APn9 Zaj)
def TInsU:List (Nat×(List AV→(AV→Prop)→Prop)):= [(108,BWf9),(170,BNh9)]
theorem BXk9:AAb9 prog TInsU:=Zai AWt9 (Zai APm9 Zaj)
theorem BMb9 (x:GraT) (fr:Int):wpFn prog ⟨TOutG, [],wl,y,false⟩ 100 f132 ([graA x]++ [.rptr [.fn (.func 96) [.pt [i64 fr]]], .rptr [.fn (.func 95) []]]) b R=(∃(u0:GraT), [Zar (Qz5 x)]= [Zar (Qz5 u0)]∧∃(x1:GraT) (fr2:Int) (q3:Bool), [Zar (Qz5 u0),Zag [i64 fr]]= [Zar (Qz5 x1),Zag [i64 fr2]]∧q3=decide (Zdt x1<fr2)∧R (.d (bo q3)) b):=by kernel_rfl
theorem BTl9 (x:GraT) (fr:Int):PCall prog 132 ([graA x]++ [.rptr [.fn (.func 96) [.pt [i64 fr]]], .rptr [.fn (.func 95) []]]) (.d (bo ((fun x:GraT=>decide (x.un<fr)) x))):=by
 refine Zbg (n:=100) (u:=false) mixed BXe9 Zah func132 (by rfl) (by rfl) fun Ev bb=> ?_;rw [BMb9];exact ⟨x,rfl,x,fr,_,rfl,rfl,rfl⟩
def BHk9 (args:List AV) (K:AV→Prop):Prop:=∃(x:GraT) (fr:Int) (q:Bool),args= [graA x]++ [.rptr [.fn (.func 96) [.pt [i64 fr]]], .rptr [.fn (.func 95) []]]∧(q=(fun x:GraT=>decide (x.un<fr)) x)∧K (.d (bo q))
theorem ASk9:∀args K,BHk9 args K→∃x,PCall prog 132 args x∧K x:=by
 rintro _ K ⟨x,fr,_,rfl,rfl,hk⟩;exact ⟨_,BTl9 x fr,hk⟩
def BXn9:List (Nat×(List AV→(AV→Prop)→Prop)):= [(132,BHk9)]
theorem BNu9:AAb9 prog BXn9:=Zai ASk9 Zaj
noncomputable def ARk9:Code:=sub [1,0,1,2,3] (code f54)
def AHq9 (l:List GraT) (fr:Int) (q i:Int):List AV:= [.d (.sl 5 (rowsG l)), .fn (.func 132) [] [.rptr [.fn (.func 96) [.pt [i64 fr]]], .rptr [.fn (.func 95) []]], .bad, .bad, .d (i64 q), .bad, .bad, .d (i64 l.length), .d (i64 i)]++Zap 10 .bad
theorem CAp9 (l:List GraT) (fr:Int) (i:Int):wpc prog ⟨BXn9, [],wl,y,false⟩ 100 ARk9 (AHq9 l fr 0 i) [] b (maskK 0 [0,1,4,7,8] K)=(BIf (decide (i<((Zaa l:Nat):Int))) (BIf (true&&decide (0≤i)) (∃(x0:Int) (x1:Int) (x2:Int) (x3:Int) (x4:Int),(rowsG l)[Zam i]? =some (Qz32 x0 x1 x2 x3 x4)∧∃(x7:GraT) (fr8:Int) (q9:Bool), [Zar (Qz24 x0 x1 x2 x3 x4),Zag [Zcu (Fn.func 96) [Zdu [i64 fr]]],Zag [Zcu (Fn.func 95) []]]= [Zar (Qz5 x7),Zag [Zcu (Fn.func 96) [Zdu [i64 fr8]]],Zag [Zcu (Fn.func 95) []]]∧q9=decide (Zdt x7<fr8)∧BIf q9 (K .ret (Zae (Zan 5 (rowsG l))::Zaw (Fn.func 132) [] [Zag [Zcu (Fn.func 96) [Zdu [i64 fr]]],Zag [Zcu (Fn.func 95) []]]::Zab::Zab::Zae (i64 i)::Zab::Zab::Zae (i64 ((Zaa l:Nat):Int))::Zae (i64 i)::bds 10 []) [] b) (K .normal (Zae (Zan 5 (rowsG l))::Zaw (Fn.func 132) [] [Zag [Zcu (Fn.func 96) [Zdu [i64 fr]]],Zag [Zcu (Fn.func 95) []]]::Zab::Zab::Zae (i64 0)::Zab::Zab::Zae (i64 ((Zaa l:Nat):Int))::Zae (i64 (Zad .i64 (i+1)))::bds 10 []) [] b)) False) (K (Zbn 0) (Zae (Zan 5 (rowsG l))::Zaw (Fn.func 132) [] [Zag [Zcu (Fn.func 96) [Zdu [i64 fr]]],Zag [Zcu (Fn.func 95) []]]::Zab::Zab::Zae (i64 0)::Zab::Zab::Zae (i64 ((Zaa l:Nat):Int))::Zae (i64 i)::bds 10 []) [] b)):=by kernel_rfl
theorem BYf9 {Ev:Env prog} {b:Ev.β} {Q:Exit→St Ev.β→Prop} (l:List GraT) (fr:Int) (hl:l.length≤9223372036854775807) (h1:l.findIdx? (fun x:GraT=>decide (x.un<fr))=none→∀i:Int,Q (.exit 0) ⟨AHq9 l fr 0 i, [],b⟩) (h2:∀j:Nat,l.findIdx? (fun x:GraT=>decide (x.un<fr))=some j→Q .ret ⟨AHq9 l fr j j, [],b⟩):
 WR Ev ARk9 (l.length+1) ⟨AHq9 l fr 0 (0:Nat), [],b⟩ Q:=by
 refine Zgc (X:=⟨BXn9, [],wlW Ev,Ev.Y,false⟩) (k:=100) [0,1,4,7,8] mixed (CX.Ok.of BNu9 Zah) l (fun x:GraT=>decide (x.un<fr)) (fun i=>AHq9 l fr 0 (i:Nat)) (fun i=>AHq9 l fr (i:Nat) (i:Nat)) [] 0 (fun i x hi hxi K k1 k2=> ?_) (fun K k1=> ?_) (fun h=>h1 h _) h2
 ·refine Eq.mpr (CAp9 _ _ _ K l fr i) ?_;rw [ABb9 hxi];refine Zaz (by simp;omega) (Zaz (natI i) ⟨_,_,_,_,_,rfl,x,fr,_,rfl,rfl,Zba (fun g=>k1 g) fun g=> ?_⟩);rw [wrapN (by omega)];exact k2 g
 ·refine Eq.mpr (CAp9 _ _ _ K l fr _) ?_;exact Zdf (by simp) k1
def BBr9 {β:Type}:WLT β:=fun cd tm hp b K=>∃(l:List GraT) (fr:Int) (q:Int),cd= .loop ARk9∧AAx9 [0,1,4,7,8] 0 tm=AHq9 l fr 0 0∧hp= []∧(l.length≤9223372036854775807∧q=idxS (fun x:GraT=>decide (x.un<fr)) l)∧(∀i:Int,q= -1→K (.exit 0) (AHq9 l fr 0 i) [] b)∧(∀i:Int,0≤q→K .ret (AHq9 l fr q i) [] b)
theorem BBq9 {Ev:Env prog} (c:Code) (tm:List AV) (hp:List Blk) (b:Ev.β) (K:Exit→List AV→List Blk→Ev.β→Prop) (h:BBr9 c tm hp b K):W Ev c ⟨tm,hp,b⟩ (fun e s=>K e s.tm s.hp s.b):=by
 obtain ⟨l,fr,q,rfl,htm,rfl,⟨hl,rfl⟩,hK1,hK2⟩:=h;refine W.cast (htm▸AAc9 _ tm 0) (Zbu _) ?_;exact W.rounds (BYf9 (Q:=fun e s=>K e s.tm s.hp s.b) l fr hl (fun h i=>hK1 i (AAy9 h)) fun j h=>by have:=hK2 j (by rw [AAh9 h];omega);rwa [AAh9 h] at this)
theorem BEi9 (l:List GraT) (fr:Int):wpFn prog ⟨[], [],BBr9,y,false⟩ 100 f54 [.d (.sl 5 (rowsG l)), .fn (.func 132) [] [.rptr [.fn (.func 96) [.pt [i64 fr]]], .rptr [.fn (.func 95) []]]] b R=(∃(l0:List GraT) (fr1:Int) (q2:Int),Zav ARk9=Zav ARk9∧(Zae (Zan 5 (rowsG l))::Zaw (Fn.func 132) [] [Zag [Zcu (Fn.func 96) [Zdu [i64 fr]]],Zag [Zcu (Fn.func 95) []]]::Zab::Zab::Zae (i64 0)::Zab::Zab::Zae (i64 ((Zaa (rowsG l):Nat):Int))::Zae (i64 0)::bds 10 [])=(Zae (Zan 5 (rowsG l0))::Zaw (Fn.func 132) [] [Zag [Zcu (Fn.func 96) [Zdu [i64 fr1]]],Zag [Zcu (Fn.func 95) []]]::Zab::Zab::Zae (i64 0)::Zab::Zab::Zae (i64 ((Zaa l0:Nat):Int))::Zae (i64 0)::bds 10 [])∧([]:List Blk)= []∧(Zaa l0≤9223372036854775807∧q2=idxS (fun (x3:GraT)=>decide (Zdt x3<fr1)) l0)∧(∀(i:Int),q2=(-1:Int)→R (.d (i64 (-1))) b)∧∀(i:Int),(0:Int)≤q2→R (.d (i64 q2)) b):=by kernel_rfl
theorem BKf9 (l:List GraT) (fr:Int) (hl:l.length≤9223372036854775807):PCall prog 54 [.d (.sl 5 (rowsG l)), .fn (.func 132) [] [.rptr [.fn (.func 96) [.pt [i64 fr]]], .rptr [.fn (.func 95) []]]] (.d (i64 (idxS (fun x:GraT=>decide (x.un<fr)) l))):=by
 refine Zda (n:=100) (u:=false) (fun _=>BBr9) mixed Zaj Zah (fun Ev=>BBq9) func54 (by rfl) (by rfl) fun Ev bb=> ?_;rw [BEi9,AAe9];exact ⟨l,fr,_,rfl,rfl,rfl,⟨hl,rfl⟩,fun i h=>by rw [h],fun i h=>rfl⟩
def BGo9 (args:List AV) (K:AV→Prop):Prop:=∃(l:List GraT) (fr:Int) (q:Int),args= [.d (.sl 5 (rowsG l)), .fn (.func 132) [] [.rptr [.fn (.func 96) [.pt [i64 fr]]], .rptr [.fn (.func 95) []]]]∧(l.length≤9223372036854775807∧q=idxS (fun x:GraT=>decide (x.un<fr)) l)∧K (.d (i64 q))
theorem AZw9:∀args K,BGo9 args K→∃x,PCall prog 54 args x∧K x:=by
 rintro _ K ⟨l,fr,_,rfl,⟨hl,rfl⟩,hk⟩;exact ⟨_,BKf9 l fr hl,hk⟩
theorem BMc9 (x:AskT) (sl:Int):wpFn prog ⟨TOutA, [],wl,y,false⟩ 100 f148 ([askA x]++ [.rptr [.fn (.func 138) [.pt [i64 sl]]], .rptr [.fn (.func 118) []]]) b R=(∃(u0:AskT), [Zar (Qz13 x)]= [Zar (Qz13 u0)]∧∃(x1:AskT) (sl2:Int) (q3:Bool), [Zar (Qz13 u0),Zag [i64 sl]]= [Zar (Qz13 x1),Zag [i64 sl2]]∧q3=(Zcs x1==sl2)∧R (.d (bo q3)) b):=by kernel_rfl
theorem BTm9 (x:AskT) (sl:Int):PCall prog 148 ([askA x]++ [.rptr [.fn (.func 138) [.pt [i64 sl]]], .rptr [.fn (.func 118) []]]) (.d (bo ((fun x:AskT=>x.sl==sl) x))):=by
 refine Zbg (n:=100) (u:=false) mixed BXf9 Zah func148 (by rfl) (by rfl) fun Ev bb=> ?_;rw [BMc9];exact ⟨x,rfl,x,sl,_,rfl,rfl,rfl⟩
def BHl9 (args:List AV) (K:AV→Prop):Prop:=∃(x:AskT) (sl:Int) (q:Bool),args= [askA x]++ [.rptr [.fn (.func 138) [.pt [i64 sl]]], .rptr [.fn (.func 118) []]]∧(q=(fun x:AskT=>x.sl==sl) x)∧K (.d (bo q))
theorem ASl9:∀args K,BHl9 args K→∃x,PCall prog 148 args x∧K x:=by
 rintro _ K ⟨x,sl,_,rfl,rfl,hk⟩;exact ⟨_,BTm9 x sl,hk⟩
def BXo9:List (Nat×(List AV→(AV→Prop)→Prop)):= [(148,BHl9)]
theorem BNv9:AAb9 prog BXo9:=Zai ASl9 Zaj
noncomputable def ARl9:Code:=sub [1,0,1,2,3] (code f90)
def AHr9 (l:List AskT) (sl:Int) (q i:Int):List AV:= [.d (.sl 3 (rowsA l)), .fn (.func 148) [] [.rptr [.fn (.func 138) [.pt [i64 sl]]], .rptr [.fn (.func 118) []]], .bad, .bad, .d (i64 q), .bad, .bad, .d (i64 l.length), .d (i64 i)]++Zap 10 .bad
theorem CAq9 (l:List AskT) (sl:Int) (i:Int):wpc prog ⟨BXo9, [],wl,y,false⟩ 100 ARl9 (AHr9 l sl 0 i) [] b (maskK 0 [0,1,4,7,8] K)=(BIf (decide (i<((Zaa l:Nat):Int))) (BIf (true&&decide (0≤i)) (∃(x0:Int) (x1:Int) (x2:Int),(rowsA l)[Zam i]? =some [i64 x0,i64 x1,i64 x2]∧∃(x5:AskT) (sl6:Int) (q7:Bool), [Zar (Qz29 x0 x1 x2),Zag [Zcu (Fn.func 138) [Zdu [i64 sl]]],Zag [Zcu (Fn.func 118) []]]= [Zar (Qz13 x5),Zag [Zcu (Fn.func 138) [Zdu [i64 sl6]]],Zag [Zcu (Fn.func 118) []]]∧q7=(Zcs x5==sl6)∧BIf q7 (K .ret (Zae (Zan 3 (rowsA l))::Zaw (Fn.func 148) [] [Zag [Zcu (Fn.func 138) [Zdu [i64 sl]]],Zag [Zcu (Fn.func 118) []]]::Zab::Zab::Zae (i64 i)::Zab::Zab::Zae (i64 ((Zaa l:Nat):Int))::Zae (i64 i)::bds 10 []) [] b) (K .normal (Zae (Zan 3 (rowsA l))::Zaw (Fn.func 148) [] [Zag [Zcu (Fn.func 138) [Zdu [i64 sl]]],Zag [Zcu (Fn.func 118) []]]::Zab::Zab::Zae (i64 0)::Zab::Zab::Zae (i64 ((Zaa l:Nat):Int))::Zae (i64 (Zad .i64 (i+1)))::bds 10 []) [] b)) False) (K (Zbn 0) (Zae (Zan 3 (rowsA l))::Zaw (Fn.func 148) [] [Zag [Zcu (Fn.func 138) [Zdu [i64 sl]]],Zag [Zcu (Fn.func 118) []]]::Zab::Zab::Zae (i64 0)::Zab::Zab::Zae (i64 ((Zaa l:Nat):Int))::Zae (i64 i)::bds 10 []) [] b)):=by kernel_rfl
theorem BYg9 {Ev:Env prog} {b:Ev.β} {Q:Exit→St Ev.β→Prop} (l:List AskT) (sl:Int) (hl:l.length≤9223372036854775807) (h1:l.findIdx? (fun x:AskT=>x.sl==sl)=none→∀i:Int,Q (.exit 0) ⟨AHr9 l sl 0 i, [],b⟩) (h2:∀j:Nat,l.findIdx? (fun x:AskT=>x.sl==sl)=some j→Q .ret ⟨AHr9 l sl j j, [],b⟩):
 WR Ev ARl9 (l.length+1) ⟨AHr9 l sl 0 (0:Nat), [],b⟩ Q:=by
 refine Zgc (X:=⟨BXo9, [],wlW Ev,Ev.Y,false⟩) (k:=100) [0,1,4,7,8] mixed (CX.Ok.of BNv9 Zah) l (fun x:AskT=>x.sl==sl) (fun i=>AHr9 l sl 0 (i:Nat)) (fun i=>AHr9 l sl (i:Nat) (i:Nat)) [] 0 (fun i x hi hxi K k1 k2=> ?_) (fun K k1=> ?_) (fun h=>h1 h _) h2
 ·refine Eq.mpr (CAq9 _ _ _ K l sl i) ?_;rw [ABo9 hxi];refine Zaz (by simp;omega) (Zaz (natI i) ⟨_,_,_,rfl,x,sl,_,rfl,rfl,Zba (fun g=>k1 g) fun g=> ?_⟩);rw [wrapN (by omega)];exact k2 g
 ·refine Eq.mpr (CAq9 _ _ _ K l sl _) ?_;exact Zdf (by simp) k1
def BBt9 {β:Type}:WLT β:=fun cd tm hp b K=>∃(l:List AskT) (sl:Int) (q:Int),cd= .loop ARl9∧AAx9 [0,1,4,7,8] 0 tm=AHr9 l sl 0 0∧hp= []∧(l.length≤9223372036854775807∧q=idxS (fun x:AskT=>x.sl==sl) l)∧(∀i:Int,q= -1→K (.exit 0) (AHr9 l sl 0 i) [] b)∧(∀i:Int,0≤q→K .ret (AHr9 l sl q i) [] b)
theorem BBs9 {Ev:Env prog} (c:Code) (tm:List AV) (hp:List Blk) (b:Ev.β) (K:Exit→List AV→List Blk→Ev.β→Prop) (h:BBt9 c tm hp b K):W Ev c ⟨tm,hp,b⟩ (fun e s=>K e s.tm s.hp s.b):=by
 obtain ⟨l,sl,q,rfl,htm,rfl,⟨hl,rfl⟩,hK1,hK2⟩:=h;refine W.cast (htm▸AAc9 _ tm 0) (Zbu _) ?_;exact W.rounds (BYg9 (Q:=fun e s=>K e s.tm s.hp s.b) l sl hl (fun h i=>hK1 i (AAy9 h)) fun j h=>by have:=hK2 j (by rw [AAh9 h];omega);rwa [AAh9 h] at this)
theorem BEj9 (l:List AskT) (sl:Int):wpFn prog ⟨[], [],BBt9,y,false⟩ 100 f90 [.d (.sl 3 (rowsA l)), .fn (.func 148) [] [.rptr [.fn (.func 138) [.pt [i64 sl]]], .rptr [.fn (.func 118) []]]] b R=(∃(l0:List AskT) (sl1:Int) (q2:Int),Zav ARl9=Zav ARl9∧(Zae (Zan 3 (rowsA l))::Zaw (Fn.func 148) [] [Zag [Zcu (Fn.func 138) [Zdu [i64 sl]]],Zag [Zcu (Fn.func 118) []]]::Zab::Zab::Zae (i64 0)::Zab::Zab::Zae (i64 ((Zaa (rowsA l):Nat):Int))::Zae (i64 0)::bds 10 [])=(Zae (Zan 3 (rowsA l0))::Zaw (Fn.func 148) [] [Zag [Zcu (Fn.func 138) [Zdu [i64 sl1]]],Zag [Zcu (Fn.func 118) []]]::Zab::Zab::Zae (i64 0)::Zab::Zab::Zae (i64 ((Zaa l0:Nat):Int))::Zae (i64 0)::bds 10 [])∧([]:List Blk)= []∧(Zaa l0≤9223372036854775807∧q2=idxS (fun (x3:AskT)=>Zcs x3==sl1) l0)∧(∀(i:Int),q2=(-1:Int)→R (.d (i64 (-1))) b)∧∀(i:Int),(0:Int)≤q2→R (.d (i64 q2)) b):=by kernel_rfl
theorem BKg9 (l:List AskT) (sl:Int) (hl:l.length≤9223372036854775807):PCall prog 90 [.d (.sl 3 (rowsA l)), .fn (.func 148) [] [.rptr [.fn (.func 138) [.pt [i64 sl]]], .rptr [.fn (.func 118) []]]] (.d (i64 (idxS (fun x:AskT=>x.sl==sl) l))):=by
 refine Zda (n:=100) (u:=false) (fun _=>BBt9) mixed Zaj Zah (fun Ev=>BBs9) func90 (by rfl) (by rfl) fun Ev bb=> ?_;rw [BEj9,AAo9];exact ⟨l,sl,_,rfl,rfl,rfl,⟨hl,rfl⟩,fun i h=>by rw [h],fun i h=>rfl⟩
def BGp9 (args:List AV) (K:AV→Prop):Prop:=∃(l:List AskT) (sl:Int) (q:Int),args= [.d (.sl 3 (rowsA l)), .fn (.func 148) [] [.rptr [.fn (.func 138) [.pt [i64 sl]]], .rptr [.fn (.func 118) []]]]∧(l.length≤9223372036854775807∧q=idxS (fun x:AskT=>x.sl==sl) l)∧K (.d (i64 q))
theorem AZx9:∀args K,BGp9 args K→∃x,PCall prog 90 args x∧K x:=by
 rintro _ K ⟨l,sl,_,rfl,⟨hl,rfl⟩,hk⟩;exact ⟨_,BKg9 l sl hl,hk⟩
theorem BMh9 (x:GraT) (g:GraT):wpFn prog ⟨TInsG, [],wl,y,false⟩ 100 f135 ([graA x]++ [.rptr [.fn (.func 95) []], .rptr (graR g)]) b R=(∃(u0:GraT), [Zar (Qz5 x)]= [Zar (Qz5 u0)]∧∃(u1:GraT), [Zar (Qz5 u0)]= [Zar (Qz5 u1)]∧∃(u2:GraT), [Zar (Qz5 g)]= [Zar (Qz5 u2)]∧∃(u3:GraT), [Zar (Qz5 u2)]= [Zar (Qz5 u3)]∧R (.d (bo (decide (Zdq u1>Zdq u3)))) b):=by kernel_rfl
theorem BTr9 (x:GraT) (g:GraT):PCall prog 135 ([graA x]++ [.rptr [.fn (.func 95) []], .rptr (graR g)]) (.d (bo ((fun x:GraT=>decide (x.sl>g.sl)) x))):=by
 refine Zbg (n:=100) (u:=false) mixed BXl9 Zah func135 (by rfl) (by rfl) fun Ev bb=> ?_;rw [BMh9];exact ⟨x,rfl,x,rfl,g,rfl,g,rfl,rfl⟩
def BPy9 (args:List AV) (K:AV→Prop):Prop:=∃(x:GraT) (g:GraT) (q:Bool),args= [graA x]++ [.rptr [.fn (.func 95) []], .rptr (graR g)]∧(q=(fun x:GraT=>decide (x.sl>g.sl)) x)∧K (.d (bo q))
theorem BHq9:∀args K,BPy9 args K→∃x,PCall prog 135 args x∧K x:=by
 rintro _ K ⟨x,g,_,rfl,rfl,hk⟩;exact ⟨_,BTr9 x g,hk⟩
def BXq9:List (Nat×(List AV→(AV→Prop)→Prop)):= [(135,BPy9)]
theorem BNx9:AAb9 prog BXq9:=Zai BHq9 Zaj
noncomputable def ARn9:Code:=sub [1,0,1,2,3] (code f54)
def AHt9 (l:List GraT) (g:GraT) (q i:Int):List AV:= [.d (.sl 5 (rowsG l)), .fn (.func 135) [] [.rptr [.fn (.func 95) []], .rptr (graR g)], .bad, .bad, .d (i64 q), .bad, .bad, .d (i64 l.length), .d (i64 i)]++Zap 10 .bad
theorem CAs9 (l:List GraT) (g:GraT) (i:Int):wpc prog ⟨BXq9, [],wl,y,false⟩ 100 ARn9 (AHt9 l g 0 i) [] b (maskK 0 [0,1,4,7,8] K)=(BIf (decide (i<((Zaa l:Nat):Int))) (BIf (true&&decide (0≤i)) (∃(x0:Int) (x1:Int) (x2:Int) (x3:Int) (x4:Int),(rowsG l)[Zam i]? =some (Qz32 x0 x1 x2 x3 x4)∧∃(x7:GraT) (g8:GraT) (q9:Bool), [Zar (Qz24 x0 x1 x2 x3 x4),Zag [Zcu (Fn.func 95) []],Zag (Qz17 g)]= [Zar (Qz5 x7),Zag [Zcu (Fn.func 95) []],Zag (Qz17 g8)]∧q9=decide (Zdq x7>Zdq g8)∧BIf q9 (K .ret (Zae (Zan 5 (rowsG l))::Zaw (Fn.func 135) [] [Zag [Zcu (Fn.func 95) []],Zag (Qz17 g)]::Zab::Zab::Zae (i64 i)::Zab::Zab::Zae (i64 ((Zaa l:Nat):Int))::Zae (i64 i)::bds 10 []) [] b) (K .normal (Zae (Zan 5 (rowsG l))::Zaw (Fn.func 135) [] [Zag [Zcu (Fn.func 95) []],Zag (Qz17 g)]::Zab::Zab::Zae (i64 0)::Zab::Zab::Zae (i64 ((Zaa l:Nat):Int))::Zae (i64 (Zad .i64 (i+1)))::bds 10 []) [] b)) False) (K (Zbn 0) (Zae (Zan 5 (rowsG l))::Zaw (Fn.func 135) [] [Zag [Zcu (Fn.func 95) []],Zag (Qz17 g)]::Zab::Zab::Zae (i64 0)::Zab::Zab::Zae (i64 ((Zaa l:Nat):Int))::Zae (i64 i)::bds 10 []) [] b)):=by kernel_rfl
theorem BYi9 {Ev:Env prog} {b:Ev.β} {Q:Exit→St Ev.β→Prop} (l:List GraT) (g:GraT) (hl:l.length≤9223372036854775807) (h1:l.findIdx? (fun x:GraT=>decide (x.sl>g.sl))=none→∀i:Int,Q (.exit 0) ⟨AHt9 l g 0 i, [],b⟩) (h2:∀j:Nat,l.findIdx? (fun x:GraT=>decide (x.sl>g.sl))=some j→Q .ret ⟨AHt9 l g j j, [],b⟩):
 WR Ev ARn9 (l.length+1) ⟨AHt9 l g 0 (0:Nat), [],b⟩ Q:=by
 refine Zgc (X:=⟨BXq9, [],wlW Ev,Ev.Y,false⟩) (k:=100) [0,1,4,7,8] mixed (CX.Ok.of BNx9 Zah) l (fun x:GraT=>decide (x.sl>g.sl)) (fun i=>AHt9 l g 0 (i:Nat)) (fun i=>AHt9 l g (i:Nat) (i:Nat)) [] 0 (fun i x hi hxi K k1 k2=> ?_) (fun K k1=> ?_) (fun h=>h1 h _) h2
 ·refine Eq.mpr (CAs9 _ _ _ K l g i) ?_;rw [ABb9 hxi];refine Zaz (by simp;omega) (Zaz (natI i) ⟨_,_,_,_,_,rfl,x,g,_,rfl,rfl,Zba (fun g=>k1 g) fun g=> ?_⟩);rw [wrapN (by omega)];exact k2 g
 ·refine Eq.mpr (CAs9 _ _ _ K l g _) ?_;exact Zdf (by simp) k1
def BBx9 {β:Type}:WLT β:=fun cd tm hp b K=>∃(l:List GraT) (g:GraT) (q:Int),cd= .loop ARn9∧AAx9 [0,1,4,7,8] 0 tm=AHt9 l g 0 0∧hp= []∧(l.length≤9223372036854775807∧q=idxS (fun x:GraT=>decide (x.sl>g.sl)) l)∧(∀i:Int,q= -1→K (.exit 0) (AHt9 l g 0 i) [] b)∧(∀i:Int,0≤q→K .ret (AHt9 l g q i) [] b)
theorem BBw9 {Ev:Env prog} (c:Code) (tm:List AV) (hp:List Blk) (b:Ev.β) (K:Exit→List AV→List Blk→Ev.β→Prop) (h:BBx9 c tm hp b K):W Ev c ⟨tm,hp,b⟩ (fun e s=>K e s.tm s.hp s.b):=by
 obtain ⟨l,g,q,rfl,htm,rfl,⟨hl,rfl⟩,hK1,hK2⟩:=h;refine W.cast (htm▸AAc9 _ tm 0) (Zbu _) ?_;exact W.rounds (BYi9 (Q:=fun e s=>K e s.tm s.hp s.b) l g hl (fun h i=>hK1 i (AAy9 h)) fun j h=>by have:=hK2 j (by rw [AAh9 h];omega);rwa [AAh9 h] at this)
theorem BEl9 (l:List GraT) (g:GraT):wpFn prog ⟨[], [],BBx9,y,false⟩ 100 f54 [.d (.sl 5 (rowsG l)), .fn (.func 135) [] [.rptr [.fn (.func 95) []], .rptr (graR g)]] b R=(∃(l0:List GraT) (g1:GraT) (q2:Int),Zav ARn9=Zav ARn9∧(Zae (Zan 5 (rowsG l))::Zaw (Fn.func 135) [] [Zag [Zcu (Fn.func 95) []],Zag (Qz17 g)]::Zab::Zab::Zae (i64 0)::Zab::Zab::Zae (i64 ((Zaa (rowsG l):Nat):Int))::Zae (i64 0)::bds 10 [])=(Zae (Zan 5 (rowsG l0))::Zaw (Fn.func 135) [] [Zag [Zcu (Fn.func 95) []],Zag (Qz17 g1)]::Zab::Zab::Zae (i64 0)::Zab::Zab::Zae (i64 ((Zaa l0:Nat):Int))::Zae (i64 0)::bds 10 [])∧([]:List Blk)= []∧(Zaa l0≤9223372036854775807∧q2=idxS (fun (x3:GraT)=>decide (Zdq x3>Zdq g1)) l0)∧(∀(i:Int),q2=(-1:Int)→R (.d (i64 (-1))) b)∧∀(i:Int),(0:Int)≤q2→R (.d (i64 q2)) b):=by kernel_rfl
theorem BKi9 (l:List GraT) (g:GraT) (hl:l.length≤9223372036854775807):PCall prog 54 [.d (.sl 5 (rowsG l)), .fn (.func 135) [] [.rptr [.fn (.func 95) []], .rptr (graR g)]] (.d (i64 (idxS (fun x:GraT=>decide (x.sl>g.sl)) l))):=by
 refine Zda (n:=100) (u:=false) (fun _=>BBx9) mixed Zaj Zah (fun Ev=>BBw9) func54 (by rfl) (by rfl) fun Ev bb=> ?_;rw [BEl9,AAe9];exact ⟨l,g,_,rfl,rfl,rfl,⟨hl,rfl⟩,fun i h=>by rw [h],fun i h=>rfl⟩
def BGr9 (args:List AV) (K:AV→Prop):Prop:=∃(l:List GraT) (g:GraT) (q:Int),args= [.d (.sl 5 (rowsG l)), .fn (.func 135) [] [.rptr [.fn (.func 95) []], .rptr (graR g)]]∧(l.length≤9223372036854775807∧q=idxS (fun x:GraT=>decide (x.sl>g.sl)) l)∧K (.d (i64 q))
theorem AZz9:∀args K,BGr9 args K→∃x,PCall prog 54 args x∧K x:=by
 rintro _ K ⟨l,g,_,rfl,⟨hl,rfl⟩,hk⟩;exact ⟨_,BKi9 l g hl,hk⟩
theorem BMg9 (x:UseT) (g:UseT):wpFn prog ⟨TInsU, [],wl,y,false⟩ 100 f139 ([useA x]++ [.rptr [.fn (.func 108) []], .rptr (useR g)]) b R=(∃(u0:UseT), [Zar (Qz7 x)]= [Zar (Qz7 u0)]∧∃(u1:UseT), [Zar (Qz7 u0)]= [Zar (Qz7 u1)]∧∃(u2:UseT), [Zar (Qz7 g)]= [Zar (Qz7 u2)]∧∃(u3:UseT), [Zar (Qz7 u2)]= [Zar (Qz7 u3)]∧R (.d (bo (decide (Zcw u1>Zcw u3)))) b):=by kernel_rfl
theorem BTq9 (x:UseT) (g:UseT):PCall prog 139 ([useA x]++ [.rptr [.fn (.func 108) []], .rptr (useR g)]) (.d (bo ((fun x:UseT=>decide (x.sl>g.sl)) x))):=by
 refine Zbg (n:=100) (u:=false) mixed BXk9 Zah func139 (by rfl) (by rfl) fun Ev bb=> ?_;rw [BMg9];exact ⟨x,rfl,x,rfl,g,rfl,g,rfl,rfl⟩
def BPx9 (args:List AV) (K:AV→Prop):Prop:=∃(x:UseT) (g:UseT) (q:Bool),args= [useA x]++ [.rptr [.fn (.func 108) []], .rptr (useR g)]∧(q=(fun x:UseT=>decide (x.sl>g.sl)) x)∧K (.d (bo q))
theorem BHp9:∀args K,BPx9 args K→∃x,PCall prog 139 args x∧K x:=by
 rintro _ K ⟨x,g,_,rfl,rfl,hk⟩;exact ⟨_,BTq9 x g,hk⟩
def BXp9:List (Nat×(List AV→(AV→Prop)→Prop)):= [(139,BPx9)]
theorem BNw9:AAb9 prog BXp9:=Zai BHp9 Zaj
noncomputable def ARm9:Code:=sub [1,0,1,2,3] (code f133)
def AHs9 (l:List UseT) (g:UseT) (q i:Int):List AV:= [.d (.sl 4 (rowsU l)), .fn (.func 139) [] [.rptr [.fn (.func 108) []], .rptr (useR g)], .bad, .bad, .d (i64 q), .bad, .bad, .d (i64 l.length), .d (i64 i)]++Zap 10 .bad
theorem CAr9 (l:List UseT) (g:UseT) (i:Int):wpc prog ⟨BXp9, [],wl,y,false⟩ 100 ARm9 (AHs9 l g 0 i) [] b (maskK 0 [0,1,4,7,8] K)=(BIf (decide (i<((Zaa l:Nat):Int))) (BIf (true&&decide (0≤i)) (∃(x0:Int) (x1:Int) (x2:Int) (x3:Int),(rowsU l)[Zam i]? =some [i64 x0,i64 x1,i64 x2,i64 x3]∧∃(x6:UseT) (g7:UseT) (q8:Bool), [Zar (Qz37 x0 x1 x2 x3),Zag [Zcu (Fn.func 108) []],Zag (Qz15 g)]= [Zar (Qz7 x6),Zag [Zcu (Fn.func 108) []],Zag (Qz15 g7)]∧q8=decide (Zcw x6>Zcw g7)∧BIf q8 (K .ret (Zae (Zan 4 (rowsU l))::Zaw (Fn.func 139) [] [Zag [Zcu (Fn.func 108) []],Zag (Qz15 g)]::Zab::Zab::Zae (i64 i)::Zab::Zab::Zae (i64 ((Zaa l:Nat):Int))::Zae (i64 i)::bds 10 []) [] b) (K .normal (Zae (Zan 4 (rowsU l))::Zaw (Fn.func 139) [] [Zag [Zcu (Fn.func 108) []],Zag (Qz15 g)]::Zab::Zab::Zae (i64 0)::Zab::Zab::Zae (i64 ((Zaa l:Nat):Int))::Zae (i64 (Zad .i64 (i+1)))::bds 10 []) [] b)) False) (K (Zbn 0) (Zae (Zan 4 (rowsU l))::Zaw (Fn.func 139) [] [Zag [Zcu (Fn.func 108) []],Zag (Qz15 g)]::Zab::Zab::Zae (i64 0)::Zab::Zab::Zae (i64 ((Zaa l:Nat):Int))::Zae (i64 i)::bds 10 []) [] b)):=by kernel_rfl
theorem BYh9 {Ev:Env prog} {b:Ev.β} {Q:Exit→St Ev.β→Prop} (l:List UseT) (g:UseT) (hl:l.length≤9223372036854775807) (h1:l.findIdx? (fun x:UseT=>decide (x.sl>g.sl))=none→∀i:Int,Q (.exit 0) ⟨AHs9 l g 0 i, [],b⟩) (h2:∀j:Nat,l.findIdx? (fun x:UseT=>decide (x.sl>g.sl))=some j→Q .ret ⟨AHs9 l g j j, [],b⟩):
 WR Ev ARm9 (l.length+1) ⟨AHs9 l g 0 (0:Nat), [],b⟩ Q:=by
 refine Zgc (X:=⟨BXp9, [],wlW Ev,Ev.Y,false⟩) (k:=100) [0,1,4,7,8] mixed (CX.Ok.of BNw9 Zah) l (fun x:UseT=>decide (x.sl>g.sl)) (fun i=>AHs9 l g 0 (i:Nat)) (fun i=>AHs9 l g (i:Nat) (i:Nat)) [] 0 (fun i x hi hxi K k1 k2=> ?_) (fun K k1=> ?_) (fun h=>h1 h _) h2
 ·refine Eq.mpr (CAr9 _ _ _ K l g i) ?_;rw [ACf9 hxi];refine Zaz (by simp;omega) (Zaz (natI i) ⟨_,_,_,_,rfl,x,g,_,rfl,rfl,Zba (fun g=>k1 g) fun g=> ?_⟩);rw [wrapN (by omega)];exact k2 g
 ·refine Eq.mpr (CAr9 _ _ _ K l g _) ?_;exact Zdf (by simp) k1
def BBv9 {β:Type}:WLT β:=fun cd tm hp b K=>∃(l:List UseT) (g:UseT) (q:Int),cd= .loop ARm9∧AAx9 [0,1,4,7,8] 0 tm=AHs9 l g 0 0∧hp= []∧(l.length≤9223372036854775807∧q=idxS (fun x:UseT=>decide (x.sl>g.sl)) l)∧(∀i:Int,q= -1→K (.exit 0) (AHs9 l g 0 i) [] b)∧(∀i:Int,0≤q→K .ret (AHs9 l g q i) [] b)
theorem BBu9 {Ev:Env prog} (c:Code) (tm:List AV) (hp:List Blk) (b:Ev.β) (K:Exit→List AV→List Blk→Ev.β→Prop) (h:BBv9 c tm hp b K):W Ev c ⟨tm,hp,b⟩ (fun e s=>K e s.tm s.hp s.b):=by
 obtain ⟨l,g,q,rfl,htm,rfl,⟨hl,rfl⟩,hK1,hK2⟩:=h;refine W.cast (htm▸AAc9 _ tm 0) (Zbu _) ?_;exact W.rounds (BYh9 (Q:=fun e s=>K e s.tm s.hp s.b) l g hl (fun h i=>hK1 i (AAy9 h)) fun j h=>by have:=hK2 j (by rw [AAh9 h];omega);rwa [AAh9 h] at this)
theorem BEk9 (l:List UseT) (g:UseT):wpFn prog ⟨[], [],BBv9,y,false⟩ 100 f133 [.d (.sl 4 (rowsU l)), .fn (.func 139) [] [.rptr [.fn (.func 108) []], .rptr (useR g)]] b R=(∃(l0:List UseT) (g1:UseT) (q2:Int),Zav ARm9=Zav ARm9∧(Zae (Zan 4 (rowsU l))::Zaw (Fn.func 139) [] [Zag [Zcu (Fn.func 108) []],Zag (Qz15 g)]::Zab::Zab::Zae (i64 0)::Zab::Zab::Zae (i64 ((Zaa (rowsU l):Nat):Int))::Zae (i64 0)::bds 10 [])=(Zae (Zan 4 (rowsU l0))::Zaw (Fn.func 139) [] [Zag [Zcu (Fn.func 108) []],Zag (Qz15 g1)]::Zab::Zab::Zae (i64 0)::Zab::Zab::Zae (i64 ((Zaa l0:Nat):Int))::Zae (i64 0)::bds 10 [])∧([]:List Blk)= []∧(Zaa l0≤9223372036854775807∧q2=idxS (fun (x3:UseT)=>decide (Zcw x3>Zcw g1)) l0)∧(∀(i:Int),q2=(-1:Int)→R (.d (i64 (-1))) b)∧∀(i:Int),(0:Int)≤q2→R (.d (i64 q2)) b):=by kernel_rfl
theorem BKh9 (l:List UseT) (g:UseT) (hl:l.length≤9223372036854775807):PCall prog 133 [.d (.sl 4 (rowsU l)), .fn (.func 139) [] [.rptr [.fn (.func 108) []], .rptr (useR g)]] (.d (i64 (idxS (fun x:UseT=>decide (x.sl>g.sl)) l))):=by
 refine Zda (n:=100) (u:=false) (fun _=>BBv9) mixed Zaj Zah (fun Ev=>BBu9) func133 (by rfl) (by rfl) fun Ev bb=> ?_;rw [BEk9,AAj9];exact ⟨l,g,_,rfl,rfl,rfl,⟨hl,rfl⟩,fun i h=>by rw [h],fun i h=>rfl⟩
def BGq9 (args:List AV) (K:AV→Prop):Prop:=∃(l:List UseT) (g:UseT) (q:Int),args= [.d (.sl 4 (rowsU l)), .fn (.func 139) [] [.rptr [.fn (.func 108) []], .rptr (useR g)]]∧(l.length≤9223372036854775807∧q=idxS (fun x:UseT=>decide (x.sl>g.sl)) l)∧K (.d (i64 q))
theorem AZy9:∀args K,BGq9 args K→∃x,PCall prog 133 args x∧K x:=by
 rintro _ K ⟨l,g,_,rfl,⟨hl,rfl⟩,hk⟩;exact ⟨_,BKh9 l g hl,hk⟩
section
variable {α:Type} {row:α→List Dv} {k:Nat} (hk:∀x,(row x).length=k)
theorem ANm9 (x:α) (hs:List α):flatA ((x::hs).map row)=(row x).map .d++flatA (hs.map row):=by rw [Zdr,AGg9]
theorem AUf9 (a b:List α):flatA ((a++b).map row)=flatA (a.map row)++flatA (b.map row):=by simp [flatA]
include hk
theorem AZj9:∀hs:List α,(flatA (hs.map row)).length=hs.length*k
 | []=>by simp [flatA]
 |h::hs=>by rw [ANm9,Zcg,AZj9 hs,List.length_map,hk,List.length_cons,Zcy];omega
theorem ASb9:∀(hs:List α) (i:Nat),(flatA (hs.map row)).take (i*k)=flatA ((hs.take i).map row)
 | [],i=>by simp [flatA]
 |h::hs,0=>by simp [flatA]
 | h::hs,i+1=>by
  rw [ANm9,List.take_succ_cons,ANm9,←ASb9 hs i,List.take_append];have e:((row h).map Zae).length=k:=by rw [List.length_map,hk]
  rw [e,List.take_of_length_le (by rw [e,Zcy];omega)];congr 2;rw [Zcy];omega
theorem BEy9:∀(hs:List α) (i:Nat),(flatA (hs.map row)).drop (i*k)=flatA ((hs.drop i).map row)
 | [],i=>by simp [flatA]
 |h::hs,0=>by simp
 | h::hs,i+1=>by
  rw [ANm9,List.drop_succ_cons,←BEy9 hs i,List.drop_append];have e:((row h).map Zae).length=k:=by rw [List.length_map,hk]
  rw [e,List.drop_eq_nil_of_le (by rw [e,Zcy];omega),List.nil_append];congr 1;rw [Zcy];omega
theorem fl_at {hs:List α} {j:Nat} {x:α} (h:hs[j]? =some x):((flatA (hs.map row)).drop (j*k)).take k=(row x).map .d:=by
 obtain ⟨hj,rfl⟩:=Zac.1 h;rw [BEy9 hk,List.drop_eq_getElem_cons hj,ANm9];have e:((row hs[j]).map Zae).length=k:=by rw [List.length_map,hk]
 rw [Zev (by rw [e];exact Zax _),List.take_of_length_le (by rw [e];exact Zax _)]
theorem BVc9 {hs:List α} {i:Nat} (hi:i<hs.length) (x:α):(flatA (hs.map row)).take (i*k)++(row x).map .d++(flatA (hs.map row)).drop (i*k+k)=flatA ((hs.set i x).map row):=by
 have e:i*k+k=(i+1)*k:=by rw [Zcy];omega
 rw [e,ASb9 hk,BEy9 hk,List.set_eq_take_append_cons_drop,if_pos hi,AUf9,ANm9,Zbt]
end
theorem WR.delL {α:Type} {P:Program} {Ev:Env P} {X:CX Ev.β} {lp:Code} {b:Ev.β} {Q:Exit→St Ev.β→Prop} {k L:Nat} (keep:List Nat) (hm:P.follows .mixedOrders=true) (hX:X.Ok) (hs:List α) (p:α→Bool) (tmOf:Nat→Nat→List AV) (hpOf:List α→List Blk) (hL:∀c,(hpOf c).length=L) (id:Nat)
 (hr:∀(i j:Nat) (cur:List α) (x:α),cur[j]? =some x→i≤j→j<hs.length→cur.length=hs.length→∀K:Exit→List AV→List Blk→Ev.β→Prop,(p x=true→K .normal (tmOf i (j+1)) (hpOf cur) b)→(p x=false→K .normal (tmOf (i+1) (j+1)) (hpOf (cur.set i x)) b)→wpc P X k lp (tmOf i j) (hpOf cur) b (maskK L keep K))
 (he:∀(i:Nat) (cur:List α) (K:Exit→List AV→List Blk→Ev.β→Prop),cur.length=hs.length→K (.exit id) (tmOf i hs.length) (hpOf cur) b→wpc P X k lp (tmOf i hs.length) (hpOf cur) b (maskK L keep K))
 (hQ:∀cur:List α,cur.length=hs.length→cur.take (hs.filter fun x=> !p x).length=(hs.filter fun x=> !p x)→Q (.exit id) ⟨tmOf (hs.filter fun x=> !p x).length hs.length,hpOf cur,b⟩):
 ∀ (rest:List α) (j i:Nat) (cur:List α),hs.drop j=rest→j≤hs.length→i≤j→cur.length=hs.length→cur.take i=(hs.take j).filter (fun x=> !p x)→cur.drop j=rest→
  WR Ev lp (rest.length+1) ⟨tmOf i j,hpOf cur,b⟩ Q
 | [],j,i,cur,hd,hj,hi,hcl,ht,hcd=>by
  have hjl:j=hs.length:=by have:=List.drop_eq_nil_iff.1 hd;omega
  subst hjl;rw [Zdk] at ht;have hil:i=(hs.filter fun x=> !p x).length:=by rw [←ht,Zca];omega
  refine Zdo keep hm hX (k:=k) (by rw [hL];exact he i cur _ hcl (by rw [hil] at ht ⊢;exact hQ cur hcl ht))
 | h::rest,j,i,cur,hd,hj,hi,hcl,ht,hcd=>by
  have hj1:j<hs.length:=by
   apply Classical.byContradiction;intro hn;rw [List.drop_eq_nil_of_le (by omega)] at hd;cases hd
  rw [List.drop_eq_getElem_cons hj1] at hd;rw [List.drop_eq_getElem_cons (by omega:j<cur.length)] at hcd;injection hd with hh1 hd1
  injection hcd with hh2 hd2
  have htake:hs.take (j+1)=hs.take j++ [h]:=by rw [List.take_succ_eq_append_getElem hj1,hh1]
  have hx:cur[j]? =some h:=by rw [Zbb (by omega),hh2]
  refine Zdo keep hm hX (k:=k) (by
   rw [hL];refine hr i j cur h hx hi hj1 hcl _ (fun hp=> ?_) fun hp=> ?_
   ·refine WR.delL keep hm hX hs p tmOf hpOf hL id hr he hQ rest (j+1) i cur hd1 hj1 (by omega) hcl ?_ hd2;rw [htake,List.filter_append,ht];simp [hp]
   ·refine WR.delL keep hm hX hs p tmOf hpOf hL id hr he hQ rest (j+1) (i+1) (cur.set i h) hd1 hj1 (by omega) (by simpa using hcl) ?_ ?_
    ·rw [htake,List.filter_append,←ht,List.take_succ_eq_append_getElem (by simp;omega)];simp [hp,List.take_set_of_le]
    ·rw [List.drop_set_of_lt (by omega)];exact hd2)
theorem AFs9 {α:Type} {p:α→Bool}:∀ {hs:List α} {j:Nat},hs.findIdx? p=some j→j<hs.length∧hs.take j=(hs.take (j+1)).filter (fun x=> !p x)
 | [],j,h=>by simp at h
 | x::r,j,h=>by
  rw [Zey] at h;cases hp:p x with
  |true=>rw [hp] at h;simp at h;subst h;simp [hp]
  | false=>
   rw [hp] at h;simp only [Zdd,if_false,Zao] at h;obtain ⟨j',h1,rfl⟩:=h;obtain ⟨h2,h3⟩:=AFs9 h1;exact ⟨by simp;omega,by simp [hp,h3]⟩
theorem BEz9 {α:Type} {p:α→Bool} {hs:List α} (h:hs.findIdx? p=none):hs.filter (fun x=> !p x)=hs:=by
 have:=List.findIdx?_eq_none_iff.1 h;exact List.filter_eq_self.2 fun x hx=>by rw [this x hx];rfl
def boxA (x:AV):Blk:=⟨[x],false,false,0⟩
theorem SCall.toSl {P:Program} {f k:Nat} {args:List AV} {hp hp':List Blk} {xs:List (List Dv)} (h:SCall P f args hp (.full k xs) hp'):SCall P f args hp (.d (.sl k xs)) hp':=by
 refine ⟨h.1,fun S X yv w m B hv vs hl hr=>CallsIn.mono (h.2 S X yv w m B hv vs hl hr) ?_⟩;rintro e w' ⟨v,S',m',hv',he,h1,h2⟩;have hrv:=h2.rv _ (Zcc ..);refine ⟨v,S',m',hv',he,h1,(h2.sub (List.sublist_cons_self _ _)).cons ?_ rfl⟩;cases hrv with|full h=>exact .d h
theorem ASs9.pc {P:Program} {f k:Nat} (hc:ASs9 P f k) (xs:List (List Dv)) (hl:xs.length≤1000000) (hk:∀r∈xs,r.length=k):PCall P f [.d (.sl k xs)] (.d (.sl k xs)):=by
 have h:=hc xs hl;cases xs with
 |nil=>exact PCall.semRes (x:= .full k []) (y:= .d (.sl k [])) (SemV.rows .nil) (h.toP (y:= .full k []) (.r (.v rfl)))
 |cons a r=>exact h.toP (.r (.gref rfl rfl rfl rfl rfl hk))
def GCG:List (Nat×(List AV→List Blk→(AV→List Blk→Prop)→Prop)):= [(1000000+59,fun _ _ _=>False)]
theorem BAr9:AAl9 prog GCG:=Zbw (fun _ _ _ h=>h.elim) Zah
theorem BLy9 (xs:List (List Dv)):wpFnS prog ⟨[],GCG,wl,y,false⟩ 100 f48 [.d (.sl 5 xs)] b Kr=(∀(t:Bool),(t=true→xs= [])→BIf t (Kr (Zae (Zdx (.slice none 0 0))) [] b) (BIf (true&&decide (Zaa xs*40≤140737488355328)) (BIf (decide (0<Zaa xs)) (Kr (Zbl 0 0 (Zaa xs) 5) [Blk.mk (flatA xs) false true 0] b) (Kr (Zfx 5 []) [] b)) False)):=by kernel_rfl
theorem BFc9:ASs9 prog 48 5:=fun xs hl=>by
 refine Zgq (n:=100) (u:=false) (fun _=>fun _ _ _ _ _=>False) mixed Zaj BAr9 (fun Ev _ _ _ _ _ h=>h.elim) func48 (by rfl) (by rfl) (by split<;>rfl) fun Ev bb=> ?_;rw [BLy9];refine fun t ht=>Zba (fun h=>by rw [ht h];exact ⟨.nilFull rfl,rfl⟩) fun h=>Zaz (by simp<;>omega) ?_;cases xs with
 |nil=>exact Zdf rfl ⟨.rfl,rfl⟩
 |cons a xs=>exact Zaz (by simp) ⟨.rfl,rfl⟩
theorem AFp9 (x:GraT):(graR x).length=5:=rfl
theorem AQq9 (l:List GraT):∀r∈rowsG l,r.length=5:=by
 intro r hr;simp only [rowsG,Zbj] at hr;obtain ⟨x,_,rfl⟩:=hr;rfl
def BPr9 (args:List AV) (K:AV→Prop):Prop:=∃l:List GraT,args= [.d (.sl 5 (rowsG l))]∧l.length≤1000000∧K (.d (.sl 5 (rowsG l)))
theorem BHe9:∀args K,BPr9 args K→∃x,PCall prog 48 args x∧K x:=by
 rintro _ K ⟨l,rfl,hl,hk⟩;exact ⟨_,ASs9.pc BFc9 (rowsG l) (by rw [AAe9];exact hl) (AQq9 l),hk⟩
def BCs9 (args:List AV) (hp:List Blk) (K:AV→List Blk→Prop):Prop:=∃(hs:List GraT),args= [.d (.sl 5 (rowsG hs))]∧hs.length≤1000000∧BIf hs.isEmpty (K (.d (.sl 5 [])) hp) (K (.gref hp.length 0 hs.length 5) (hp++ [growB 0 (flatA (rowsG hs))]))
theorem AQo9:∀args hp K,BCs9 args hp K→∃x hp',SCall prog 48 args hp x hp'∧K x hp':=by
 rintro _ hp K ⟨hs,rfl,hl,hK⟩;have h1:=(BFc9 (rowsG hs) (by rw [AAe9];omega)).toS rfl hp;cases hs with
 |nil=>exact ⟨_,_,SCall.toSl h1,by simpa [rowsG,AGc9,BIf] using hK⟩
 | cons a r=>
  refine ⟨_,_,h1, ?_⟩;simpa [rowsG,shift,AGc9,AQl9,blkG,AHb9,BIf,growB] using hK
noncomputable def lpDfG:Code:=sub [1,1,1,0,1,2,3] (code f131)
def tmDfG (v n:Nat) (i j:Int):List AV:= [.gref 2 v n 5, .fn (.func 132) [] [.ptr 1 0, .ptr 0 0], .bad, .bad, .bad, .d (i64 i), .d (i64 j)]++Zap 35 .bad
def UDrG:List (Nat×(List AV→List Blk→(AV→List Blk→Prop)→Prop)):= [(1000000+59,fun _ _ _=>False),(132,lendC BHk9)]
theorem CEi9:AAl9 prog UDrG:=Zbw (fun _ _ _ h=>h.elim) (Zbw (AFl9 ASk9) Zah)
def hpDfG (fr:Int) (v':Nat) (cs:List AV):List Blk:= [boxA (.fn (.func 95) [] []),boxA (.fn (.func 96) [] [.rptr [i64 fr]]),growB v' cs]
abbrev Qz60 (v0:Int) (v1:Int):=Zae (i64 v0)::Zae (i64 v1)::bds 35 []
theorem rDfG (v' n:Nat) (i j fr:Int) (cs:List AV):wpc prog ⟨[],UDrG,wl,y,false⟩ 100 lpDfG (tmDfG v' n i j) (hpDfG fr v' cs) b (maskK 3 [0,1,5,6] K)=(v'=v'∧BIf (decide (j<(n:Int))) (v'=v'∧BIf (decide (0≤j)&&decide (j<(n:Int))) (v'=v'∧∃(x0:Int) (x1:Int) (x2:Int) (x3:Int) (x4:Int),Zbs 5 (Zcf (Zam j*5) cs)=(Qz24 x0 x1 x2 x3 x4)∧∃(x5:GraT) (fr6:Int) (q7:Bool), [Zar (Qz24 x0 x1 x2 x3 x4),Zag [Zcu (Fn.func 96) [Zdu [i64 fr]]],Zag [Zcu (Fn.func 95) []]]= [Zar (Qz5 x5),Zag [Zcu (Fn.func 96) [Zdu [i64 fr6]]],Zag [Zcu (Fn.func 95) []]]∧q7=decide (Zdt x5<fr6)∧BIf (!q7) (v'=v'∧BIf (decide (0≤i)&&decide (i<(n:Int))) (v'=v'∧BIf (decide (Zam i*5+5≤Zaa cs)) (BIf (Zbo [Blk.mk [Zaw (Fn.func 95) [] []] false false 0,Blk.mk [Zaw (Fn.func 96) [] [Zag [i64 fr]]] false false 0,Blk.mk (Zbs (Zam i*5) cs++(Qz24 x0 x1 x2 x3 x4)++Zcf (Zam i*5+5) cs) false true v'] fun (blk8:Blk)=>lows 3 blk8.1) (K .normal (Zbl 2 v' n 5::Zaw (Fn.func 132) [] [Zaf 1 0,Zaf 0 0]::bds 3 (Zae (i64 (Zad .i64 (i+1)))::Zae (i64 (Zad .i64 (j+1)))::bds 35 [])) [Blk.mk [Zaw (Fn.func 95) [] []] false false 0,Blk.mk [Zaw (Fn.func 96) [] [Zag [i64 fr]]] false false 0,Blk.mk (Zbs (Zam i*5) cs++(Qz24 x0 x1 x2 x3 x4)++Zcf (Zam i*5+5) cs) false true v'] b) False) False) False) (BIf (Zbo [Blk.mk [Zaw (Fn.func 95) [] []] false false 0,Blk.mk [Zaw (Fn.func 96) [] [Zag [i64 fr]]] false false 0,Blk.mk cs false true v'] fun (blk9:Blk)=>lows 3 blk9.1) (K .normal (Zbl 2 v' n 5::Zaw (Fn.func 132) [] [Zaf 1 0,Zaf 0 0]::bds 3 (Zae (i64 i)::Zae (i64 (Zad .i64 (j+1)))::bds 35 [])) [Blk.mk [Zaw (Fn.func 95) [] []] false false 0,Blk.mk [Zaw (Fn.func 96) [] [Zag [i64 fr]]] false false 0,Blk.mk cs false true v'] b) False)) False) (BIf (Zbo [Blk.mk [Zaw (Fn.func 95) [] []] false false 0,Blk.mk [Zaw (Fn.func 96) [] [Zag [i64 fr]]] false false 0,Blk.mk cs false true v'] fun (blk10:Blk)=>lows 3 blk10.1) (K (Zbn 0) (Zbl 2 v' n 5::Zaw (Fn.func 132) [] [Zaf 1 0,Zaf 0 0]::bds 3 (Qz60 i j)) [Blk.mk [Zaw (Fn.func 95) [] []] false false 0,Blk.mk [Zaw (Fn.func 96) [] [Zag [i64 fr]]] false false 0,Blk.mk cs false true v'] b) False)):=by kernel_rfl
theorem BFl9 (fr:Int) (v':Nat) (hs:List GraT):Zbo (hpDfG fr v' (flatA (rowsG hs))) (fun blk=>lows 3 blk.1)=true:=by
 simp only [hpDfG,List.all_cons,List.all_nil,Bool.and_true,Zak];exact ⟨rfl,rfl,ACu9 3 _⟩
theorem wrDfG {Ev:Env prog} {b:Ev.β} {Q:Exit→St Ev.β→Prop} (v':Nat) (fr:Int) (hs:List GraT) (hl:hs.length<1000000)
 (hQ:∀cur:List GraT,cur.length=hs.length→cur.take (hs.filter fun x=> !(fun x:GraT=>decide (x.un<fr)) x).length=(hs.filter fun x=> !(fun x:GraT=>decide (x.un<fr)) x)→Q (.exit 0) ⟨tmDfG v' hs.length ((hs.filter fun x=> !(fun x:GraT=>decide (x.un<fr)) x).length:Nat) hs.length,hpDfG fr v' (flatA (rowsG cur)),b⟩)
 (j:Nat) (hj:hs.findIdx? (fun x:GraT=>decide (x.un<fr))=some j):WR Ev lpDfG ((hs.drop (j+1)).length+1) ⟨tmDfG v' hs.length (j:Nat) ((j+1:Nat):Int),hpDfG fr v' (flatA (rowsG hs)),b⟩ Q:=by
 obtain ⟨hj1,hj2⟩:=AFs9 hj;refine WR.delL (X:=⟨[],UDrG,wlW Ev,Ev.Y,false⟩) (k:=100) (L:=3) [0,1,5,6] mixed (CX.Ok.of Zaj CEi9) hs (fun x:GraT=>decide (x.un<fr)) (fun i j=>tmDfG v' hs.length (i:Nat) (j:Nat)) (fun c=>hpDfG fr v' (flatA (rowsG c))) (fun _=>rfl) 0 (fun i j cur x hx hi hj hcl K k1 k2=> ?_) (fun i cur K hcl k1=> ?_) hQ (hs.drop (j+1)) (j+1) j hs rfl hj1 (by omega) rfl hj2 rfl
 ·refine Eq.mpr (rDfG _ _ _ K v' hs.length i j fr _) ?_;refine ⟨rfl,Zaz (by simp;omega) ⟨rfl,Zaz (by simp;omega) ⟨rfl,_,_,_,_,_,by rw [Zco];exact fl_at AFp9 hx,x,fr,_,rfl,rfl,Zba (fun h1=> ?_) fun h1=> ?_⟩⟩⟩
  ·rw [Zcp] at h1;have hk2:=k2 h1;have e:=BVc9 AFp9 (hs:=cur) (i:=i) (by omega) x;refine ⟨rfl,Zaz (by simp;omega) ⟨rfl,Zaz (by rw [Zco];have:=AZj9 AFp9 cur;rw [show flatA (rowsG cur)=flatA (cur.map graR) from rfl,this];simp;omega) ?_⟩⟩;rw [Zco,wrapN (by omega),wrapN (by omega)];have hlow:=BFl9 fr v' (cur.set i x);simp only [hpDfG,rowsG] at hk2 hlow;rw [←e] at hk2 hlow;exact Zaz hlow hk2
  ·rw [Zek] at h1;rw [wrapN (by omega)];exact Zaz (BFl9 fr v' cur) (k1 h1)
 ·refine Eq.mpr (rDfG _ _ _ K v' hs.length i hs.length fr _) ?_;exact ⟨rfl,Zdf (by simp) (Zaz (BFl9 fr v' cur) k1)⟩
def BZi9 {β:Type}:WLT β:=fun c tm hp b K=>∃(v':Nat) (fr i j:Int) (hs out:List GraT),c= .loop lpDfG∧AAx9 [0,1,5,6] 0 tm=tmDfG v' hs.length i j∧hp=hpDfG fr v' (flatA (rowsG hs))∧(hs.length<1000000∧0≤i∧i=idxS (fun x:GraT=>decide (x.un<fr)) hs∧j=Zad Zbc (i+1)∧out=hs.filter fun x=> !(fun x:GraT=>decide (x.un<fr)) x)∧
 ∀(cur:List GraT),cur.length=hs.length→cur.take out.length=out→K (.exit 0) (tmDfG v' hs.length (out.length:Nat) hs.length) (hpDfG fr v' (flatA (rowsG cur))) b
theorem BJe9 {Ev:Env prog} (c:Code) (tm:List AV) (hp:List Blk) (b:Ev.β) (K:Exit→List AV→List Blk→Ev.β→Prop) (h:BZi9 c tm hp b K):W Ev c ⟨tm,hp,b⟩ (fun e s=>K e s.tm s.hp s.b):=by
 obtain ⟨v',fr,i,j,hs,_,rfl,htm,rfl,⟨hl,h0,hi,rfl,rfl⟩,hK⟩:=h;cases hf:hs.findIdx? (fun x:GraT=>decide (x.un<fr)) with
 |none=>rw [AAy9 hf] at hi;omega
 | some j0=>
  rw [AAh9 hf] at hi;subst hi;have hj1:=(AFs9 hf).1;rw [wrapN (by omega)] at htm;refine W.cast (htm▸AAc9 _ tm 0) (Zbu _) ?_;exact W.rounds (wrDfG (Q:=fun e s=>K e s.tm s.hp s.b) v' fr hs hl hK j0 hf)
def TDfG:List (Nat×(List AV→(AV→Prop)→Prop)):= [(4000011,cNone)]
theorem BQm9:AAb9 prog TDfG:=Zai (ABx9 _) Zaj
def UDfG:List (Nat×(List AV→List Blk→(AV→List Blk→Prop)→Prop)):= [(1000000+59,fun _ _ _=>False),(54,lendC BGo9)]
theorem BQk9:AAl9 prog UDfG:=Zbw (fun _ _ _ h=>h.elim) (Zbw (AFl9 AZw9) Zah)
def wlDfG {β:Type} (y:ACw9 β):WLT β:=wlZ prog ⟨TDfG,UDfG,fun _ _ _ _ _=>False,y,false⟩ BZi9
theorem CCy9 (v' n:Nat) (fr:Int) (cs:List AV):wpc prog ⟨TDfG,UDfG,wlDfG y,y,false⟩ 100 (code f131) (ACe9 f131 [.gref 2 v' n 5, .fn (.func 132) [] [.ptr 1 0, .ptr 0 0]]) (hpDfG fr v' cs) b (fnKS prog f131 Kr)=(v'=v'∧∃(xs0:List (List Dv)),cs=flatA xs0∧Zaa xs0=n∧(∀(r:List Dv),r∈xs0→Zaa r=5)∧∃(l1:List GraT) (fr2:Int) (q3:Int), [Zae (Zan 5 xs0),Zaw (Fn.func 132) [] [Zag [Zcu (Fn.func 96) [Zdu [i64 fr]]],Zag [Zcu (Fn.func 95) []]]]= [Zae (Zan 5 (rowsG l1)),Zaw (Fn.func 132) [] [Zag [Zcu (Fn.func 96) [Zdu [i64 fr2]]],Zag [Zcu (Fn.func 95) []]]]∧(Zaa l1≤9223372036854775807∧q3=idxS (fun (x4:GraT)=>decide (Zdt x4<fr2)) l1)∧BIf (q3==(-1:Int)) (Kr (Zbl 2 v' n 5) [Blk.mk [Zaw (Fn.func 95) [] []] false false 0,Blk.mk [Zaw (Fn.func 96) [] [Zag [i64 fr]]] false false 0,Blk.mk cs false true v'] b) (∃(v5:Nat) (fr6:Int) (i7:Int) (j8:Int) (hs9:List GraT) (out10:List GraT),Zav lpDfG=Zav lpDfG∧(Zbl 2 v' n 5::Zaw (Fn.func 132) [] [Zaf 1 0,Zaf 0 0]::bds 3 (Zae (i64 q3)::Zae (i64 (Zad .i64 (q3+1)))::bds 35 []))=(Zbl 2 v5 (Zaa hs9) 5::Zaw (Fn.func 132) [] [Zaf 1 0,Zaf 0 0]::bds 3 (Qz60 i7 j8))∧ [Blk.mk [Zaw (Fn.func 95) [] []] false false 0,Blk.mk [Zaw (Fn.func 96) [] [Zag [i64 fr]]] false false 0,Blk.mk cs false true v']= [Blk.mk [Zaw (Fn.func 95) [] []] false false 0,Blk.mk [Zaw (Fn.func 96) [] [Zag [i64 fr6]]] false false 0,Blk.mk (flatA (rowsG hs9)) false true v5]∧(Zaa hs9<1000000∧(0:Int)≤i7∧i7=idxS (fun (x11:GraT)=>decide (Zdt x11<fr6)) hs9∧j8=Zad .i64 (i7+1)∧out10=Zcn (fun (x12:GraT)=> !decide (Zdt x12<fr6)) hs9)∧∀(cur:List GraT),Zaa cur=Zaa hs9→Zbs (Zaa out10) cur=out10→v5=v5∧BIf (true&&decide (((Zaa out10:Nat):Int)≤((Zaa hs9:Nat):Int))) (BIf (true&&decide (((Zaa out10:Nat):Int)≤((Zaa hs9:Nat):Int))) (v5=v5∧Kr (Zbl 2 (v5+1) (Zam ((Zaa out10:Nat):Int)) 5) [Blk.mk [Zaw (Fn.func 95) [] []] false false 0,Blk.mk [Zaw (Fn.func 96) [] [Zag [i64 fr6]]] false false 0,Blk.mk (Zbs (Zam ((Zaa out10:Nat):Int)*5) (Zbs (Zam ((Zaa out10:Nat):Int)*5) (flatA (rowsG cur))++flatA (Zap (Zaa hs9 - Zam ((Zaa out10:Nat):Int)) [i64 0,i64 0,i64 0,i64 0,i64 0]))) false true (v5+1)] b) False) False)):=by kernel_rfl
theorem BVq9 (fr:Int):wpc prog ⟨TDfG,UDfG,wlDfG y,y,false⟩ 100 (code f131) (ACe9 f131 [.d (.sl 5 []), .fn (.func 132) [] [.ptr 1 0, .ptr 0 0]]) [boxA (.fn (.func 95) [] []),boxA (.fn (.func 96) [] [.rptr [i64 fr]])] b (fnKS prog f131 Kr)=(∃(l0:List GraT) (fr1:Int) (q2:Int), [Zae (Zan 5 []),Zaw (Fn.func 132) [] [Zag [Zcu (Fn.func 96) [Zdu [i64 fr]]],Zag [Zcu (Fn.func 95) []]]]= [Zae (Zan 5 (rowsG l0)),Zaw (Fn.func 132) [] [Zag [Zcu (Fn.func 96) [Zdu [i64 fr1]]],Zag [Zcu (Fn.func 95) []]]]∧(Zaa l0≤9223372036854775807∧q2=idxS (fun (x3:GraT)=>decide (Zdt x3<fr1)) l0)∧BIf (q2==(-1:Int)) (Kr (Zae (Zan 5 [])) [Blk.mk [Zaw (Fn.func 95) [] []] false false 0,Blk.mk [Zaw (Fn.func 96) [] [Zag [i64 fr]]] false false 0] b) (∃(v4:Nat) (fr5:Int) (i6:Int) (j7:Int) (hs8:List GraT) (out9:List GraT),Zav lpDfG=Zav lpDfG∧(Zae (Zan 5 [])::Zaw (Fn.func 132) [] [Zaf 1 0,Zaf 0 0]::bds 3 (Zae (i64 q2)::Zae (i64 (Zad .i64 (q2+1)))::bds 35 []))=(Zbl 2 v4 (Zaa hs8) 5::Zaw (Fn.func 132) [] [Zaf 1 0,Zaf 0 0]::bds 3 (Qz60 i6 j7))∧ [Blk.mk [Zaw (Fn.func 95) [] []] false false 0,Blk.mk [Zaw (Fn.func 96) [] [Zag [i64 fr]]] false false 0]= [Blk.mk [Zaw (Fn.func 95) [] []] false false 0,Blk.mk [Zaw (Fn.func 96) [] [Zag [i64 fr5]]] false false 0,Blk.mk (flatA (rowsG hs8)) false true v4]∧(Zaa hs8<1000000∧(0:Int)≤i6∧i6=idxS (fun (x10:GraT)=>decide (Zdt x10<fr5)) hs8∧j7=Zad .i64 (i6+1)∧out9=Zcn (fun (x11:GraT)=> !decide (Zdt x11<fr5)) hs8)∧∀(cur:List GraT),Zaa cur=Zaa hs8→Zbs (Zaa out9) cur=out9→v4=v4∧BIf (true&&decide (((Zaa out9:Nat):Int)≤((Zaa hs8:Nat):Int))) (BIf (true&&decide (((Zaa out9:Nat):Int)≤((Zaa hs8:Nat):Int))) (v4=v4∧Kr (Zbl 2 (v4+1) (Zam ((Zaa out9:Nat):Int)) 5) [Blk.mk [Zaw (Fn.func 95) [] []] false false 0,Blk.mk [Zaw (Fn.func 96) [] [Zag [i64 fr5]]] false false 0,Blk.mk (Zbs (Zam ((Zaa out9:Nat):Int)*5) (Zbs (Zam ((Zaa out9:Nat):Int)*5) (flatA (rowsG cur))++flatA (Zap (Zaa hs8 - Zam ((Zaa out9:Nat):Int)) [i64 0,i64 0,i64 0,i64 0,i64 0]))) false true (v4+1)] b) False) False)):=by kernel_rfl
def GCA:List (Nat×(List AV→List Blk→(AV→List Blk→Prop)→Prop)):= [(1000000+63,fun _ _ _=>False)]
theorem AVf9:AAl9 prog GCA:=Zbw (fun _ _ _ h=>h.elim) Zah
theorem BLz9 (xs:List (List Dv)):wpFnS prog ⟨[],GCA,wl,y,false⟩ 100 f97 [.d (.sl 3 xs)] b Kr=(∀(t:Bool),(t=true→xs= [])→BIf t (Kr (Zae (Zdx (.slice none 0 0))) [] b) (BIf (true&&decide (Zaa xs*24≤140737488355328)) (BIf (decide (0<Zaa xs)) (Kr (Zbl 0 0 (Zaa xs) 3) [Blk.mk (flatA xs) false true 0] b) (Kr (Zfx 3 []) [] b)) False)):=by kernel_rfl
theorem BFd9:ASs9 prog 97 3:=fun xs hl=>by
 refine Zgq (n:=100) (u:=false) (fun _=>fun _ _ _ _ _=>False) mixed Zaj AVf9 (fun Ev _ _ _ _ _ h=>h.elim) func97 (by rfl) (by rfl) (by split<;>rfl) fun Ev bb=> ?_;rw [BLz9];refine fun t ht=>Zba (fun h=>by rw [ht h];exact ⟨.nilFull rfl,rfl⟩) fun h=>Zaz (by simp<;>omega) ?_;cases xs with
 |nil=>exact Zdf rfl ⟨.rfl,rfl⟩
 |cons a xs=>exact Zaz (by simp) ⟨.rfl,rfl⟩
theorem AMe9 (x:AskT):(askR x).length=3:=rfl
theorem ANa9 (l:List AskT):∀r∈rowsA l,r.length=3:=by
 intro r hr;simp only [rowsA,Zbj] at hr;obtain ⟨x,_,rfl⟩:=hr;rfl
def BPs9 (args:List AV) (K:AV→Prop):Prop:=∃l:List AskT,args= [.d (.sl 3 (rowsA l))]∧l.length≤1000000∧K (.d (.sl 3 (rowsA l)))
theorem BHf9:∀args K,BPs9 args K→∃x,PCall prog 97 args x∧K x:=by
 rintro _ K ⟨l,rfl,hl,hk⟩;exact ⟨_,ASs9.pc BFd9 (rowsA l) (by rw [AAo9];exact hl) (ANa9 l),hk⟩
def BOf9 (args:List AV) (hp:List Blk) (K:AV→List Blk→Prop):Prop:=∃(hs:List AskT),args= [.d (.sl 3 (rowsA hs))]∧hs.length≤1000000∧BIf hs.isEmpty (K (.d (.sl 3 [])) hp) (K (.gref hp.length 0 hs.length 3) (hp++ [growB 0 (flatA (rowsA hs))]))
theorem BCt9:∀args hp K,BOf9 args hp K→∃x hp',SCall prog 97 args hp x hp'∧K x hp':=by
 rintro _ hp K ⟨hs,rfl,hl,hK⟩;have h1:=(BFd9 (rowsA hs) (by rw [AAo9];omega)).toS rfl hp;cases hs with
 |nil=>exact ⟨_,_,SCall.toSl h1,by simpa [rowsA,AGc9,BIf] using hK⟩
 | cons a r=>
  refine ⟨_,_,h1, ?_⟩;simpa [rowsA,shift,AGc9,AQl9,blkG,AHb9,BIf,growB] using hK
noncomputable def lpDfA:Code:=sub [1,1,1,0,1,2,3] (code f147)
def tmDfA (v n:Nat) (i j:Int):List AV:= [.gref 2 v n 3, .fn (.func 148) [] [.ptr 1 0, .ptr 0 0], .bad, .bad, .bad, .d (i64 i), .d (i64 j)]++Zap 35 .bad
def UDrA:List (Nat×(List AV→List Blk→(AV→List Blk→Prop)→Prop)):= [(1000000+63,fun _ _ _=>False),(148,lendC BHl9)]
theorem CEj9:AAl9 prog UDrA:=Zbw (fun _ _ _ h=>h.elim) (Zbw (AFl9 ASl9) Zah)
def hpDfA (sl:Int) (v':Nat) (cs:List AV):List Blk:= [boxA (.fn (.func 118) [] []),boxA (.fn (.func 138) [] [.rptr [i64 sl]]),growB v' cs]
theorem rDfA (v' n:Nat) (i j sl:Int) (cs:List AV):wpc prog ⟨[],UDrA,wl,y,false⟩ 100 lpDfA (tmDfA v' n i j) (hpDfA sl v' cs) b (maskK 3 [0,1,5,6] K)=(v'=v'∧BIf (decide (j<(n:Int))) (v'=v'∧BIf (decide (0≤j)&&decide (j<(n:Int))) (v'=v'∧∃(x0:Int) (x1:Int) (x2:Int),Zbs 3 (Zcf (Zam j*3) cs)=(Qz29 x0 x1 x2)∧∃(x3:AskT) (sl4:Int) (q5:Bool), [Zar (Qz29 x0 x1 x2),Zag [Zcu (Fn.func 138) [Zdu [i64 sl]]],Zag [Zcu (Fn.func 118) []]]= [Zar (Qz13 x3),Zag [Zcu (Fn.func 138) [Zdu [i64 sl4]]],Zag [Zcu (Fn.func 118) []]]∧q5=(Zcs x3==sl4)∧BIf (!q5) (v'=v'∧BIf (decide (0≤i)&&decide (i<(n:Int))) (v'=v'∧BIf (decide (Zam i*3+3≤Zaa cs)) (BIf (Zbo [Blk.mk [Zaw (Fn.func 118) [] []] false false 0,Blk.mk [Zaw (Fn.func 138) [] [Zag [i64 sl]]] false false 0,Blk.mk (Zbs (Zam i*3) cs++(Qz29 x0 x1 x2)++Zcf (Zam i*3+3) cs) false true v'] fun (blk6:Blk)=>lows 3 blk6.1) (K .normal (Zbl 2 v' n 3::Zaw (Fn.func 148) [] [Zaf 1 0,Zaf 0 0]::bds 3 (Zae (i64 (Zad .i64 (i+1)))::Zae (i64 (Zad .i64 (j+1)))::bds 35 [])) [Blk.mk [Zaw (Fn.func 118) [] []] false false 0,Blk.mk [Zaw (Fn.func 138) [] [Zag [i64 sl]]] false false 0,Blk.mk (Zbs (Zam i*3) cs++(Qz29 x0 x1 x2)++Zcf (Zam i*3+3) cs) false true v'] b) False) False) False) (BIf (Zbo [Blk.mk [Zaw (Fn.func 118) [] []] false false 0,Blk.mk [Zaw (Fn.func 138) [] [Zag [i64 sl]]] false false 0,Blk.mk cs false true v'] fun (blk7:Blk)=>lows 3 blk7.1) (K .normal (Zbl 2 v' n 3::Zaw (Fn.func 148) [] [Zaf 1 0,Zaf 0 0]::bds 3 (Zae (i64 i)::Zae (i64 (Zad .i64 (j+1)))::bds 35 [])) [Blk.mk [Zaw (Fn.func 118) [] []] false false 0,Blk.mk [Zaw (Fn.func 138) [] [Zag [i64 sl]]] false false 0,Blk.mk cs false true v'] b) False)) False) (BIf (Zbo [Blk.mk [Zaw (Fn.func 118) [] []] false false 0,Blk.mk [Zaw (Fn.func 138) [] [Zag [i64 sl]]] false false 0,Blk.mk cs false true v'] fun (blk8:Blk)=>lows 3 blk8.1) (K (Zbn 0) (Zbl 2 v' n 3::Zaw (Fn.func 148) [] [Zaf 1 0,Zaf 0 0]::bds 3 (Qz60 i j)) [Blk.mk [Zaw (Fn.func 118) [] []] false false 0,Blk.mk [Zaw (Fn.func 138) [] [Zag [i64 sl]]] false false 0,Blk.mk cs false true v'] b) False)):=by kernel_rfl
theorem BFm9 (sl:Int) (v':Nat) (hs:List AskT):Zbo (hpDfA sl v' (flatA (rowsA hs))) (fun blk=>lows 3 blk.1)=true:=by
 simp only [hpDfA,List.all_cons,List.all_nil,Bool.and_true,Zak];exact ⟨rfl,rfl,ACu9 3 _⟩
theorem wrDfA {Ev:Env prog} {b:Ev.β} {Q:Exit→St Ev.β→Prop} (v':Nat) (sl:Int) (hs:List AskT) (hl:hs.length<1000000)
 (hQ:∀cur:List AskT,cur.length=hs.length→cur.take (hs.filter fun x=> !(fun x:AskT=>x.sl==sl) x).length=(hs.filter fun x=> !(fun x:AskT=>x.sl==sl) x)→Q (.exit 0) ⟨tmDfA v' hs.length ((hs.filter fun x=> !(fun x:AskT=>x.sl==sl) x).length:Nat) hs.length,hpDfA sl v' (flatA (rowsA cur)),b⟩)
 (j:Nat) (hj:hs.findIdx? (fun x:AskT=>x.sl==sl)=some j):WR Ev lpDfA ((hs.drop (j+1)).length+1) ⟨tmDfA v' hs.length (j:Nat) ((j+1:Nat):Int),hpDfA sl v' (flatA (rowsA hs)),b⟩ Q:=by
 obtain ⟨hj1,hj2⟩:=AFs9 hj;refine WR.delL (X:=⟨[],UDrA,wlW Ev,Ev.Y,false⟩) (k:=100) (L:=3) [0,1,5,6] mixed (CX.Ok.of Zaj CEj9) hs (fun x:AskT=>x.sl==sl) (fun i j=>tmDfA v' hs.length (i:Nat) (j:Nat)) (fun c=>hpDfA sl v' (flatA (rowsA c))) (fun _=>rfl) 0 (fun i j cur x hx hi hj hcl K k1 k2=> ?_) (fun i cur K hcl k1=> ?_) hQ (hs.drop (j+1)) (j+1) j hs rfl hj1 (by omega) rfl hj2 rfl
 ·refine Eq.mpr (rDfA _ _ _ K v' hs.length i j sl _) ?_;refine ⟨rfl,Zaz (by simp;omega) ⟨rfl,Zaz (by simp;omega) ⟨rfl,_,_,_,by rw [Zco];exact fl_at AMe9 hx,x,sl,_,rfl,rfl,Zba (fun h1=> ?_) fun h1=> ?_⟩⟩⟩
  ·rw [Zcp] at h1;have hk2:=k2 h1;have e:=BVc9 AMe9 (hs:=cur) (i:=i) (by omega) x;refine ⟨rfl,Zaz (by simp;omega) ⟨rfl,Zaz (by rw [Zco];have:=AZj9 AMe9 cur;rw [show flatA (rowsA cur)=flatA (cur.map askR) from rfl,this];simp;omega) ?_⟩⟩;rw [Zco,wrapN (by omega),wrapN (by omega)];have hlow:=BFm9 sl v' (cur.set i x);simp only [hpDfA,rowsA] at hk2 hlow;rw [←e] at hk2 hlow;exact Zaz hlow hk2
  ·rw [Zek] at h1;rw [wrapN (by omega)];exact Zaz (BFm9 sl v' cur) (k1 h1)
 ·refine Eq.mpr (rDfA _ _ _ K v' hs.length i hs.length sl _) ?_;exact ⟨rfl,Zdf (by simp) (Zaz (BFm9 sl v' cur) k1)⟩
def BZj9 {β:Type}:WLT β:=fun c tm hp b K=>∃(v':Nat) (sl i j:Int) (hs out:List AskT),c= .loop lpDfA∧AAx9 [0,1,5,6] 0 tm=tmDfA v' hs.length i j∧hp=hpDfA sl v' (flatA (rowsA hs))∧(hs.length<1000000∧0≤i∧i=idxS (fun x:AskT=>x.sl==sl) hs∧j=Zad Zbc (i+1)∧out=hs.filter fun x=> !(fun x:AskT=>x.sl==sl) x)∧
 ∀(cur:List AskT),cur.length=hs.length→cur.take out.length=out→K (.exit 0) (tmDfA v' hs.length (out.length:Nat) hs.length) (hpDfA sl v' (flatA (rowsA cur))) b
theorem BJf9 {Ev:Env prog} (c:Code) (tm:List AV) (hp:List Blk) (b:Ev.β) (K:Exit→List AV→List Blk→Ev.β→Prop) (h:BZj9 c tm hp b K):W Ev c ⟨tm,hp,b⟩ (fun e s=>K e s.tm s.hp s.b):=by
 obtain ⟨v',sl,i,j,hs,_,rfl,htm,rfl,⟨hl,h0,hi,rfl,rfl⟩,hK⟩:=h;cases hf:hs.findIdx? (fun x:AskT=>x.sl==sl) with
 |none=>rw [AAy9 hf] at hi;omega
 | some j0=>
  rw [AAh9 hf] at hi;subst hi;have hj1:=(AFs9 hf).1;rw [wrapN (by omega)] at htm;refine W.cast (htm▸AAc9 _ tm 0) (Zbu _) ?_;exact W.rounds (wrDfA (Q:=fun e s=>K e s.tm s.hp s.b) v' sl hs hl hK j0 hf)
def TDfA:List (Nat×(List AV→(AV→Prop)→Prop)):= [(4000011,cNone)]
theorem BQn9:AAb9 prog TDfA:=Zai (ABx9 _) Zaj
def UDfA:List (Nat×(List AV→List Blk→(AV→List Blk→Prop)→Prop)):= [(1000000+63,fun _ _ _=>False),(90,lendC BGp9)]
theorem BQl9:AAl9 prog UDfA:=Zbw (fun _ _ _ h=>h.elim) (Zbw (AFl9 AZx9) Zah)
def wlDfA {β:Type} (y:ACw9 β):WLT β:=wlZ prog ⟨TDfA,UDfA,fun _ _ _ _ _=>False,y,false⟩ BZj9
theorem CDa9 (v' n:Nat) (sl:Int) (cs:List AV):wpc prog ⟨TDfA,UDfA,wlDfA y,y,false⟩ 100 (code f147) (ACe9 f147 [.gref 2 v' n 3, .fn (.func 148) [] [.ptr 1 0, .ptr 0 0]]) (hpDfA sl v' cs) b (fnKS prog f147 Kr)=(v'=v'∧∃(xs0:List (List Dv)),cs=flatA xs0∧Zaa xs0=n∧(∀(r:List Dv),r∈xs0→Zaa r=3)∧∃(l1:List AskT) (sl2:Int) (q3:Int), [Zae (Zan 3 xs0),Zaw (Fn.func 148) [] [Zag [Zcu (Fn.func 138) [Zdu [i64 sl]]],Zag [Zcu (Fn.func 118) []]]]= [Zae (Zan 3 (rowsA l1)),Zaw (Fn.func 148) [] [Zag [Zcu (Fn.func 138) [Zdu [i64 sl2]]],Zag [Zcu (Fn.func 118) []]]]∧(Zaa l1≤9223372036854775807∧q3=idxS (fun (x4:AskT)=>Zcs x4==sl2) l1)∧BIf (q3==(-1:Int)) (Kr (Zbl 2 v' n 3) [Blk.mk [Zaw (Fn.func 118) [] []] false false 0,Blk.mk [Zaw (Fn.func 138) [] [Zag [i64 sl]]] false false 0,Blk.mk cs false true v'] b) (∃(v5:Nat) (sl6:Int) (i7:Int) (j8:Int) (hs9:List AskT) (out10:List AskT),Zav lpDfA=Zav lpDfA∧(Zbl 2 v' n 3::Zaw (Fn.func 148) [] [Zaf 1 0,Zaf 0 0]::bds 3 (Zae (i64 q3)::Zae (i64 (Zad .i64 (q3+1)))::bds 35 []))=(Zbl 2 v5 (Zaa hs9) 3::Zaw (Fn.func 148) [] [Zaf 1 0,Zaf 0 0]::bds 3 (Qz60 i7 j8))∧ [Blk.mk [Zaw (Fn.func 118) [] []] false false 0,Blk.mk [Zaw (Fn.func 138) [] [Zag [i64 sl]]] false false 0,Blk.mk cs false true v']= [Blk.mk [Zaw (Fn.func 118) [] []] false false 0,Blk.mk [Zaw (Fn.func 138) [] [Zag [i64 sl6]]] false false 0,Blk.mk (flatA (rowsA hs9)) false true v5]∧(Zaa hs9<1000000∧(0:Int)≤i7∧i7=idxS (fun (x11:AskT)=>Zcs x11==sl6) hs9∧j8=Zad .i64 (i7+1)∧out10=Zcn (fun (x12:AskT)=> !AskT.sl x12==sl6) hs9)∧∀(cur:List AskT),Zaa cur=Zaa hs9→Zbs (Zaa out10) cur=out10→v5=v5∧BIf (true&&decide (((Zaa out10:Nat):Int)≤((Zaa hs9:Nat):Int))) (BIf (true&&decide (((Zaa out10:Nat):Int)≤((Zaa hs9:Nat):Int))) (v5=v5∧Kr (Zbl 2 (v5+1) (Zam ((Zaa out10:Nat):Int)) 3) [Blk.mk [Zaw (Fn.func 118) [] []] false false 0,Blk.mk [Zaw (Fn.func 138) [] [Zag [i64 sl6]]] false false 0,Blk.mk (Zbs (Zam ((Zaa out10:Nat):Int)*3) (Zbs (Zam ((Zaa out10:Nat):Int)*3) (flatA (rowsA cur))++flatA (Zap (Zaa hs9 - Zam ((Zaa out10:Nat):Int)) [i64 0,i64 0,i64 0]))) false true (v5+1)] b) False) False)):=by kernel_rfl
theorem BVr9 (sl:Int):wpc prog ⟨TDfA,UDfA,wlDfA y,y,false⟩ 100 (code f147) (ACe9 f147 [.d (.sl 3 []), .fn (.func 148) [] [.ptr 1 0, .ptr 0 0]]) [boxA (.fn (.func 118) [] []),boxA (.fn (.func 138) [] [.rptr [i64 sl]])] b (fnKS prog f147 Kr)=(∃(l0:List AskT) (sl1:Int) (q2:Int), [Zae (Zan 3 []),Zaw (Fn.func 148) [] [Zag [Zcu (Fn.func 138) [Zdu [i64 sl]]],Zag [Zcu (Fn.func 118) []]]]= [Zae (Zan 3 (rowsA l0)),Zaw (Fn.func 148) [] [Zag [Zcu (Fn.func 138) [Zdu [i64 sl1]]],Zag [Zcu (Fn.func 118) []]]]∧(Zaa l0≤9223372036854775807∧q2=idxS (fun (x3:AskT)=>Zcs x3==sl1) l0)∧BIf (q2==(-1:Int)) (Kr (Zae (Zan 3 [])) [Blk.mk [Zaw (Fn.func 118) [] []] false false 0,Blk.mk [Zaw (Fn.func 138) [] [Zag [i64 sl]]] false false 0] b) (∃(v4:Nat) (sl5:Int) (i6:Int) (j7:Int) (hs8:List AskT) (out9:List AskT),Zav lpDfA=Zav lpDfA∧(Zae (Zan 3 [])::Zaw (Fn.func 148) [] [Zaf 1 0,Zaf 0 0]::bds 3 (Zae (i64 q2)::Zae (i64 (Zad .i64 (q2+1)))::bds 35 []))=(Zbl 2 v4 (Zaa hs8) 3::Zaw (Fn.func 148) [] [Zaf 1 0,Zaf 0 0]::bds 3 (Qz60 i6 j7))∧ [Blk.mk [Zaw (Fn.func 118) [] []] false false 0,Blk.mk [Zaw (Fn.func 138) [] [Zag [i64 sl]]] false false 0]= [Blk.mk [Zaw (Fn.func 118) [] []] false false 0,Blk.mk [Zaw (Fn.func 138) [] [Zag [i64 sl5]]] false false 0,Blk.mk (flatA (rowsA hs8)) false true v4]∧(Zaa hs8<1000000∧(0:Int)≤i6∧i6=idxS (fun (x10:AskT)=>Zcs x10==sl5) hs8∧j7=Zad .i64 (i6+1)∧out9=Zcn (fun (x11:AskT)=> !AskT.sl x11==sl5) hs8)∧∀(cur:List AskT),Zaa cur=Zaa hs8→Zbs (Zaa out9) cur=out9→v4=v4∧BIf (true&&decide (((Zaa out9:Nat):Int)≤((Zaa hs8:Nat):Int))) (BIf (true&&decide (((Zaa out9:Nat):Int)≤((Zaa hs8:Nat):Int))) (v4=v4∧Kr (Zbl 2 (v4+1) (Zam ((Zaa out9:Nat):Int)) 3) [Blk.mk [Zaw (Fn.func 118) [] []] false false 0,Blk.mk [Zaw (Fn.func 138) [] [Zag [i64 sl5]]] false false 0,Blk.mk (Zbs (Zam ((Zaa out9:Nat):Int)*3) (Zbs (Zam ((Zaa out9:Nat):Int)*3) (flatA (rowsA cur))++flatA (Zap (Zaa hs8 - Zam ((Zaa out9:Nat):Int)) [i64 0,i64 0,i64 0]))) false true (v4+1)] b) False) False)):=by kernel_rfl
def GCU:List (Nat×(List AV→List Blk→(AV→List Blk→Prop)→Prop)):= [(1000000+61,fun _ _ _=>False)]
theorem BXw9:AAl9 prog GCU:=Zbw (fun _ _ _ h=>h.elim) Zah
theorem BLx9 (xs:List (List Dv)):wpFnS prog ⟨[],GCU,wl,y,false⟩ 100 f93 [.d (.sl 4 xs)] b Kr=(∀(t:Bool),(t=true→xs= [])→BIf t (Kr (Zae (Zdx (.slice none 0 0))) [] b) (BIf (true&&decide (Zaa xs*32≤140737488355328)) (BIf (decide (0<Zaa xs)) (Kr (Zbl 0 0 (Zaa xs) 4) [Blk.mk (flatA xs) false true 0] b) (Kr (Zfx 4 []) [] b)) False)):=by kernel_rfl
theorem BVf9:ASs9 prog 93 4:=fun xs hl=>by
 refine Zgq (n:=100) (u:=false) (fun _=>fun _ _ _ _ _=>False) mixed Zaj BXw9 (fun Ev _ _ _ _ _ h=>h.elim) func93 (by rfl) (by rfl) (by split<;>rfl) fun Ev bb=> ?_;rw [BLx9];refine fun t ht=>Zba (fun h=>by rw [ht h];exact ⟨.nilFull rfl,rfl⟩) fun h=>Zaz (by simp<;>omega) ?_;cases xs with
 |nil=>exact Zdf rfl ⟨.rfl,rfl⟩
 |cons a xs=>exact Zaz (by simp) ⟨.rfl,rfl⟩
theorem BOg9 (l:List UseT):∀r∈rowsU l,r.length=4:=by
 intro r hr;simp only [rowsU,Zbj] at hr;obtain ⟨x,_,rfl⟩:=hr;rfl
def BHd9 (args:List AV) (K:AV→Prop):Prop:=∃l:List UseT,args= [.d (.sl 4 (rowsU l))]∧l.length≤1000000∧K (.d (.sl 4 (rowsU l)))
theorem ASj9:∀args K,BHd9 args K→∃x,PCall prog 93 args x∧K x:=by
 rintro _ K ⟨l,rfl,hl,hk⟩;exact ⟨_,ASs9.pc BVf9 (rowsU l) (by rw [AAj9];exact hl) (BOg9 l),hk⟩
theorem AWn9:Tryz.f131.body=some (code f131):=by rfl
def delVG (v':Nat) (fr:Int) (hs:List GraT):Nat:=if (hs.findIdx? (fun x:GraT=>decide (x.un<fr))).isSome then v'+1 else v'
theorem CCz9 (Ev:Env prog):CX.Ok Ev ⟨TDfG,UDfG,wlDfG Ev.Y,Ev.Y,false⟩:=
 CX.Ok.ofWl BQm9 BQk9 (BYm9 (X:=⟨TDfG,UDfG,fun _ _ _ _ _=>False,Ev.Y,false⟩) (CX.Ok.ofWl BQm9 BQk9 fun _ _ _ _ _ h=>h.elim) BJe9)
theorem BZz9 (fr:Int):SCall prog 131 [.d (.sl 5 []), .fn (.func 132) [] [.ptr 1 0, .ptr 0 0]] [boxA (.fn (.func 95) [] []),boxA (.fn (.func 96) [] [.rptr [i64 fr]])] (.d (.sl 5 [])) [boxA (.fn (.func 95) [] []),boxA (.fn (.func 96) [] [.rptr [i64 fr]])]:=by
 refine Zgj func131 AWn9 (by rfl) fun Ev b=> ?_;refine AAw9 (X:=⟨TDfG,UDfG,wlDfG Ev.Y,Ev.Y,false⟩) (n:=100) mixed (CCz9 Ev) ?_ fun e tm hp b hK=>AEv9 hK;rw [BVq9];exact ⟨[],fr, -1,rfl,⟨by simp,rfl⟩,Zaz (by decide) ⟨rfl,rfl⟩⟩
theorem CFl9 (v':Nat) (fr:Int) (hs:List GraT) (hl:hs.length<1000000):
 SCall prog 131 [.gref 2 v' hs.length 5, .fn (.func 132) [] [.ptr 1 0, .ptr 0 0]] (hpDfG fr v' (flatA (rowsG hs))) (.gref 2 (delVG v' fr hs) (hs.filter (fun x:GraT=> !(fun x:GraT=>decide (x.un<fr)) x)).length 5) (hpDfG fr (delVG v' fr hs) (flatA (rowsG (hs.filter (fun x:GraT=> !(fun x:GraT=>decide (x.un<fr)) x))))):=by
 refine Zgj func131 AWn9 (by rfl) fun Ev b=> ?_;refine AAw9 (X:=⟨TDfG,UDfG,wlDfG Ev.Y,Ev.Y,false⟩) (n:=100) mixed (CCz9 Ev) ?_ fun e tm hp b hK=>AEv9 hK;refine Eq.mpr (CCy9 _ _ _ v' hs.length fr _) ?_;refine ⟨rfl,rowsG hs,rfl,AAe9 hs,AQq9 hs,hs,fr,_,rfl,⟨by omega,rfl⟩,Zba (fun h1=> ?_) fun h1=> ?_⟩
 ·have hn:hs.findIdx? (fun x:GraT=>decide (x.un<fr))=none:=by
   cases hf:hs.findIdx? (fun x:GraT=>decide (x.un<fr)) with
   |none=>rfl
   |some j=>rw [AAh9 hf] at h1;simp at h1
  rw [delVG,hn,BEz9 hn];exact ⟨rfl,rfl⟩
 ·cases hf:hs.findIdx? (fun x:GraT=>decide (x.un<fr)) with
  |none=>rw [AAy9 hf] at h1;simp at h1
  | some j=>
   have hle:(hs.filter (fun x:GraT=> !(fun x:GraT=>decide (x.un<fr)) x)).length≤hs.length:=Zfv _ _;refine ⟨v',fr,_,_,hs,_,rfl,rfl,rfl,⟨hl,by rw [AAh9 hf];omega,rfl,rfl,rfl⟩,fun cur hcl hct=>⟨rfl,Zaz (by simp;exact hle) (Zaz (by simp;exact hle) ⟨rfl, ?_⟩)⟩⟩;rw [Zco,delVG,hf];refine ⟨rfl, ?_⟩;have hcur:flatA (rowsG cur)=flatA (cur.map graR):=rfl;have e:((flatA (rowsG cur)).take ((hs.filter (fun x:GraT=> !(fun x:GraT=>decide (x.un<fr)) x)).length*5)).length=(hs.filter (fun x:GraT=> !(fun x:GraT=>decide (x.un<fr)) x)).length*5:=by
    rw [Zca,hcur,AZj9 AFp9,hcl];omega
   rw [Zev (by rw [e];exact Zax _),List.take_take,Nat.min_self,hcur,ASb9 AFp9,hct];rfl
def sDelG (args:List AV) (hp:List Blk) (K:AV→List Blk→Prop):Prop:=match hp with
 | [b0,b1]=>∃(fr:Int),args= [.d (.sl 5 []), .fn (.func 132) [] [.ptr 1 0, .ptr 0 0]]∧b0=boxA (.fn (.func 95) [] [])∧b1=boxA (.fn (.func 96) [] [.rptr [i64 fr]])∧K (.d (.sl 5 [])) [boxA (.fn (.func 95) [] []),boxA (.fn (.func 96) [] [.rptr [i64 fr]])]
 | [b0,b1,b2]=>∃(v' n:Nat) (fr:Int) (hs out:List GraT),args= [.gref 2 v' n 5, .fn (.func 132) [] [.ptr 1 0, .ptr 0 0]]∧b0=boxA (.fn (.func 95) [] [])∧b1=boxA (.fn (.func 96) [] [.rptr [i64 fr]])∧b2=growB v' (flatA (rowsG hs))∧(n=hs.length∧hs.length<1000000∧out=hs.filter (fun x:GraT=> !(fun x:GraT=>decide (x.un<fr)) x))∧
  ∀v',K (.gref 2 v' out.length 5) [boxA (.fn (.func 95) [] []),boxA (.fn (.func 96) [] [.rptr [i64 fr]]),growB v' (flatA (rowsG out))]
 |_=>False
theorem BSm9:∀args hp K,sDelG args hp K→∃x hp',SCall prog 131 args hp x hp'∧K x hp':=by
 intro args hp K h;unfold sDelG at h;split at h
 ·obtain ⟨fr,rfl,rfl,rfl,h⟩:=h;exact ⟨_,_,BZz9 fr,h⟩
 ·obtain ⟨v',_,fr,hs,_,rfl,rfl,rfl,rfl,⟨rfl,hl,rfl⟩,h⟩:=h;exact ⟨_,_,CFl9 v' fr hs hl,h _⟩
 ·exact h.elim
def UWoG:List (Nat×(List AV→List Blk→(AV→List Blk→Prop)→Prop)):= [(1000000+59,fun _ _ _=>False),(48,BCs9),(131,sDelG)]
theorem CEe9:AAl9 prog UWoG:=Zbw (fun _ _ _ h=>h.elim) (Zbw AQo9 (Zbw BSm9 Zah))
theorem CFg9 (hs:List GraT) (fr:Int):wpFn prog ⟨[],UWoG,wl,y,false⟩ 100 f94 [.d (.sl 5 (rowsG hs)), .fn (.func 95) [] [], .fn (.func 96) [] [.rptr [i64 fr]]] b R=(∃(hs0:List GraT), [Zae (Zan 5 (rowsG hs))]= [Zae (Zan 5 (rowsG hs0))]∧Zaa hs0≤1000000∧BIf (Zfs hs0) (∃(fr1:Int), [Zae (Zan 5 []),Zaw (Fn.func 132) [] [Zaf 1 0,Zaf 0 0]]= [Zae (Zan 5 []),Zaw (Fn.func 132) [] [Zaf 1 0,Zaf 0 0]]∧Blk.mk [Zaw (Fn.func 95) [] []] false false 0=Blk.mk [Zaw (Fn.func 95) [] []] false false 0∧Blk.mk [Zaw (Fn.func 96) [] [Zag [i64 fr]]] false false 0=Blk.mk [Zaw (Fn.func 96) [] [Zag [i64 fr1]]] false false 0∧R (.d (Zan 5 [])) b) (∃(v2:Nat) (n3:Nat) (fr4:Int) (hs5:List GraT) (out6:List GraT), [Zbl 2 0 (Zaa hs0) 5,Zaw (Fn.func 132) [] [Zaf 1 0,Zaf 0 0]]= [Zbl 2 v2 n3 5,Zaw (Fn.func 132) [] [Zaf 1 0,Zaf 0 0]]∧Blk.mk [Zaw (Fn.func 95) [] []] false false 0=Blk.mk [Zaw (Fn.func 95) [] []] false false 0∧Blk.mk [Zaw (Fn.func 96) [] [Zag [i64 fr]]] false false 0=Blk.mk [Zaw (Fn.func 96) [] [Zag [i64 fr4]]] false false 0∧Blk.mk (flatA (rowsG hs0)) false true 0=Blk.mk (flatA (rowsG hs5)) false true v2∧(n3=Zaa hs5∧Zaa hs5<1000000∧out6=Zcn (fun (x7:GraT)=> !decide (Zdt x7<fr4)) hs5)∧∀(v':Nat),v'=v'∧∃(xs8:List (List Dv)),flatA (rowsG out6)=flatA xs8∧Zaa xs8=Zaa out6∧(∀(r:List Dv),r∈xs8→Zaa r=5)∧R (.d (Zan 5 xs8)) b)):=by kernel_rfl
theorem pcWoG (hs:List GraT) (fr:Int) (hl:hs.length<1000000):PCall prog 94 [.d (.sl 5 (rowsG hs)), .fn (.func 95) [] [], .fn (.func 96) [] [.rptr [i64 fr]]] (.d (.sl 5 (rowsG (hs.filter (fun x:GraT=> !(fun x:GraT=>decide (x.un<fr)) x))))):=by
 refine Zbg (n:=100) (u:=false) mixed Zaj CEe9 func94 (by rfl) (by rfl) fun Ev bb=> ?_;rw [CFg9];refine ⟨hs,rfl,by omega,Zba (fun h1=> ?_) fun h1=> ?_⟩
 ·have h2:hs= []:=List.isEmpty_iff.1 h1;subst h2;exact ⟨fr,rfl,rfl,rfl,rfl⟩
 ·refine ⟨0,_,fr,hs,_,rfl,rfl,rfl,rfl,⟨rfl,hl,rfl⟩,fun v'=>⟨rfl,rowsG (hs.filter (fun x:GraT=> !(fun x:GraT=>decide (x.un<fr)) x)),rfl,AAe9 _,AQq9 _,rfl⟩⟩
def cWoG (args:List AV) (K:AV→Prop):Prop:=∃(hs z:List GraT) (fr:Int),args= [.d (.sl 5 (rowsG hs)), .fn (.func 95) [] [], .fn (.func 96) [] [.rptr [i64 fr]]]∧(hs.length<1000000∧z=hs.filter (fun x:GraT=> !(fun x:GraT=>decide (x.un<fr)) x))∧K (.d (.sl 5 (rowsG z)))
theorem CDe9:∀args K,cWoG args K→∃x,PCall prog 94 args x∧K x:=by
 rintro _ K ⟨hs,_,fr,rfl,⟨hl,rfl⟩,hk⟩;exact ⟨_,pcWoG hs fr hl,hk⟩
theorem AWo9:Tryz.f147.body=some (code f147):=by rfl
def delVA (v':Nat) (sl:Int) (hs:List AskT):Nat:=if (hs.findIdx? (fun x:AskT=>x.sl==sl)).isSome then v'+1 else v'
theorem CDb9 (Ev:Env prog):CX.Ok Ev ⟨TDfA,UDfA,wlDfA Ev.Y,Ev.Y,false⟩:=
 CX.Ok.ofWl BQn9 BQl9 (BYm9 (X:=⟨TDfA,UDfA,fun _ _ _ _ _=>False,Ev.Y,false⟩) (CX.Ok.ofWl BQn9 BQl9 fun _ _ _ _ _ h=>h.elim) BJf9)
theorem CAa9 (sl:Int):SCall prog 147 [.d (.sl 3 []), .fn (.func 148) [] [.ptr 1 0, .ptr 0 0]] [boxA (.fn (.func 118) [] []),boxA (.fn (.func 138) [] [.rptr [i64 sl]])] (.d (.sl 3 [])) [boxA (.fn (.func 118) [] []),boxA (.fn (.func 138) [] [.rptr [i64 sl]])]:=by
 refine Zgj func147 AWo9 (by rfl) fun Ev b=> ?_;refine AAw9 (X:=⟨TDfA,UDfA,wlDfA Ev.Y,Ev.Y,false⟩) (n:=100) mixed (CDb9 Ev) ?_ fun e tm hp b hK=>AEv9 hK;rw [BVr9];exact ⟨[],sl, -1,rfl,⟨by simp,rfl⟩,Zaz (by decide) ⟨rfl,rfl⟩⟩
theorem CFm9 (v':Nat) (sl:Int) (hs:List AskT) (hl:hs.length<1000000):
 SCall prog 147 [.gref 2 v' hs.length 3, .fn (.func 148) [] [.ptr 1 0, .ptr 0 0]] (hpDfA sl v' (flatA (rowsA hs))) (.gref 2 (delVA v' sl hs) (hs.filter (fun x:AskT=> !(fun x:AskT=>x.sl==sl) x)).length 3) (hpDfA sl (delVA v' sl hs) (flatA (rowsA (hs.filter (fun x:AskT=> !(fun x:AskT=>x.sl==sl) x))))):=by
 refine Zgj func147 AWo9 (by rfl) fun Ev b=> ?_;refine AAw9 (X:=⟨TDfA,UDfA,wlDfA Ev.Y,Ev.Y,false⟩) (n:=100) mixed (CDb9 Ev) ?_ fun e tm hp b hK=>AEv9 hK;refine Eq.mpr (CDa9 _ _ _ v' hs.length sl _) ?_;refine ⟨rfl,rowsA hs,rfl,AAo9 hs,ANa9 hs,hs,sl,_,rfl,⟨by omega,rfl⟩,Zba (fun h1=> ?_) fun h1=> ?_⟩
 ·have hn:hs.findIdx? (fun x:AskT=>x.sl==sl)=none:=by
   cases hf:hs.findIdx? (fun x:AskT=>x.sl==sl) with
   |none=>rfl
   |some j=>rw [AAh9 hf] at h1;simp at h1
  rw [delVA,hn,BEz9 hn];exact ⟨rfl,rfl⟩
 ·cases hf:hs.findIdx? (fun x:AskT=>x.sl==sl) with
  |none=>rw [AAy9 hf] at h1;simp at h1
  | some j=>
   have hle:(hs.filter (fun x:AskT=> !(fun x:AskT=>x.sl==sl) x)).length≤hs.length:=Zfv _ _;refine ⟨v',sl,_,_,hs,_,rfl,rfl,rfl,⟨hl,by rw [AAh9 hf];omega,rfl,rfl,rfl⟩,fun cur hcl hct=>⟨rfl,Zaz (by simp;exact hle) (Zaz (by simp;exact hle) ⟨rfl, ?_⟩)⟩⟩;rw [Zco,delVA,hf];refine ⟨rfl, ?_⟩;have hcur:flatA (rowsA cur)=flatA (cur.map askR):=rfl;have e:((flatA (rowsA cur)).take ((hs.filter (fun x:AskT=> !(fun x:AskT=>x.sl==sl) x)).length*3)).length=(hs.filter (fun x:AskT=> !(fun x:AskT=>x.sl==sl) x)).length*3:=by
    rw [Zca,hcur,AZj9 AMe9,hcl];omega
   rw [Zev (by rw [e];exact Zax _),List.take_take,Nat.min_self,hcur,ASb9 AMe9,hct];rfl
def sDelA (args:List AV) (hp:List Blk) (K:AV→List Blk→Prop):Prop:=match hp with
 | [b0,b1]=>∃(sl:Int),args= [.d (.sl 3 []), .fn (.func 148) [] [.ptr 1 0, .ptr 0 0]]∧b0=boxA (.fn (.func 118) [] [])∧b1=boxA (.fn (.func 138) [] [.rptr [i64 sl]])∧K (.d (.sl 3 [])) [boxA (.fn (.func 118) [] []),boxA (.fn (.func 138) [] [.rptr [i64 sl]])]
 | [b0,b1,b2]=>∃(v' n:Nat) (sl:Int) (hs out:List AskT),args= [.gref 2 v' n 3, .fn (.func 148) [] [.ptr 1 0, .ptr 0 0]]∧b0=boxA (.fn (.func 118) [] [])∧b1=boxA (.fn (.func 138) [] [.rptr [i64 sl]])∧b2=growB v' (flatA (rowsA hs))∧(n=hs.length∧hs.length<1000000∧out=hs.filter (fun x:AskT=> !(fun x:AskT=>x.sl==sl) x))∧
  ∀v',K (.gref 2 v' out.length 3) [boxA (.fn (.func 118) [] []),boxA (.fn (.func 138) [] [.rptr [i64 sl]]),growB v' (flatA (rowsA out))]
 |_=>False
theorem BSn9:∀args hp K,sDelA args hp K→∃x hp',SCall prog 147 args hp x hp'∧K x hp':=by
 intro args hp K h;unfold sDelA at h;split at h
 ·obtain ⟨sl,rfl,rfl,rfl,h⟩:=h;exact ⟨_,_,CAa9 sl,h⟩
 ·obtain ⟨v',_,sl,hs,_,rfl,rfl,rfl,rfl,⟨rfl,hl,rfl⟩,h⟩:=h;exact ⟨_,_,CFm9 v' sl hs hl,h _⟩
 ·exact h.elim
def UWoA:List (Nat×(List AV→List Blk→(AV→List Blk→Prop)→Prop)):= [(1000000+63,fun _ _ _=>False),(97,BOf9),(147,sDelA)]
theorem CEf9:AAl9 prog UWoA:=Zbw (fun _ _ _ h=>h.elim) (Zbw BCt9 (Zbw BSn9 Zah))
theorem CFh9 (hs:List AskT) (sl:Int):wpFn prog ⟨[],UWoA,wl,y,false⟩ 100 f137 [.d (.sl 3 (rowsA hs)), .fn (.func 118) [] [], .fn (.func 138) [] [.rptr [i64 sl]]] b R=(∃(hs0:List AskT), [Zae (Zan 3 (rowsA hs))]= [Zae (Zan 3 (rowsA hs0))]∧Zaa hs0≤1000000∧BIf (Zfs hs0) (∃(sl1:Int), [Zae (Zan 3 []),Zaw (Fn.func 148) [] [Zaf 1 0,Zaf 0 0]]= [Zae (Zan 3 []),Zaw (Fn.func 148) [] [Zaf 1 0,Zaf 0 0]]∧Blk.mk [Zaw (Fn.func 118) [] []] false false 0=Blk.mk [Zaw (Fn.func 118) [] []] false false 0∧Blk.mk [Zaw (Fn.func 138) [] [Zag [i64 sl]]] false false 0=Blk.mk [Zaw (Fn.func 138) [] [Zag [i64 sl1]]] false false 0∧R (.d (Zan 3 [])) b) (∃(v2:Nat) (n3:Nat) (sl4:Int) (hs5:List AskT) (out6:List AskT), [Zbl 2 0 (Zaa hs0) 3,Zaw (Fn.func 148) [] [Zaf 1 0,Zaf 0 0]]= [Zbl 2 v2 n3 3,Zaw (Fn.func 148) [] [Zaf 1 0,Zaf 0 0]]∧Blk.mk [Zaw (Fn.func 118) [] []] false false 0=Blk.mk [Zaw (Fn.func 118) [] []] false false 0∧Blk.mk [Zaw (Fn.func 138) [] [Zag [i64 sl]]] false false 0=Blk.mk [Zaw (Fn.func 138) [] [Zag [i64 sl4]]] false false 0∧Blk.mk (flatA (rowsA hs0)) false true 0=Blk.mk (flatA (rowsA hs5)) false true v2∧(n3=Zaa hs5∧Zaa hs5<1000000∧out6=Zcn (fun (x7:AskT)=> !AskT.sl x7==sl4) hs5)∧∀(v':Nat),v'=v'∧∃(xs8:List (List Dv)),flatA (rowsA out6)=flatA xs8∧Zaa xs8=Zaa out6∧(∀(r:List Dv),r∈xs8→Zaa r=3)∧R (.d (Zan 3 xs8)) b)):=by kernel_rfl
theorem pcWoA (hs:List AskT) (sl:Int) (hl:hs.length<1000000):PCall prog 137 [.d (.sl 3 (rowsA hs)), .fn (.func 118) [] [], .fn (.func 138) [] [.rptr [i64 sl]]] (.d (.sl 3 (rowsA (hs.filter (fun x:AskT=> !(fun x:AskT=>x.sl==sl) x))))):=by
 refine Zbg (n:=100) (u:=false) mixed Zaj CEf9 func137 (by rfl) (by rfl) fun Ev bb=> ?_;rw [CFh9];refine ⟨hs,rfl,by omega,Zba (fun h1=> ?_) fun h1=> ?_⟩
 ·have h2:hs= []:=List.isEmpty_iff.1 h1;subst h2;exact ⟨sl,rfl,rfl,rfl,rfl⟩
 ·refine ⟨0,_,sl,hs,_,rfl,rfl,rfl,rfl,⟨rfl,hl,rfl⟩,fun v'=>⟨rfl,rowsA (hs.filter (fun x:AskT=> !(fun x:AskT=>x.sl==sl) x)),rfl,AAo9 _,ANa9 _,rfl⟩⟩
def cWoA (args:List AV) (K:AV→Prop):Prop:=∃(hs z:List AskT) (sl:Int),args= [.d (.sl 3 (rowsA hs)), .fn (.func 118) [] [], .fn (.func 138) [] [.rptr [i64 sl]]]∧(hs.length<1000000∧z=hs.filter (fun x:AskT=> !(fun x:AskT=>x.sl==sl) x))∧K (.d (.sl 3 (rowsA z)))
theorem CDf9:∀args K,cWoA args K→∃x,PCall prog 137 args x∧K x:=by
 rintro _ K ⟨hs,_,sl,rfl,⟨hl,rfl⟩,hk⟩;exact ⟨_,pcWoA hs sl hl,hk⟩
def TEx:List (Nat×(List AV→(AV→Prop)→Prop)):= [(93,BHd9),(97,BPs9),(94,cWoG)]
theorem CHy9:AAb9 prog TEx:=Zai ASj9 (Zai BHf9 (Zai CDe9 Zaj))
def TUa:List (Nat×(List AV→(AV→Prop)→Prop)):= [(137,cWoA)]
theorem CHd9:AAb9 prog TUa:=Zai CDf9 Zaj
abbrev Qz82 (v0:List UseT) (v1:List GraT) (v2:List AskT):List AV:= [Zae (Zan 4 (rowsU v0)),Zae (Zan 5 (rowsG v1)),Zae (Zan 3 (rowsA v2))]
theorem BLt9 (t:TabT) (fr:Int):wpFn prog ⟨TEx, [],wl,y,false⟩ 100 f47 [tabA t, .d (i64 fr)] b R=(∃(l0:List UseT), [Zae (Zan 4 (rowsU (Zbv t)))]= [Zae (Zan 4 (rowsU l0))]∧Zaa l0≤1000000∧∃(hs1:List GraT) (z2:List GraT) (fr3:Int), [Zae (Zan 5 (rowsG (Zbi t))),Zaw (Fn.func 95) [] [],Zaw (Fn.func 96) [] [Zag [i64 fr]]]= [Zae (Zan 5 (rowsG hs1)),Zaw (Fn.func 95) [] [],Zaw (Fn.func 96) [] [Zag [i64 fr3]]]∧(Zaa hs1<1000000∧z2=Zcn (fun (x4:GraT)=> !decide (Zdt x4<fr3)) hs1)∧∃(l5:List AskT), [Zae (Zan 3 (rowsA (Zby t)))]= [Zae (Zan 3 (rowsA l5))]∧Zaa l5≤1000000∧R (.agg (Qz82 l0 z2 l5)) b):=by kernel_rfl
theorem BCg9 (t:TabT) (sl:Int):wpFn prog ⟨TUa, [],wl,y,false⟩ 100 f105 [tabA t, .d (i64 sl)] b R=(∃(hs0:List AskT) (z1:List AskT) (sl2:Int), [Zae (Zan 3 (rowsA (Zby t))),Zaw (Fn.func 118) [] [],Zaw (Fn.func 138) [] [Zag [i64 sl]]]= [Zae (Zan 3 (rowsA hs0)),Zaw (Fn.func 118) [] [],Zaw (Fn.func 138) [] [Zag [i64 sl2]]]∧(Zaa hs0<1000000∧z1=Zcn (fun (x3:AskT)=> !AskT.sl x3==sl2) hs0)∧R (.d (Zan 3 (rowsA z1))) b):=by kernel_rfl
def TabLt (t:TabT):Prop:=t.us.length<1000000∧t.gs.length<1000000∧t.ak.length<1000000
def ACz9 (t:TabT) (fr:Int):TabT:=⟨t.us,t.gs.filter fun x=> !decide (x.un<fr),t.ak⟩
theorem BTh9 (t:TabT) (fr:Int) (h:TabLt t):PCall prog 47 [tabA t, .d (i64 fr)] (tabA (ACz9 t fr)):=by
 refine Zbg (n:=100) (u:=false) mixed CHy9 Zah func47 (by rfl) (by rfl) fun Ev bb=> ?_;rw [BLt9];exact ⟨t.us,rfl,by have:=h.1;omega,t.gs,_,fr,rfl,⟨h.2.1,rfl⟩,t.ak,rfl,by have:=h.2.2;omega,rfl⟩
def BPo9 (args:List AV) (K:AV→Prop):Prop:=∃(t z:TabT) (fr:Int),args= [tabA t, .d (i64 fr)]∧(TabLt t∧z=ACz9 t fr)∧K (tabA z)
theorem BGy9:∀args K,BPo9 args K→∃x,PCall prog 47 args x∧K x:=by
 rintro _ K ⟨t,_,fr,rfl,⟨h,rfl⟩,hk⟩;exact ⟨_,BTh9 t fr h,hk⟩
def AJk9 (t:TabT) (sl:Int):List AskT:=t.ak.filter fun x=> !(x.sl==sl)
theorem CBb9 (t:TabT) (sl:Int) (h:TabLt t):PCall prog 105 [tabA t, .d (i64 sl)] (.d (.sl 3 (rowsA (AJk9 t sl)))):=by
 refine Zbg (n:=100) (u:=false) mixed CHd9 Zah func105 (by rfl) (by rfl) fun Ev bb=> ?_;rw [BCg9];exact ⟨t.ak,_,sl,rfl,⟨h.2.2,rfl⟩,rfl⟩
def BWd9 (args:List AV) (K:AV→Prop):Prop:=∃(t:TabT) (z:List AskT) (sl:Int),args= [tabA t, .d (i64 sl)]∧(TabLt t∧z=AJk9 t sl)∧K (.d (.sl 3 (rowsA z)))
theorem AWs9:∀args K,BWd9 args K→∃x,PCall prog 105 args x∧K x:=by
 rintro _ K ⟨t,_,sl,rfl,⟨h,rfl⟩,hk⟩;exact ⟨_,CBb9 t sl h,hk⟩
def nilSl:AV:= .d (.s (.slice none 0 0))
theorem BUw9 (n:Int):wpFnS prog ⟨[],GCG,wl,y,false⟩ 100 f146 [nilSl, .d (i64 n)] b Kr=(BIf (decide (n<(0:Int))) False (BIf (decide (Zad .i64 (n - 0)>(0:Int))) (BIf (true&&decide ((0:Int)<Zad .i64 (n - 0))&&decide (Zad .i64 (n - 0)*(40:Int)≤(281474976710656:Int))&&decide (Zad .i64 (n - 0)≤(9223372036854775807:Int))&&true&&true&&true&&true) (0=0∧Kr (Zbl 0 1 0 5) [Blk.mk [] false true 1] b) False) (Kr (Zae (Zdx (.slice none 0 0))) [] b))):=by kernel_rfl
theorem BUv9 (n:Int):wpFnS prog ⟨[],GCU,wl,y,false⟩ 100 f149 [nilSl, .d (i64 n)] b Kr=(BIf (decide (n<(0:Int))) False (BIf (decide (Zad .i64 (n - 0)>(0:Int))) (BIf (true&&decide ((0:Int)<Zad .i64 (n - 0))&&decide (Zad .i64 (n - 0)*(32:Int)≤(281474976710656:Int))&&decide (Zad .i64 (n - 0)≤(9223372036854775807:Int))&&true&&true&&true&&true) (0=0∧Kr (Zbl 0 1 0 4) [Blk.mk [] false true 1] b) False) (Kr (Zae (Zdx (.slice none 0 0))) [] b))):=by kernel_rfl
theorem CCs9 (n:Int) (h0:0<n) (hn:n≤1000000):FCall prog 146 [nilSl, .d (i64 n)] (.gref 0 1 0 5) [growB 1 []]:=by
 refine FCall.ofFnW (n:=100) (u:=false) (fun _=>fun _ _ _ _ _=>False) mixed Zaj BAr9 (fun Ev _ _ _ _ _ h=>h.elim) func146 (by rfl) (by rfl) (by rfl) fun Ev bb=> ?_;rw [BUw9];have e:Zad Zbc (n - 0)=n:=by rw [AAt9 (by omega) (by omega)];omega
 rw [e];refine Zdf (by simp<;>omega) (Zaz (by simp<;>omega) (Zaz ?_ ⟨rfl,rfl,rfl⟩));simp only [Bool.and_true,Zde,Zak,decide_eq_true_eq];omega
theorem CCr9 (n:Int) (h0:0<n) (hn:n≤1000000):FCall prog 149 [nilSl, .d (i64 n)] (.gref 0 1 0 4) [growB 1 []]:=by
 refine FCall.ofFnW (n:=100) (u:=false) (fun _=>fun _ _ _ _ _=>False) mixed Zaj BXw9 (fun Ev _ _ _ _ _ h=>h.elim) func149 (by rfl) (by rfl) (by rfl) fun Ev bb=> ?_;rw [BUv9];have e:Zad Zbc (n - 0)=n:=by rw [AAt9 (by omega) (by omega)];omega
 rw [e];refine Zdf (by simp<;>omega) (Zaz (by simp<;>omega) (Zaz ?_ ⟨rfl,rfl,rfl⟩));simp only [Bool.and_true,Zde,Zak,decide_eq_true_eq];omega
def CAd9 (args:List AV) (hp:List Blk) (K:AV→List Blk→Prop):Prop:=∃(n:Int),args= [nilSl, .d (i64 n)]∧(0<n∧n≤1000000)∧K (.gref hp.length 1 0 5) (hp++ [growB 1 []])
theorem BJu9:∀args hp K,CAd9 args hp K→∃x hp',SCall prog 146 args hp x hp'∧K x hp':=by
 rintro _ hp K ⟨n,rfl,⟨h0,hn⟩,h⟩;exact ⟨_,_,(CCs9 n h0 hn).toS rfl hp,by simpa [shift,AJl9,AGc9,AQl9,growB] using h⟩
def CAc9 (args:List AV) (hp:List Blk) (K:AV→List Blk→Prop):Prop:=∃(n:Int),args= [nilSl, .d (i64 n)]∧(0<n∧n≤1000000)∧K (.gref hp.length 1 0 4) (hp++ [growB 1 []])
theorem BJt9:∀args hp K,CAc9 args hp K→∃x hp',SCall prog 149 args hp x hp'∧K x hp':=by
 rintro _ hp K ⟨n,rfl,⟨h0,hn⟩,h⟩;exact ⟨_,_,(CCr9 n h0 hn).toS rfl hp,by simpa [shift,AJl9,AGc9,AQl9,growB] using h⟩
def UCoG:List (Nat×(List AV→List Blk→(AV→List Blk→Prop)→Prop)):= [(146,CAd9),(1000059,fun _ _ _=>False)]
theorem CEl9:AAl9 prog UCoG:=Zbw BJu9 BAr9
def UCoU:List (Nat×(List AV→List Blk→(AV→List Blk→Prop)→Prop)):= [(149,CAc9),(1000061,fun _ _ _=>False)]
theorem CEk9:AAl9 prog UCoU:=Zbw BJt9 BXw9
theorem BVu9 (x z m:List (List Dv)):wpFn prog ⟨[],UCoG,wl,y,true⟩ 1000 f136 [.full 1 [[.sl 5 x], [.sl 5 z], [.sl 5 m]]] b R=(∃(xs0:List (List Dv)),some [Zan 5 x]=some [Zan 5 xs0]∧BIf (decide (Zad .i64 ((0:Int)+((Zaa xs0:Nat):Int))<(0:Int))) False (∃(xs1:List (List Dv)),some [Zan 5 z]=some [Zan 5 xs1]∧BIf (decide (Zad .i64 (Zad .i64 ((0:Int)+((Zaa xs0:Nat):Int))+((Zaa xs1:Nat):Int))<(0:Int))) False (∃(xs2:List (List Dv)),some [Zan 5 m]=some [Zan 5 xs2]∧BIf (decide (Zad .i64 (Zad .i64 (Zad .i64 ((0:Int)+((Zaa xs0:Nat):Int))+((Zaa xs1:Nat):Int))+((Zaa xs2:Nat):Int))<(0:Int))) False (∃(n3:Int), [Zae (Zdx (.slice none 0 0)),Zae (i64 (Zad .i64 (Zad .i64 (Zad .i64 ((0:Int)+((Zaa xs0:Nat):Int))+((Zaa xs1:Nat):Int))+((Zaa xs2:Nat):Int))))]= [Zae (Zdx (.slice none 0 0)),Zae (i64 n3)]∧((0:Int)<n3∧n3≤(1000000:Int))∧∃(xs4:List (List Dv)),some [Zan 5 x]=some [Zan 5 xs4]∧1=1∧BIf (decide ((0+Zaa xs4)*40≤140737488355328)) (∃(xs5:List (List Dv)),some [Zan 5 z]=some [Zan 5 xs5]∧2=2∧BIf (decide ((0+Zaa xs4+Zaa xs5)*40≤140737488355328)) (∃(xs6:List (List Dv)),some [Zan 5 m]=some [Zan 5 xs6]∧3=3∧BIf (decide ((0+Zaa xs4+Zaa xs5+Zaa xs6)*40≤140737488355328)) (4=4∧∃(xs7:List (List Dv)), []++flatA xs4++flatA xs5++flatA xs6=flatA xs7∧Zaa xs7=0+Zaa xs4+Zaa xs5+Zaa xs6∧(∀(r:List Dv),r∈xs7→Zaa r=5)∧R (.d (Zan 5 xs7)) b) False) False) False)))):=by kernel_rfl
theorem BVt9 (x z m:List (List Dv)):wpFn prog ⟨[],UCoU,wl,y,true⟩ 1000 f140 [.full 1 [[.sl 4 x], [.sl 4 z], [.sl 4 m]]] b R=(∃(xs0:List (List Dv)),some [Zan 4 x]=some [Zan 4 xs0]∧BIf (decide (Zad .i64 ((0:Int)+((Zaa xs0:Nat):Int))<(0:Int))) False (∃(xs1:List (List Dv)),some [Zan 4 z]=some [Zan 4 xs1]∧BIf (decide (Zad .i64 (Zad .i64 ((0:Int)+((Zaa xs0:Nat):Int))+((Zaa xs1:Nat):Int))<(0:Int))) False (∃(xs2:List (List Dv)),some [Zan 4 m]=some [Zan 4 xs2]∧BIf (decide (Zad .i64 (Zad .i64 (Zad .i64 ((0:Int)+((Zaa xs0:Nat):Int))+((Zaa xs1:Nat):Int))+((Zaa xs2:Nat):Int))<(0:Int))) False (∃(n3:Int), [Zae (Zdx (.slice none 0 0)),Zae (i64 (Zad .i64 (Zad .i64 (Zad .i64 ((0:Int)+((Zaa xs0:Nat):Int))+((Zaa xs1:Nat):Int))+((Zaa xs2:Nat):Int))))]= [Zae (Zdx (.slice none 0 0)),Zae (i64 n3)]∧((0:Int)<n3∧n3≤(1000000:Int))∧∃(xs4:List (List Dv)),some [Zan 4 x]=some [Zan 4 xs4]∧1=1∧BIf (decide ((0+Zaa xs4)*32≤140737488355328)) (∃(xs5:List (List Dv)),some [Zan 4 z]=some [Zan 4 xs5]∧2=2∧BIf (decide ((0+Zaa xs4+Zaa xs5)*32≤140737488355328)) (∃(xs6:List (List Dv)),some [Zan 4 m]=some [Zan 4 xs6]∧3=3∧BIf (decide ((0+Zaa xs4+Zaa xs5+Zaa xs6)*32≤140737488355328)) (4=4∧∃(xs7:List (List Dv)), []++flatA xs4++flatA xs5++flatA xs6=flatA xs7∧Zaa xs7=0+Zaa xs4+Zaa xs5+Zaa xs6∧(∀(r:List Dv),r∈xs7→Zaa r=4)∧R (.d (Zan 4 xs7)) b) False) False) False)))):=by kernel_rfl
theorem CBr9 (x z m:List GraT) (h0:0<x.length+z.length+m.length) (hl:x.length+z.length+m.length≤1000000):
 PCall prog 136 [.full 1 [[.sl 5 (rowsG x)], [.sl 5 (rowsG z)], [.sl 5 (rowsG m)]]] (.d (.sl 5 (rowsG (x++z++m)))):=by
 refine Zbg (n:=1000) (u:=true) mixed Zaj CEl9 func136 (by rfl) (by rfl) fun Ev bb=> ?_;rw [BVu9];have e1:Zad Zbc ((0:Int)+(((rowsG x).length:Nat):Int))=((x.length:Nat):Int):=by rw [AAe9,AAt9 (by omega) (by omega)];omega
 have e2:Zad Zbc (((x.length:Nat):Int)+(((rowsG z).length:Nat):Int))=((x.length+z.length:Nat):Int):=by rw [AAe9,AAt9 (by omega) (by omega)];omega
 have e3:Zad Zbc (((x.length+z.length:Nat):Int)+(((rowsG m).length:Nat):Int))=((x.length+z.length+m.length:Nat):Int):=by rw [AAe9,AAt9 (by omega) (by omega)];omega
 refine ⟨rowsG x,rfl, ?_⟩;rw [e1];refine Zdf (by simp) ⟨rowsG z,rfl, ?_⟩;rw [e2];refine Zdf (by simp;omega) ⟨rowsG m,rfl, ?_⟩;rw [e3];refine Zdf (by simp;omega) ⟨_,rfl,⟨by omega,by omega⟩,rowsG x,rfl,rfl,Zaz (by rw [AAe9];simp;omega) ⟨rowsG z,rfl,rfl,Zaz (by rw [AAe9,AAe9];simp;omega) ⟨rowsG m,rfl,rfl,Zaz (by rw [AAe9,AAe9,AAe9];simp;omega) ⟨rfl,rowsG (x++z++m), ?_, ?_,AQq9 _,rfl⟩⟩⟩⟩
 ·have f:∀l:List GraT,flatA (rowsG l)=flatA (l.map graR):=fun _=>rfl;rw [f,f,f,f,AUf9,AUf9,List.nil_append]
 ·rw [AAe9,AAe9,AAe9,AAe9,Zcg,Zcg];omega
def CDv9 (args:List AV) (K:AV→Prop):Prop:=∃(x m q:List GraT) (g:GraT),args= [.full 1 [[.sl 5 (rowsG x)], [.sl 5 [graR g]], [.sl 5 (rowsG m)]]]∧(x.length+m.length<1000000∧q=x++ [g]++m)∧K (.d (.sl 5 (rowsG q)))
theorem BNf9:∀args K,CDv9 args K→∃x,PCall prog 136 args x∧K x:=by
 rintro _ K ⟨x,m,_,g,rfl,⟨hl,rfl⟩,hk⟩;exact ⟨_,CBr9 x [g] m (by simp;omega) (by simp;omega),hk⟩
def TInG:List (Nat×(List AV→(AV→Prop)→Prop)):= [(136,CDv9),(54,BGr9)]
theorem CEr9:AAb9 prog TInG:=Zai BNf9 (Zai AZz9 Zaj)
theorem CCj9 (l:List GraT) (g:GraT):wpFn prog ⟨TInG, [],wl,y,false⟩ 100 f104 [.d (.sl 5 (rowsG l)),graA g, .fn (.func 95) [] []] b R=(∃(l0:List GraT) (g1:GraT) (q2:Int), [Zae (Zan 5 (rowsG l)),Zaw (Fn.func 135) [] [Zag [Zcu (Fn.func 95) []],Zag (Qz17 g)]]= [Zae (Zan 5 (rowsG l0)),Zaw (Fn.func 135) [] [Zag [Zcu (Fn.func 95) []],Zag (Qz17 g1)]]∧(Zaa l0≤9223372036854775807∧q2=idxS (fun (x3:GraT)=>decide (Zdq x3>Zdq g1)) l0)∧BIf (decide (q2<(0:Int))) (BIf (true&&decide ((0:Int)≤(0:Int)∧(0:Int)≤((Zaa (rowsG l):Nat):Int)∧((Zaa (rowsG l):Nat):Int)≤((Zaa (rowsG l):Nat):Int)∧((Zaa (rowsG l):Nat):Int)≤((Zaa (rowsG l):Nat):Int))) (BIf (true&&decide ((0:Int)≤((Zaa (rowsG l):Nat):Int)∧((Zaa (rowsG l):Nat):Int)≤((Zaa (rowsG l):Nat):Int)∧((Zaa (rowsG l):Nat):Int)≤((Zaa (rowsG l):Nat):Int)∧((Zaa (rowsG l):Nat):Int)≤((Zaa (rowsG l):Nat):Int))) (∃(x4:List GraT) (m5:List GraT) (q6:List GraT) (g7:GraT), [Zfx 1 [[Zan 5 (Zbs (Zam ((Zaa (rowsG l):Nat):Int) - Zam (0:Int)) (Zcf (Zam (0:Int)) (rowsG l)))], [Zan 5 [Qz17 g]], [Zan 5 (Zbs (Zam ((Zaa (rowsG l):Nat):Int) - Zam ((Zaa (rowsG l):Nat):Int)) (Zcf (Zam ((Zaa (rowsG l):Nat):Int)) (rowsG l)))]]]= [Zfx 1 [[Zan 5 (rowsG x4)], [Zan 5 [Qz17 g7]], [Zan 5 (rowsG m5)]]]∧(Zaa x4+Zaa m5<1000000∧q6=x4++ [g7]++m5)∧R (.d (Zan 5 (rowsG q6))) b) False) False) (BIf (true&&decide ((0:Int)≤(0:Int)∧(0:Int)≤q2∧q2≤((Zaa (rowsG l):Nat):Int)∧((Zaa (rowsG l):Nat):Int)≤((Zaa (rowsG l):Nat):Int))) (BIf (true&&decide ((0:Int)≤q2∧q2≤((Zaa (rowsG l):Nat):Int)∧((Zaa (rowsG l):Nat):Int)≤((Zaa (rowsG l):Nat):Int)∧((Zaa (rowsG l):Nat):Int)≤((Zaa (rowsG l):Nat):Int))) (∃(x8:List GraT) (m9:List GraT) (q10:List GraT) (g11:GraT), [Zfx 1 [[Zan 5 (Zbs (Zam q2 - Zam (0:Int)) (Zcf (Zam (0:Int)) (rowsG l)))], [Zan 5 [Qz17 g]], [Zan 5 (Zbs (Zam ((Zaa (rowsG l):Nat):Int) - Zam q2) (Zcf (Zam q2) (rowsG l)))]]]= [Zfx 1 [[Zan 5 (rowsG x8)], [Zan 5 [Qz17 g11]], [Zan 5 (rowsG m9)]]]∧(Zaa x8+Zaa m9<1000000∧q10=x8++ [g11]++m9)∧R (.d (Zan 5 (rowsG q10))) b) False) False)):=by kernel_rfl
theorem CBq9 (x z m:List UseT) (h0:0<x.length+z.length+m.length) (hl:x.length+z.length+m.length≤1000000):
 PCall prog 140 [.full 1 [[.sl 4 (rowsU x)], [.sl 4 (rowsU z)], [.sl 4 (rowsU m)]]] (.d (.sl 4 (rowsU (x++z++m)))):=by
 refine Zbg (n:=1000) (u:=true) mixed Zaj CEk9 func140 (by rfl) (by rfl) fun Ev bb=> ?_;rw [BVt9];have e1:Zad Zbc ((0:Int)+(((rowsU x).length:Nat):Int))=((x.length:Nat):Int):=by rw [AAj9,AAt9 (by omega) (by omega)];omega
 have e2:Zad Zbc (((x.length:Nat):Int)+(((rowsU z).length:Nat):Int))=((x.length+z.length:Nat):Int):=by rw [AAj9,AAt9 (by omega) (by omega)];omega
 have e3:Zad Zbc (((x.length+z.length:Nat):Int)+(((rowsU m).length:Nat):Int))=((x.length+z.length+m.length:Nat):Int):=by rw [AAj9,AAt9 (by omega) (by omega)];omega
 refine ⟨rowsU x,rfl, ?_⟩;rw [e1];refine Zdf (by simp) ⟨rowsU z,rfl, ?_⟩;rw [e2];refine Zdf (by simp;omega) ⟨rowsU m,rfl, ?_⟩;rw [e3];refine Zdf (by simp;omega) ⟨_,rfl,⟨by omega,by omega⟩,rowsU x,rfl,rfl,Zaz (by rw [AAj9];simp;omega) ⟨rowsU z,rfl,rfl,Zaz (by rw [AAj9,AAj9];simp;omega) ⟨rowsU m,rfl,rfl,Zaz (by rw [AAj9,AAj9,AAj9];simp;omega) ⟨rfl,rowsU (x++z++m), ?_, ?_,BOg9 _,rfl⟩⟩⟩⟩
 ·have f:∀l:List UseT,flatA (rowsU l)=flatA (l.map useR):=fun _=>rfl;rw [f,f,f,f,AUf9,AUf9,List.nil_append]
 ·rw [AAj9,AAj9,AAj9,AAj9,Zcg,Zcg];omega
def CDu9 (args:List AV) (K:AV→Prop):Prop:=∃(x m q:List UseT) (g:UseT),args= [.full 1 [[.sl 4 (rowsU x)], [.sl 4 [useR g]], [.sl 4 (rowsU m)]]]∧(x.length+m.length<1000000∧q=x++ [g]++m)∧K (.d (.sl 4 (rowsU q)))
theorem BNe9:∀args K,CDu9 args K→∃x,PCall prog 140 args x∧K x:=by
 rintro _ K ⟨x,m,_,g,rfl,⟨hl,rfl⟩,hk⟩;exact ⟨_,CBq9 x [g] m (by simp;omega) (by simp;omega),hk⟩
def TInU:List (Nat×(List AV→(AV→Prop)→Prop)):= [(140,CDu9),(133,BGq9)]
theorem CEq9:AAb9 prog TInU:=Zai BNe9 (Zai AZy9 Zaj)
theorem CCi9 (l:List UseT) (g:UseT):wpFn prog ⟨TInU, [],wl,y,false⟩ 100 f107 [.d (.sl 4 (rowsU l)),useA g, .fn (.func 108) [] []] b R=(∃(l0:List UseT) (g1:UseT) (q2:Int), [Zae (Zan 4 (rowsU l)),Zaw (Fn.func 139) [] [Zag [Zcu (Fn.func 108) []],Zag (Qz15 g)]]= [Zae (Zan 4 (rowsU l0)),Zaw (Fn.func 139) [] [Zag [Zcu (Fn.func 108) []],Zag (Qz15 g1)]]∧(Zaa l0≤9223372036854775807∧q2=idxS (fun (x3:UseT)=>decide (Zcw x3>Zcw g1)) l0)∧BIf (decide (q2<(0:Int))) (BIf (true&&decide ((0:Int)≤(0:Int)∧(0:Int)≤((Zaa (rowsU l):Nat):Int)∧((Zaa (rowsU l):Nat):Int)≤((Zaa (rowsU l):Nat):Int)∧((Zaa (rowsU l):Nat):Int)≤((Zaa (rowsU l):Nat):Int))) (BIf (true&&decide ((0:Int)≤((Zaa (rowsU l):Nat):Int)∧((Zaa (rowsU l):Nat):Int)≤((Zaa (rowsU l):Nat):Int)∧((Zaa (rowsU l):Nat):Int)≤((Zaa (rowsU l):Nat):Int)∧((Zaa (rowsU l):Nat):Int)≤((Zaa (rowsU l):Nat):Int))) (∃(x4:List UseT) (m5:List UseT) (q6:List UseT) (g7:UseT), [Zfx 1 [[Zan 4 (Zbs (Zam ((Zaa (rowsU l):Nat):Int) - Zam (0:Int)) (Zcf (Zam (0:Int)) (rowsU l)))], [Zan 4 [Qz15 g]], [Zan 4 (Zbs (Zam ((Zaa (rowsU l):Nat):Int) - Zam ((Zaa (rowsU l):Nat):Int)) (Zcf (Zam ((Zaa (rowsU l):Nat):Int)) (rowsU l)))]]]= [Zfx 1 [[Zan 4 (rowsU x4)], [Zan 4 [Qz15 g7]], [Zan 4 (rowsU m5)]]]∧(Zaa x4+Zaa m5<1000000∧q6=x4++ [g7]++m5)∧R (.d (Zan 4 (rowsU q6))) b) False) False) (BIf (true&&decide ((0:Int)≤(0:Int)∧(0:Int)≤q2∧q2≤((Zaa (rowsU l):Nat):Int)∧((Zaa (rowsU l):Nat):Int)≤((Zaa (rowsU l):Nat):Int))) (BIf (true&&decide ((0:Int)≤q2∧q2≤((Zaa (rowsU l):Nat):Int)∧((Zaa (rowsU l):Nat):Int)≤((Zaa (rowsU l):Nat):Int)∧((Zaa (rowsU l):Nat):Int)≤((Zaa (rowsU l):Nat):Int))) (∃(x8:List UseT) (m9:List UseT) (q10:List UseT) (g11:UseT), [Zfx 1 [[Zan 4 (Zbs (Zam q2 - Zam (0:Int)) (Zcf (Zam (0:Int)) (rowsU l)))], [Zan 4 [Qz15 g]], [Zan 4 (Zbs (Zam ((Zaa (rowsU l):Nat):Int) - Zam q2) (Zcf (Zam q2) (rowsU l)))]]]= [Zfx 1 [[Zan 4 (rowsU x8)], [Zan 4 [Qz15 g11]], [Zan 4 (rowsU m9)]]]∧(Zaa x8+Zaa m9<1000000∧q10=x8++ [g11]++m9)∧R (.d (Zan 4 (rowsU q10))) b) False) False)):=by kernel_rfl
def insP {α:Type} (p:α→Bool) (g:α):List α→List α
 | []=> [g]
 |x::r=>if p x=true then g::x::r else x::insP p g r
theorem AOw9 {α:Type} {p:α→Bool} {g:α}:∀ {l:List α},l.findIdx? p=none→insP p g l=l++ [g]
 | [],_=>rfl
 | x::r,h=>by
  rw [Zey] at h;cases hp:p x with
  |true=>rw [hp] at h;simp at h
  | false=>
   rw [hp] at h;simp only [Zdd,if_false,Option.map_eq_none_iff] at h;rw [insP,hp,if_neg (by decide),AOw9 h];rfl
theorem AOv9 {α:Type} {p:α→Bool} {g:α}:∀ {l:List α} {j:Nat},l.findIdx? p=some j→insP p g l=l.take j++ [g]++l.drop j
 | [],j,h=>by simp at h
 | x::r,j,h=>by
  rw [Zey] at h;cases hp:p x with
  |true=>rw [hp] at h;simp at h;subst h;rw [insP,hp,if_pos rfl];rfl
  | false=>
   rw [hp] at h;simp only [Zdd,if_false,Zao] at h;obtain ⟨j',h1,rfl⟩:=h;rw [insP,hp,if_neg (by decide),AOv9 h1];rfl
theorem AVt9 {α:Type} (row:α→List Dv) (l:List α) (i:Nat):((l.map row).take i)=(l.take i).map row:=by simp
theorem AVu9 {α:Type} (row:α→List Dv) (l:List α) (i:Nat):((l.map row).drop i)=(l.drop i).map row:=by simp
def insSG (g:GraT) (l:List GraT):List GraT:=insP (fun x:GraT=>decide (x.sl>g.sl)) g l
theorem CGc9 (l:List GraT) (g:GraT) (hl:l.length<1000000):PCall prog 104 [.d (.sl 5 (rowsG l)),graA g, .fn (.func 95) [] []] (.d (.sl 5 (rowsG (insSG g l)))):=by
 refine Zbg (n:=100) (u:=false) mixed CEr9 Zah func104 (by rfl) (by rfl) fun Ev bb=> ?_;rw [CCj9,AAe9];refine ⟨l,g,_,rfl,⟨by omega,rfl⟩, ?_⟩;cases hf:l.findIdx? (fun x:GraT=>decide (x.sl>g.sl)) with
 | none=>
  rw [AAy9 hf];refine Zaz (by decide) (Zaz (by simp) (Zaz (by simp) ⟨l, [],_,g, ?_,⟨by simpa using hl,rfl⟩, ?_⟩))
  ·simp only [rowsG,Zco,Zfh,Zfk,Nat.sub_zero,Nat.sub_self,List.take_zero,List.map_nil];rw [show (l.map graR).take l.length=l.map graR by rw [List.take_of_length_le (by simp)]]
  ·rw [insSG,AOw9 hf,Zdw]
 | some j=>
  have hj:=(AFs9 hf).1;rw [AAh9 hf];refine Zdf (by simp) (Zaz (by simp;omega) (Zaz (by simp;omega) ⟨l.take j,l.drop j,_,g, ?_,⟨by rw [Zca,List.length_drop];omega,rfl⟩, ?_⟩))
  ·simp only [rowsG,Zco,Zfh,Zfk,Nat.sub_zero];rw [show ((l.map graR).drop j).take (l.length - j)=(l.drop j).map graR by rw [AVu9,List.take_of_length_le (by simp)],AVt9]
  ·rw [insSG,AOv9 hf]
def cInsG (args:List AV) (K:AV→Prop):Prop:=∃(l z:List GraT) (g:GraT),args= [.d (.sl 5 (rowsG l)),graA g, .fn (.func 95) [] []]∧(l.length<1000000∧z=insSG g l)∧K (.d (.sl 5 (rowsG z)))
theorem BWp9:∀args K,cInsG args K→∃x,PCall prog 104 args x∧K x:=by
 rintro _ K ⟨l,_,g,rfl,⟨hl,rfl⟩,hk⟩;exact ⟨_,CGc9 l g hl,hk⟩
def insSU (g:UseT) (l:List UseT):List UseT:=insP (fun x:UseT=>decide (x.sl>g.sl)) g l
theorem CGb9 (l:List UseT) (g:UseT) (hl:l.length<1000000):PCall prog 107 [.d (.sl 4 (rowsU l)),useA g, .fn (.func 108) [] []] (.d (.sl 4 (rowsU (insSU g l)))):=by
 refine Zbg (n:=100) (u:=false) mixed CEq9 Zah func107 (by rfl) (by rfl) fun Ev bb=> ?_;rw [CCi9,AAj9];refine ⟨l,g,_,rfl,⟨by omega,rfl⟩, ?_⟩;cases hf:l.findIdx? (fun x:UseT=>decide (x.sl>g.sl)) with
 | none=>
  rw [AAy9 hf];refine Zaz (by decide) (Zaz (by simp) (Zaz (by simp) ⟨l, [],_,g, ?_,⟨by simpa using hl,rfl⟩, ?_⟩))
  ·simp only [rowsU,Zco,Zfh,Zfk,Nat.sub_zero,Nat.sub_self,List.take_zero,List.map_nil];rw [show (l.map useR).take l.length=l.map useR by rw [List.take_of_length_le (by simp)]]
  ·rw [insSU,AOw9 hf,Zdw]
 | some j=>
  have hj:=(AFs9 hf).1;rw [AAh9 hf];refine Zdf (by simp) (Zaz (by simp;omega) (Zaz (by simp;omega) ⟨l.take j,l.drop j,_,g, ?_,⟨by rw [Zca,List.length_drop];omega,rfl⟩, ?_⟩))
  ·simp only [rowsU,Zco,Zfh,Zfk,Nat.sub_zero];rw [show ((l.map useR).drop j).take (l.length - j)=(l.drop j).map useR by rw [AVu9,List.take_of_length_le (by simp)],AVt9]
  ·rw [insSU,AOv9 hf]
def cInsU (args:List AV) (K:AV→Prop):Prop:=∃(l z:List UseT) (g:UseT),args= [.d (.sl 4 (rowsU l)),useA g, .fn (.func 108) [] []]∧(l.length<1000000∧z=insSU g l)∧K (.d (.sl 4 (rowsU z)))
theorem BWo9:∀args K,cInsU args K→∃x,PCall prog 107 args x∧K x:=by
 rintro _ K ⟨l,_,g,rfl,⟨hl,rfl⟩,hk⟩;exact ⟨_,CGb9 l g hl,hk⟩
def useI (u:UseT):AV:= .d (.s (.iface 149 (.agg #[.int .i64 u.sl, .int .i64 u.of, .int .i64 u.pe, .int .i64 u.st])))
def graI (g:GraT):AV:= .d (.s (.iface 140 (.agg #[.int .i64 g.sl, .int .i64 g.of, .int .i64 g.pe, .int .i64 g.st, .int .i64 g.un])))
def TRfd:List (Nat×(List AV→(AV→Prop)→Prop)):= [(4000001,cNone),(73,BMo9),(84,BWs9),(170,BNh9),(167,BNi9)]
theorem AXq9:AAb9 prog TRfd:=Zai (ABx9 _) (Zai APk9 (Zai AXn9 (Zai APm9 (Zai APn9 Zaj))))
def wlRfd {β:Type} (y:ACw9 β):WLT β:=wlI prog TRfd IVa y (fun _ _ _ _ _=>False)
theorem CAh9 (t:TabT) (ly:LayT) (u:UseT):wpFn prog ⟨TRfd, [],wlRfd y,y,false⟩ 100 f103 [tabA t,layA ly,useI u] b R=(∃(t0:TabT) (l1:LayT) (q2:Bool), [Zar (Qz1 t),Zar (Qz3 ly)]= [Zar (Qz1 t0),Zar (Qz3 l1)]∧((Zaa (Zbv t0)<10000∧Zaa (Zbi t0)<10000∧Zaa (Zby t0)<10000)∧q2=ACq9 t0 l1)∧BIf (!q2) (R (.d (i64 1)) b) (true=true∧∃(u3:UseT) (l4:LayT) (z5:Bool), [Zar (Qz7 u),Zar (Qz3 ly)]= [Zar (Qz7 u3),Zar (Qz3 l4)]∧z5=useOk u3 l4∧BIf (!z5) (R (.d (i64 1)) b) (∃(u6:UseT), [Zar (Qz7 u)]= [Zar (Qz7 u6)]∧∃(t7:TabT) (s8:Int) (q9:Bool), [Zar (Qz1 t),Zae (i64 (Zcw u6))]= [Zar (Qz1 t7),Zae (i64 s8)]∧((Zaa (Zbv t7)<10000∧Zaa (Zbi t7)<10000∧Zaa (Zby t7)<10000)∧q9=busyT t7 s8)∧BIf q9 (R (.d (i64 5)) b) (BIf (decide (Zad .i64 (((Zaa (rowsU (Zbv t)):Nat):Int)+((Zaa (rowsG (Zbi t)):Nat):Int))≥(24:Int))) (R (.d (i64 10)) b) (R (.d (i64 0)) b))))):=by kernel_rfl
theorem CAi9 (t:TabT) (ly:LayT) (u:GraT):wpFn prog ⟨TRfd, [],wlRfd y,y,false⟩ 100 f103 [tabA t,layA ly,graI u] b R=(∃(t0:TabT) (l1:LayT) (q2:Bool), [Zar (Qz1 t),Zar (Qz3 ly)]= [Zar (Qz1 t0),Zar (Qz3 l1)]∧((Zaa (Zbv t0)<10000∧Zaa (Zbi t0)<10000∧Zaa (Zby t0)<10000)∧q2=ACq9 t0 l1)∧BIf (!q2) (R (.d (i64 1)) b) (true=true∧∃(u3:GraT) (l4:LayT) (z5:Bool), [Zar (Qz5 u),Zar (Qz3 ly)]= [Zar (Qz5 u3),Zar (Qz3 l4)]∧z5=graOk u3 l4∧BIf (!z5) (R (.d (i64 1)) b) (∃(u6:GraT), [Zar (Qz5 u)]= [Zar (Qz5 u6)]∧∃(t7:TabT) (s8:Int) (q9:Bool), [Zar (Qz1 t),Zae (i64 (Zdq u6))]= [Zar (Qz1 t7),Zae (i64 s8)]∧((Zaa (Zbv t7)<10000∧Zaa (Zbi t7)<10000∧Zaa (Zby t7)<10000)∧q9=busyT t7 s8)∧BIf q9 (R (.d (i64 5)) b) (BIf (decide (Zad .i64 (((Zaa (rowsU (Zbv t)):Nat):Int)+((Zaa (rowsG (Zbi t)):Nat):Int))≥(24:Int))) (R (.d (i64 10)) b) (R (.d (i64 0)) b))))):=by kernel_rfl
def refS (t:TabT) (ly:LayT) (sl:Int) (ok:Bool):Int:=if ACq9 t ly&&ok then (if busyT t sl then 5 else if (t.us.length:Int)+(t.gs.length:Int)≥24 then 10 else 0) else 1
theorem CFu9 (t:TabT) (ly:LayT) (u:UseT) (ht:TabOk t):PCall prog 103 [tabA t,layA ly,useI u] (.d (i64 (refS t ly u.sl (useOk u ly)))):=by
 refine PCall.ofFnE (n:=100) (u:=false) (fun Ev=>wlRfd Ev.Y) mixed AXq9 Zah (fun Ev=>BZb9 mixed AXq9 ASr9 fun _ _ _ _ _ h=>h.elim) func103 (by rfl) (by rfl) fun Ev bb=> ?_;rw [CAh9,AAj9,AAe9];have hw:Zad Zbc ((t.us.length:Int)+(t.gs.length:Int))=(t.us.length:Int)+(t.gs.length:Int):=AAt9 (by have:=ht.1;have:=ht.2.1;omega) (by have:=ht.1;have:=ht.2.1;omega);rw [hw];refine ⟨t,ly,_,rfl,⟨ht,rfl⟩,Zba (fun h1=> ?_) fun h1=>⟨rfl,u,ly,_,rfl,rfl,Zba (fun h2=> ?_) fun h2=>⟨u,rfl,t,u.sl,_,rfl,⟨ht,rfl⟩,Zba (fun h3=> ?_) fun h3=>Zba (fun h4=> ?_) fun h4=> ?_⟩⟩⟩
 ·rw [Zcp] at h1;rw [refS,h1];rfl
 ·rw [Zcp] at h2;rw [refS,h2,Zdc];rfl
 all_goals (rw [Zek] at h1 h2;rw [refS,h1,h2,h3])
 ·rfl
 ·rw [if_pos (by rfl),if_neg (by decide),if_pos (of_decide_eq_true h4)]
 ·rw [if_pos (by rfl),if_neg (by decide),if_neg (of_decide_eq_false h4)]
def cRefU (args:List AV) (K:AV→Prop):Prop:=∃(t:TabT) (ly:LayT) (u:UseT) (q:Int),args= [tabA t,layA ly,useI u]∧(TabOk t∧q=refS t ly u.sl (useOk u ly))∧K (.d (i64 q))
theorem BWj9:∀args K,cRefU args K→∃x,PCall prog 103 args x∧K x:=by
 rintro _ K ⟨t,ly,u,_,rfl,⟨h,rfl⟩,hk⟩;exact ⟨_,CFu9 t ly u h,hk⟩
theorem CFv9 (t:TabT) (ly:LayT) (u:GraT) (ht:TabOk t):PCall prog 103 [tabA t,layA ly,graI u] (.d (i64 (refS t ly u.sl (graOk u ly)))):=by
 refine PCall.ofFnE (n:=100) (u:=false) (fun Ev=>wlRfd Ev.Y) mixed AXq9 Zah (fun Ev=>BZb9 mixed AXq9 ASr9 fun _ _ _ _ _ h=>h.elim) func103 (by rfl) (by rfl) fun Ev bb=> ?_;rw [CAi9,AAj9,AAe9];have hw:Zad Zbc ((t.us.length:Int)+(t.gs.length:Int))=(t.us.length:Int)+(t.gs.length:Int):=AAt9 (by have:=ht.1;have:=ht.2.1;omega) (by have:=ht.1;have:=ht.2.1;omega);rw [hw];refine ⟨t,ly,_,rfl,⟨ht,rfl⟩,Zba (fun h1=> ?_) fun h1=>⟨rfl,u,ly,_,rfl,rfl,Zba (fun h2=> ?_) fun h2=>⟨u,rfl,t,u.sl,_,rfl,⟨ht,rfl⟩,Zba (fun h3=> ?_) fun h3=>Zba (fun h4=> ?_) fun h4=> ?_⟩⟩⟩
 ·rw [Zcp] at h1;rw [refS,h1];rfl
 ·rw [Zcp] at h2;rw [refS,h2,Zdc];rfl
 all_goals (rw [Zek] at h1 h2;rw [refS,h1,h2,h3])
 ·rfl
 ·rw [if_pos (by rfl),if_neg (by decide),if_pos (of_decide_eq_true h4)]
 ·rw [if_pos (by rfl),if_neg (by decide),if_neg (of_decide_eq_false h4)]
def cRefG (args:List AV) (K:AV→Prop):Prop:=∃(t:TabT) (ly:LayT) (u:GraT) (q:Int),args= [tabA t,layA ly,graI u]∧(TabOk t∧q=refS t ly u.sl (graOk u ly))∧K (.d (i64 q))
theorem BWk9:∀args K,cRefG args K→∃x,PCall prog 103 args x∧K x:=by
 rintro _ K ⟨t,ly,u,_,rfl,⟨h,rfl⟩,hk⟩;exact ⟨_,CFv9 t ly u h,hk⟩
def TAu:List (Nat×(List AV→(AV→Prop)→Prop)):= [(103,cRefU),(107,cInsU),(48,BPr9),(105,BWd9)]
theorem CIb9:AAb9 prog TAu:=Zai BWj9 (Zai BWo9 (Zai BHe9 (Zai AWs9 Zaj)))
def TAg:List (Nat×(List AV→(AV→Prop)→Prop)):= [(103,cRefG),(104,cInsG),(93,BHd9),(105,BWd9)]
theorem CIc9:AAb9 prog TAg:=Zai BWk9 (Zai BWp9 (Zai ASj9 (Zai AWs9 Zaj)))
abbrev Qz4:List AV:= [Zae (Zdx (.slice none 0 0)),Zae (Zdx (.slice none 0 0)),Zae (Zdx (.slice none 0 0))]
abbrev Qz50 (v0:TabT) (v1:LayT) (v2:UseT):List AV:= [Zar (Qz1 v0),Zar (Qz3 v1),Zae (Zdx (Value.iface 149 (Value.agg (Array.mk [Zex Zbc (Zcw v2),Zex Zbc (Zel v2),Zex Zbc (Zgg v2),Zex Zbc (UseT.st v2)]))))]
theorem CEb9 (t:TabT) (ly:LayT) (u:UseT):wpFn prog ⟨TAu, [],wl,y,false⟩ 100 f56 [tabA t,layA ly,useA u] b R=(∃(t0:TabT) (ly1:LayT) (u2:UseT) (q3:Int),(Qz50 t ly u)=(Qz50 t0 ly1 u2)∧((Zaa (Zbv t0)<10000∧Zaa (Zbi t0)<10000∧Zaa (Zby t0)<10000)∧q3=refS t0 ly1 (Zcw u2) (useOk u2 ly1))∧BIf (q3 !=(0:Int)) (R (.tup [Zar Qz4,Zae (i64 q3)]) b) (∃(l4:List UseT) (z5:List UseT) (g6:UseT), [Zae (Zan 4 (rowsU (Zbv t))),Zar (Qz7 u),Zaw (Fn.func 108) [] []]= [Zae (Zan 4 (rowsU l4)),Zar (Qz7 g6),Zaw (Fn.func 108) [] []]∧(Zaa l4<1000000∧z5=insSU g6 l4)∧∃(l7:List GraT), [Zae (Zan 5 (rowsG (Zbi t)))]= [Zae (Zan 5 (rowsG l7))]∧Zaa l7≤1000000∧∃(t8:TabT) (z9:List AskT) (sl10:Int), [Zar (Qz1 t),Zae (i64 (Zcw u))]= [Zar (Qz1 t8),Zae (i64 sl10)]∧((Zaa (Zbv t8)<1000000∧Zaa (Zbi t8)<1000000∧Zaa (Zby t8)<1000000)∧z9=AJk9 t8 sl10)∧R (.tup [Zar (Qz82 z5 l7 z9),Zae (i64 0)]) b)):=by kernel_rfl
abbrev Qz47 (v0:TabT) (v1:LayT) (v2:GraT):List AV:= [Zar (Qz1 v0),Zar (Qz3 v1),Zae (Zdx (Value.iface 140 (Value.agg (Array.mk [Zex Zbc (Zdq v2),Zex Zbc (GraT.of v2),Zex Zbc (GraT.pe v2),Zex Zbc (GraT.st v2),Zex Zbc (Zdt v2)]))))]
theorem CEc9 (t:TabT) (ly:LayT) (u:GraT):wpFn prog ⟨TAg, [],wl,y,false⟩ 100 f52 [tabA t,layA ly,graA u] b R=(∃(t0:TabT) (ly1:LayT) (u2:GraT) (q3:Int),(Qz47 t ly u)=(Qz47 t0 ly1 u2)∧((Zaa (Zbv t0)<10000∧Zaa (Zbi t0)<10000∧Zaa (Zby t0)<10000)∧q3=refS t0 ly1 (Zdq u2) (graOk u2 ly1))∧BIf (q3 !=(0:Int)) (R (.tup [Zar Qz4,Zae (i64 q3)]) b) (∃(l4:List UseT), [Zae (Zan 4 (rowsU (Zbv t)))]= [Zae (Zan 4 (rowsU l4))]∧Zaa l4≤1000000∧∃(l5:List GraT) (z6:List GraT) (g7:GraT), [Zae (Zan 5 (rowsG (Zbi t))),Zar (Qz5 u),Zaw (Fn.func 95) [] []]= [Zae (Zan 5 (rowsG l5)),Zar (Qz5 g7),Zaw (Fn.func 95) [] []]∧(Zaa l5<1000000∧z6=insSG g7 l5)∧∃(t8:TabT) (z9:List AskT) (sl10:Int), [Zar (Qz1 t),Zae (i64 (Zdq u))]= [Zar (Qz1 t8),Zae (i64 sl10)]∧((Zaa (Zbv t8)<1000000∧Zaa (Zbi t8)<1000000∧Zaa (Zby t8)<1000000)∧z9=AJk9 t8 sl10)∧R (.tup [Zar (Qz82 l4 z6 z9),Zae (i64 0)]) b)):=by kernel_rfl
theorem BCk9 (e:Int):LeV (AV.tup [Zar [Zae (Zdx (Zcz none 0 0)),Zae (Zdx (Zcz none 0 0)),Zae (Zdx (Zcz none 0 0))],Zae (i64 e)]) (AV.tup [tabA ⟨[], [], []⟩,Zae (i64 e)]):=
 LeV.tups (.cons (LeV.aggs (by repeat' (first|exact .nil|refine .cons .rfl ?_|refine .cons (.nil rfl) ?_))) (.cons .rfl .nil))
def refEU (t:TabT) (ly:LayT) (u:UseT):Int:=refS t ly u.sl (useOk u ly)
def addSU (t:TabT) (ly:LayT) (u:UseT):TabT:=if refEU t ly u=0 then ⟨insSU u t.us,t.gs,AJk9 t u.sl⟩ else ⟨[], [], []⟩
theorem CGg9 (t:TabT) (ly:LayT) (u:UseT) (ht:TabOk t):PCall prog 56 [tabA t,layA ly,useA u] (.tup [tabA (addSU t ly u), .d (i64 (refEU t ly u))]):=by
 refine PCall.ofFnV (n:=100) (u:=false) (fun _=>fun _ _ _ _ _=>False) mixed CIb9 Zah (fun Ev _ _ _ _ _ h=>h.elim) func56 (by rfl) (by rfl) fun Ev bb=> ?_;rw [CEb9];refine ⟨t,ly,u,_,rfl,⟨ht,rfl⟩,Zba (fun h1=> ?_) fun h1=>⟨t.us,_,u,rfl,⟨by have:=ht.1;omega,rfl⟩,t.gs,rfl,by have:=ht.2.1;omega,t,_,u.sl,rfl,⟨⟨by have:=ht.1;omega,by have:=ht.2.1;omega,by have:=ht.2.2;omega⟩,rfl⟩, ?_⟩⟩
 ·have h2:¬refEU t ly u=0:=by rw [refEU];simpa using h1
  rw [addSU,if_neg h2];exact BCk9 _
 ·have h2:refEU t ly u=0:=by rw [refEU];simpa using h1
  rw [addSU,if_pos h2,h2];exact .rfl
def cAddU (args:List AV) (K:AV→Prop):Prop:=∃(t z:TabT) (ly:LayT) (u:UseT) (e:Int),args= [tabA t,layA ly,useA u]∧(TabOk t∧z=addSU t ly u∧e=refEU t ly u)∧K (.tup [tabA z, .d (i64 e)])
theorem BWv9:∀args K,cAddU args K→∃x,PCall prog 56 args x∧K x:=by
 rintro _ K ⟨t,_,ly,u,_,rfl,⟨h,rfl,rfl⟩,hk⟩;exact ⟨_,CGg9 t ly u h,hk⟩
def refEG (t:TabT) (ly:LayT) (u:GraT):Int:=refS t ly u.sl (graOk u ly)
def addSG (t:TabT) (ly:LayT) (u:GraT):TabT:=if refEG t ly u=0 then ⟨t.us,insSG u t.gs,AJk9 t u.sl⟩ else ⟨[], [], []⟩
theorem CGh9 (t:TabT) (ly:LayT) (u:GraT) (ht:TabOk t):PCall prog 52 [tabA t,layA ly,graA u] (.tup [tabA (addSG t ly u), .d (i64 (refEG t ly u))]):=by
 refine PCall.ofFnV (n:=100) (u:=false) (fun _=>fun _ _ _ _ _=>False) mixed CIc9 Zah (fun Ev _ _ _ _ _ h=>h.elim) func52 (by rfl) (by rfl) fun Ev bb=> ?_;rw [CEc9];refine ⟨t,ly,u,_,rfl,⟨ht,rfl⟩,Zba (fun h1=> ?_) fun h1=>⟨t.us,rfl,by have:=ht.1;omega,t.gs,_,u,rfl,⟨by have:=ht.2.1;omega,rfl⟩,t,_,u.sl,rfl,⟨⟨by have:=ht.1;omega,by have:=ht.2.1;omega,by have:=ht.2.2;omega⟩,rfl⟩, ?_⟩⟩
 ·have h2:¬refEG t ly u=0:=by rw [refEG];simpa using h1
  rw [addSG,if_neg h2];exact BCk9 _
 ·have h2:refEG t ly u=0:=by rw [refEG];simpa using h1
  rw [addSG,if_pos h2,h2];exact .rfl
def cAddG (args:List AV) (K:AV→Prop):Prop:=∃(t z:TabT) (ly:LayT) (u:GraT) (e:Int),args= [tabA t,layA ly,graA u]∧(TabOk t∧z=addSG t ly u∧e=refEG t ly u)∧K (.tup [tabA z, .d (i64 e)])
theorem BWw9:∀args K,cAddG args K→∃x,PCall prog 52 args x∧K x:=by
 rintro _ K ⟨t,_,ly,u,_,rfl,⟨h,rfl,rfl⟩,hk⟩;exact ⟨_,CGh9 t ly u h,hk⟩
noncomputable def lpG1:Code:=sub [1,8,1,1,1,1,0,1,2,3] (code f13)
def tmG1 (s:SideT) (me fr:Int) (x:AV) (n i:Int):List AV:= [.bad, .bad, .d (i64 me), .bad, .d (i64 fr), .ptr 0 0, .ptr 1 0, .bad, .bad, .bad, .ptr 2 0, .rptr (sideD s)]++Zap 31 .bad++ [x, .d (i64 n), .d (i64 i)]++Zap 90 .bad
def grtB (us:List UseT) (x:AV) (ak:List AskT):Blk:=⟨[.d (.sl 4 (rowsU us)),x, .d (.sl 3 (rowsA ak))],false,false,0⟩
def resB:Blk:=⟨[.d (.s (.slice none 0 0)), .d (.s (.slice none 0 0)), .d (.s (.slice none 0 0))],false,false,0⟩
def TG1:List (Nat×(List AV→(AV→Prop)→Prop)):= [(37,cFind),(49,APj9),(50,CDi9)]
theorem CEt9:AAb9 prog TG1:=Zai AUv9 (Zai AMd9 (Zai BMt9 Zaj))
theorem rG1 (s:SideT) (ly:LayT) (us:List UseT) (ak:List AskT) (me fr:Int) (n:Nat) (i:Int) (cs:List AV):wpc prog ⟨TG1,GCG,wl,y,false⟩ 100 lpG1 (tmG1 s me fr (.gref 3 0 n 5) n i) [layB ly,grtB us (.gref 3 0 n 5) ak,resB,growB 0 cs] b (maskK 4 [2,4,5,6,10,11,43,44,45] K)=(BIf (decide (i<(n:Int))) (0=0∧BIf (decide (0≤i)&&decide (i<(n:Int))) (0=0∧∃(x0:Int) (x1:Int) (x2:Int) (x3:Int) (x4:Int),Zbs 5 (Zcf (Zam i*5) cs)=(Qz24 x0 x1 x2 x3 x4)∧∃(s5:SideT) (pe6:Int) (q7:NearT) (e8:Bool), [Zag (Qz2 s),Zae (i64 x2)]= [Zag (Qz2 s5),Zae (i64 pe6)]∧(Zaa (Zat s5)≤9223372036854775807∧q7=nearO (sFind s5 pe6)∧e8=Option.isSome (sFind s5 pe6))∧BIf e8 (∃(s9:SideT) (n10:NearT) (q11:Bool), [Zag (Qz2 s),nearA q7]= [Zag (Qz2 s9),nearA n10]∧q11=AMs9 s9 n10∧BIf q11 (∃(s12:SideT) (n13:NearT) (sl14:Int) (of15:Int) (q16:Bool), [Zag (Qz2 s),nearA q7,Zar [Zae (i64 x0),Zae (i64 x1)]]= [Zag (Qz2 s12),nearA n13,Zar [Zae (i64 sl14),Zae (i64 of15)]]∧((Zaa (Zbk n13)≤9223372036854775807∧Zaa (Zbq n13)≤9223372036854775807)∧q16=AMm9 s12 n13 sl14 of15)∧BIf q16 (0=0∧BIf (decide (0≤i)&&decide (i<(n:Int))) (0=0∧0=0∧BIf (decide (Zam i*5+4+1≤Zaa cs)) (BIf (Zbo [Blk.mk (Qz3 ly) false false 0,Blk.mk [Zae (Zan 4 (rowsU us)),Zbl 3 0 n 5,Zae (Zan 3 (rowsA ak))] false false 0,Blk.mk Qz4 false false 0,Blk.mk (Zbs (Zam i*5+4) cs++ [Zae (i64 (if Zad .i64 (fr+8)>x4 then Zad .i64 (fr+8) else x4))]++Zcf (Zam i*5+4+1) cs) false true 0] fun (blk17:Blk)=>lows 4 blk17.1) (K .normal (Zab::Zab::Zae (i64 me)::Zab::Zae (i64 fr)::Zaf 0 0::Zaf 1 0::bds 3 (Zaf 2 0::Zag (Qz2 s)::bds 31 (Zbl 3 0 n 5::Zae (i64 (n:Int))::Zae (i64 (Zad .i64 (i+1)))::bds 90 []))) [Blk.mk (Qz3 ly) false false 0,Blk.mk [Zae (Zan 4 (rowsU us)),Zbl 3 0 n 5,Zae (Zan 3 (rowsA ak))] false false 0,Blk.mk Qz4 false false 0,Blk.mk (Zbs (Zam i*5+4) cs++ [Zae (i64 (if Zad .i64 (fr+8)>x4 then Zad .i64 (fr+8) else x4))]++Zcf (Zam i*5+4+1) cs) false true 0] b) False) False) False) (BIf (Zbo [Blk.mk (Qz3 ly) false false 0,Blk.mk [Zae (Zan 4 (rowsU us)),Zbl 3 0 n 5,Zae (Zan 3 (rowsA ak))] false false 0,Blk.mk Qz4 false false 0,Blk.mk cs false true 0] fun (blk18:Blk)=>lows 4 blk18.1) (K .normal (Zab::Zab::Zae (i64 me)::Zab::Zae (i64 fr)::Zaf 0 0::Zaf 1 0::bds 3 (Zaf 2 0::Zag (Qz2 s)::bds 31 (Zbl 3 0 n 5::Zae (i64 (n:Int))::Zae (i64 (Zad .i64 (i+1)))::bds 90 []))) [Blk.mk (Qz3 ly) false false 0,Blk.mk [Zae (Zan 4 (rowsU us)),Zbl 3 0 n 5,Zae (Zan 3 (rowsA ak))] false false 0,Blk.mk Qz4 false false 0,Blk.mk cs false true 0] b) False)) (BIf (Zbo [Blk.mk (Qz3 ly) false false 0,Blk.mk [Zae (Zan 4 (rowsU us)),Zbl 3 0 n 5,Zae (Zan 3 (rowsA ak))] false false 0,Blk.mk Qz4 false false 0,Blk.mk cs false true 0] fun (blk19:Blk)=>lows 4 blk19.1) (K .normal (Zab::Zab::Zae (i64 me)::Zab::Zae (i64 fr)::Zaf 0 0::Zaf 1 0::bds 3 (Zaf 2 0::Zag (Qz2 s)::bds 31 (Zbl 3 0 n 5::Zae (i64 (n:Int))::Zae (i64 (Zad .i64 (i+1)))::bds 90 []))) [Blk.mk (Qz3 ly) false false 0,Blk.mk [Zae (Zan 4 (rowsU us)),Zbl 3 0 n 5,Zae (Zan 3 (rowsA ak))] false false 0,Blk.mk Qz4 false false 0,Blk.mk cs false true 0] b) False)) (BIf (Zbo [Blk.mk (Qz3 ly) false false 0,Blk.mk [Zae (Zan 4 (rowsU us)),Zbl 3 0 n 5,Zae (Zan 3 (rowsA ak))] false false 0,Blk.mk Qz4 false false 0,Blk.mk cs false true 0] fun (blk20:Blk)=>lows 4 blk20.1) (K .normal (Zab::Zab::Zae (i64 me)::Zab::Zae (i64 fr)::Zaf 0 0::Zaf 1 0::bds 3 (Zaf 2 0::Zag (Qz2 s)::bds 31 (Zbl 3 0 n 5::Zae (i64 (n:Int))::Zae (i64 (Zad .i64 (i+1)))::bds 90 []))) [Blk.mk (Qz3 ly) false false 0,Blk.mk [Zae (Zan 4 (rowsU us)),Zbl 3 0 n 5,Zae (Zan 3 (rowsA ak))] false false 0,Blk.mk Qz4 false false 0,Blk.mk cs false true 0] b) False)) False) (BIf (Zbo [Blk.mk (Qz3 ly) false false 0,Blk.mk [Zae (Zan 4 (rowsU us)),Zbl 3 0 n 5,Zae (Zan 3 (rowsA ak))] false false 0,Blk.mk Qz4 false false 0,Blk.mk cs false true 0] fun (blk21:Blk)=>lows 4 blk21.1) (K (Zbn 0) (Zab::Zab::Zae (i64 me)::Zab::Zae (i64 fr)::Zaf 0 0::Zaf 1 0::bds 3 (Zaf 2 0::Zag (Qz2 s)::bds 31 (Zbl 3 0 n 5::Zae (i64 (n:Int))::Zae (i64 i)::bds 90 []))) [Blk.mk (Qz3 ly) false false 0,Blk.mk [Zae (Zan 4 (rowsU us)),Zbl 3 0 n 5,Zae (Zan 3 (rowsA ak))] false false 0,Blk.mk Qz4 false false 0,Blk.mk cs false true 0] b) False)):=by kernel_rfl
def AEf9 (s:SideT) (g:GraT):Bool:=(sFind s g.pe).isSome&&(AMs9 s (nearO (sFind s g.pe))&&AMm9 s (nearO (sFind s g.pe)) g.sl g.of)
def BEe9 (fr:Int) (g:GraT):GraT:=⟨g.sl,g.of,g.pe,g.st,if Zad Zbc (fr+8)>g.un then Zad Zbc (fr+8) else g.un⟩
def ACl9 (s:SideT) (fr:Int) (g:GraT):GraT:=if AEf9 s g=true then BEe9 fr g else g
def curG (s:SideT) (fr:Int) (gs:List GraT) (i:Nat):List GraT:=(gs.take i).map (ACl9 s fr)++gs.drop i
theorem BVs9 (s:SideT) (fr:Int) (gs:List GraT) (i:Nat):(curG s fr gs i).length=gs.length:=by simp [curG];omega
theorem BOz9 {s:SideT} {fr:Int} {gs:List GraT} {i:Nat} {g:GraT} (h:gs[i]? =some g):(curG s fr gs i)[i]? =some g:=by
 have hi:=(Zac.1 h).1;rw [curG,List.getElem?_append_right (by simp;omega)];simp only [List.length_map,Zca,Nat.min_eq_left (Nat.le_of_lt hi),Nat.sub_self];rw [List.getElem?_drop];simpa using h
theorem AWp9 {s:SideT} {fr:Int} {gs:List GraT} {i:Nat} {g:GraT} (h:gs[i]? =some g):curG s fr gs (i+1)=(curG s fr gs i).set i (ACl9 s fr g):=by
 have hi:=(Zac.1 h).1;rw [curG,curG,Zfj,h,List.set_append_right _ _ (by simp;omega)];simp only [List.length_map,Zca,Nat.min_eq_left (Nat.le_of_lt hi),Nat.sub_self,Option.toList_some,List.map_append,Zdr,List.map_nil,Zbt,Zfb,List.nil_append];congr 1;rw [List.drop_eq_getElem_cons hi,List.set_cons_zero]
theorem APh9 {s:SideT} {fr:Int} {gs:List GraT} {i:Nat} {g:GraT} (h:gs[i]? =some g) (hr:AEf9 s g=false):curG s fr gs (i+1)=curG s fr gs i:=by
 rw [AWp9 h,ACl9,hr,if_neg (by decide)];exact ABl9 (BOz9 h)
theorem CCp9 {cur:List GraT} {i:Nat} {g:GraT} (h:cur[i]? =some g) (z:Int):(flatA (rowsG cur)).take (i*5+4)++ [Zae (i64 z)]++(flatA (rowsG cur)).drop (i*5+4+1)=flatA (rowsG (cur.set i ⟨g.sl,g.of,g.pe,g.st,z⟩)):=by
 have hi:=(Zac.1 h).1;have e:=BVc9 AFp9 (hs:=cur) (i:=i) hi ⟨g.sl,g.of,g.pe,g.st,z⟩;have ea:=fl_at AFp9 h;have f:∀l:List GraT,flatA (rowsG l)=flatA (l.map graR):=fun _=>rfl;rw [f,f,←e,List.take_add];have e4:((flatA (cur.map graR)).drop (i*5)).take 4=((graR g).map Zae).take 4:=by rw [←ea,List.take_take];rfl
 rw [e4];simp only [graR,Zdr,List.map_nil,List.take_succ_cons,List.take_zero,Zbt,Zfb,List.nil_append]
def g1B (ly:LayT) (us:List UseT) (ak:List AskT) (n:Nat) (gs:List GraT):List Blk:= [layB ly,grtB us (.gref 3 0 n 5) ak,resB,growB 0 (flatA (rowsG gs))]
theorem CGl9 (ly:LayT) (us:List UseT) (ak:List AskT) (n:Nat) (gs:List GraT):Zbo (g1B ly us ak n gs) (fun blk=>lows 4 blk.1)=true:=by
 simp only [g1B,List.all_cons,List.all_nil,Bool.and_true,Zak];exact ⟨rfl,rfl,rfl,ACu9 4 _⟩
def AGl9 (s:SideT):Prop:=s.ns.length≤9223372036854775807∧∀x∈s.ns,AFb9 x
theorem BDy9 {s:SideT} (hs:AGl9 s) (pe:Int):AFb9 (nearO (sFind s pe)):=by
 cases h:sFind s pe with
 |none=>exact ⟨by decide,by decide,by decide⟩
 |some n=>exact hs.2 n (List.mem_of_find?_eq_some h)
theorem wrG1 {Ev:Env prog} {b:Ev.β} {Q:Exit→St Ev.β→Prop} (s:SideT) (ly:LayT) (us:List UseT) (ak:List AskT) (me fr:Int) (gs:List GraT) (hs:AGl9 s) (hl:gs.length<1000000)
 (hQ:Q (.exit 0) ⟨tmG1 s me fr (.gref 3 0 gs.length 5) gs.length gs.length,g1B ly us ak gs.length (curG s fr gs gs.length),b⟩):WR Ev lpG1 (gs.length+1) ⟨tmG1 s me fr (.gref 3 0 gs.length 5) gs.length (0:Nat),g1B ly us ak gs.length (curG s fr gs 0),b⟩ Q:=by
 have low:=CGl9 ly us ak gs.length;refine WR.scanG (X:=⟨TG1,GCG,wlW Ev,Ev.Y,false⟩) (k:=100) (L:=4) [2,4,5,6,10,11,43,44,45] mixed (CX.Ok.of CEt9 BAr9) gs (fun _=>false) (fun i=>tmG1 s me fr (.gref 3 0 gs.length 5) gs.length (i:Nat)) (fun i=>g1B ly us ak gs.length (curG s fr gs i)) (fun _=>rfl) 0 0 (fun i g _ hi hg K _ k2=> ?_) (fun K k1=> ?_) (fun _=>hQ) (fun h=>by simp at h) gs.length 0 (by simp) (Zax _) rfl
 ·refine Eq.mpr (rG1 _ _ _ K s ly us ak me fr gs.length i _) ?_;have hk:=k2 rfl;have hc:=BOz9 (s:=s) (fr:=fr) hg;have hn:=BDy9 hs g.pe;refine Zaz (by simp;omega) ⟨rfl,Zaz (by simp;omega) ⟨rfl,_,_,_,_,_,by rw [Zco];exact fl_at AFp9 hc,s,g.pe,_,_,rfl,⟨hs.1,rfl,rfl⟩,Zba (fun h1=>⟨s,nearO (sFind s g.pe),_,rfl,rfl,Zba (fun h2=>⟨s,nearO (sFind s g.pe),g.sl,g.of,_,rfl,⟨⟨by have:=hn.1;omega,by have:=hn.2.2;omega⟩,rfl⟩,Zba (fun h3=> ?_) fun h3=> ?_⟩) fun h2=> ?_⟩) fun h1=> ?_⟩⟩
  ·have hr:AEf9 s g=true:=by rw [AEf9,h1,h2,h3];rfl
   have e4:=CCp9 hc (BEe9 fr g).un;have es:curG s fr gs (i+1)=(curG s fr gs i).set i ⟨g.sl,g.of,g.pe,g.st,(BEe9 fr g).un⟩:=by rw [AWp9 hg,ACl9,if_pos hr];rfl
   have hl2:=low (curG s fr gs (i+1));simp only [g1B,es,←e4] at hk hl2;refine ⟨rfl,Zaz (by simp;omega) ⟨rfl,rfl,Zaz ?_ ?_⟩⟩
   ·have:=AZj9 AFp9 (curG s fr gs i);rw [Zco,show flatA (rowsG (curG s fr gs i))=flatA ((curG s fr gs i).map graR) from rfl,this,BVs9];simp;omega
   ·rw [Zco,wrapN (by omega)];exact Zaz hl2 hk
  ·have hr:AEf9 s g=false:=by rw [AEf9,h1,h2,h3];rfl
   rw [APh9 hg hr] at hk;rw [wrapN (by omega)];exact Zaz (low _) hk
  ·have hr:AEf9 s g=false:=by rw [AEf9,h1,h2];rfl
   rw [APh9 hg hr] at hk;rw [wrapN (by omega)];exact Zaz (low _) hk
  ·have hr:AEf9 s g=false:=by rw [AEf9,h1];rfl
   rw [APh9 hg hr] at hk;rw [wrapN (by omega)];exact Zaz (low _) hk
 ·refine Eq.mpr (rG1 _ _ _ K s ly us ak me fr gs.length gs.length _) ?_;exact Zdf (by simp) (Zaz (low _) k1)
theorem BEs9 {tm:List AV} {hp:List Blk} {c off:Nat} {blk:Blk} {x y:AV} {gs:List Nat} (hc:hp[c]? =some blk) (hx:blk.cells[off]? =some x) (hs:SealR hp x y) (hg:∀g∈occ x,g∈gs) (ho:y.isOwn=false) (hcg:(frz hp gs)[c]? =some blk):
 FrzOk ⟨tm,hp, []⟩ ⟨tm,(frz hp gs).set c {blk with cells:=blk.cells.set off y}, []⟩:=by
 intro S X yv w m B hv a hr;obtain ⟨hl,hr,hpv⟩:=hr;obtain ⟨S',h1,h2,h3,h4⟩:=Rel.frzAll gs hr;refine ⟨S',⟨Agree.refl _ _ _,h1,h2,MStep.refl m⟩,hl, ?_,hpv⟩;have hr':Rel S X yv w m ((tm.zip a.tmps.toList++B)++AAa9 hp hv) hp hv:=by simpa using hr
 have hvl:c<hv.length:=by rw [hr'.hl];exact (Zac.1 hc).1
 have hcv:hv[c]? =some hv[c]:=Zbb hvl;obtain ⟨pre,post,e1,e2⟩:=ABq9 hcg hcv;have e3:=e2 {blk with cells:=blk.cells.set off y} hv[c];have hvs:hv.set c hv[c]=hv:=ABl9 hcv;rw [hvs] at e3;have hcp:AAa9 (frz hp gs) hv=AAa9 hp hv:=AEn9 hv (APa9 gs hp);have h3':Rel S' X yv w m ((blk.cells.zip hv[c])++((tm.zip a.tmps.toList++B)++(pre++post))) (frz hp gs) hv:=by
  refine Rel.perm (A:=(tm.zip a.tmps.toList++B)++AAa9 hp hv) (by simpa using h3) ?_;rw [←hcp,e1];have:((tm.zip a.tmps.toList++B)++(pre++blk.cells.zip hv[c]++post)).Perm ((blk.cells.zip hv[c])++((tm.zip a.tmps.toList++B)++(pre++post))):=by
   have p1:(pre++blk.cells.zip hv[c]++post).Perm (blk.cells.zip hv[c]++(pre++post)):=by
    rw [←Zbt];exact List.Perm.append_right _ List.perm_append_comm
   refine (List.Perm.append_left _ p1).trans ?_;rw [←Zbt,←Zbt (blk.cells.zip hv[c])];exact List.Perm.append_right _ List.perm_append_comm
  exact this
 have key:∀(l:List AV) (vs:List Value) (o:Nat),l[o]? =some x→(∀p∈l.zip vs,RV S w m yv p.1 p.2)→RP S' w m yv (l.zip vs) ((l.set o y).zip vs):=by
  intro l;induction l with
  |nil=>intro vs o h;simp at h
  | cons z l ih=>
   intro vs o h hrv;cases vs with
   |nil=>rw [List.zip_nil_right,List.zip_nil_right];exact .nil
   | cons v vs=>
    cases o with
    | zero=>
     simp at h;subst h;refine .turn ?_ (ALg9 ho) ?_
     ·exact (AIs9 hr' h1 hs (fun g hgg p hp i hi=>h4 g (hg g hgg) p hp i hi) (hrv (z,v) (by simp))).opened
     ·have:∀q:List (AV×Value),RP S' w m yv q q:=fun q=>by
       induction q with
       |nil=>exact .nil
       |cons p q ih=>exact .keep ih
      exact this _
    | succ o=>
     simp only [List.set_cons_succ,List.zip_cons_cons];exact .keep (ih vs o (by simpa using h) fun p hp=>hrv p (List.mem_cons_of_mem _ hp))
 have h5:=Rel.rp (key blk.cells hv[c] off hx fun p hp=>hr'.rv p (Zee _ (by rw [←hcp,e1];exact List.mem_append_left _ (Zee _ hp)))) h3';have h6:Rel S' X yv w m ((tm.zip a.tmps.toList++B)++AAa9 ((frz hp gs).set c {blk with cells:=blk.cells.set off y}) hv) (frz hp gs) hv:=by
  refine h5.perm ?_;rw [e3];have p1:(pre++(blk.cells.set off y).zip hv[c]++post).Perm ((blk.cells.set off y).zip hv[c]++(pre++post)):=by
   rw [←Zbt];exact List.Perm.append_right _ List.perm_append_comm
  refine List.Perm.symm ((List.Perm.append_left _ p1).trans ?_);rw [←Zbt,←Zbt ((blk.cells.set off y).zip hv[c])];exact List.Perm.append_right _ List.perm_append_comm
 have h7:Rel S' X yv w m ((tm.zip a.tmps.toList++B)++AAa9 ((frz hp gs).set c {blk with cells:=blk.cells.set off y}) hv) ((frz hp gs).set c {blk with cells:=blk.cells.set off y}) hv:=by
  refine ⟨h6.lt,h6.rv,h6.pw,h6.nm,h6.sp,h6.mnd,by rw [List.length_set];exact h6.ml,by rw [List.length_set];exact h6.hl,fun g b' p vs g1 g2 g3=> ?_,h6.gl⟩;by_cases hgc:c=g
  ·subst hgc;rw [List.getElem?_set_self (Zac.1 hcg).1] at g1;cases g1;have:=h6.bl c blk p vs hcg g2 g3;simpa using this
  ·rw [List.getElem?_set_ne hgc] at g1;exact h6.bl g b' p vs g1 g2 g3
 simpa using h7
end Go.Proofs.YthcbbmnjikhihaaGreat.Am