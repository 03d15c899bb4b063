import Derived.Test.YthcbbmnjikhihaaGreatPmJ4
import Derived.Shelf.SlSortCmp.WholeK
import Derived.Test.YthcbbmnjikhihaaGreatProg
import Derived.Shelf.SlSortCmp.NoneTotal
import Derived.Test.YthcbbmnjikhihaaGreatPmJ2
import Derived.Test.YthcbbmnjikhihaaGreatRows
import Derived.ProofKit
set_option linter.unusedSimpArgs false
set_option linter.unusedVariables false
namespace Go.Proofs.YthcbbmnjikhihaaGreat.Am
open Go Go.RowKit Go.Proofs Tryz
open AV renaming agg → Zan, bad → Zab, d → Zad, fn → Zav, gref → Zbh, own → Zcc, ptr → Zae, rptr → Zah
open AskT renaming sl → Zde
open BIf renaming f → Zci, of → Zax, t → Zas
open Bool renaming and_eq_true → Zal, and_false → Zcn, false_and → Zdb, false_eq_true → Zcm, not_eq_true' → Zcb
open AAb9 renaming cons → Zag, nil → Zai
open Go.Code renaming loop → Zaq
open Dv renaming fn → Zcw, pt → Zdo, s → Zdk, sl → Zaj
open Go.Exit renaming exit → Zba, normal → Zfp
open Int renaming toNat → Zak
open Go.IntKind renaming i64 → Zbb, wrap → Zac
open LayT renaming da → Zbr
open LeH renaming refl → Zbg
open LeVs renaming refl → Zga
open List renaming all → Zbl, any → Zcp, append_assoc → Zbm, append_nil → Zco, cons_append → Zdv, drop → Zcg, filter_sublist → Zgh, getElem?_eq_getElem → Zbc, getElem?_map → Zbp, length → Zaa, length_append → Zbi, length_cons → Zfr, length_filter_le → Zcd, length_take → Zcj, mem_append → Zca, mem_cons → Zbu, mem_cons_of_mem → Zch, mem_cons_self → Zby, mem_filter → Zeb, mem_map → Zbf, pairwise_cons → Zdh, replicate → Zam, take → Zbq, take_length → Zdc
open Nat renaming le_refl → Zat
open NearT renaming gs → Zce, us → Zcl
open AAl9 renaming cons → Zbt, nil → Zar
open SideT renaming lay → Zct, ns → Zau
open TabT renaming ak → Zck, gs → Zbx, us → Zbv
variable {β:Type} (wl:WLT β) (y:ADo9 β) (b:β) (R:AV→β→Prop) (Kr:AV→List Blk→β→Prop) (K:Exit→List AV→List Blk→β→Prop) (Kh:Exit→List Blk→β→Prop) (Q:β→Prop)
open AV (bad)
set_option linter.unusedVariables false
set_option maxRecDepth 20000
set_option maxHeartbeats 1000000
def takeN (s:SideT) (ly:LayT) (ts:Prs) (t:TabT) (n:NearT):TabT:=if hasP n.fm ts=true then (ADg9 s n).foldl (AEd9 ly n) t else t
theorem BVd9 {s:SideT} {ly:LayT} {ts:Prs} {t:TabT} {n:NearT} (h:TabOk t):TabOk (takeN s ly ts t n):=by
 unfold takeN;split
 ·exact AUl9 _ h
 ·exact h
theorem AWo9 {s:SideT} {ly:LayT} {ts:Prs}:∀(l:List NearT) {t:TabT},TabOk t→TabOk (l.foldl (takeN s ly ts) t)
 | [],t,h=>h
 |a::l,t,h=>AWo9 l (BVd9 h)
theorem wrT3 {N:Nat} {w0:World} {lent:List Nat} {Q:Exit→St PrsG→Prop} (s:SideT) (ly:LayT) (t:TabT) (d:Nat) (ts:Prs) (hs:AGx9 s) (ht:TabOk t) (hl:s.ns.length<1000000) (hk:∀n∈s.ns,InI n.fm)
 (hQ:Q (.exit 4) ⟨tmT3 s d s.ns.length,tkB ly (s.ns.foldl (takeN s ly ts) t),some (d,ts)⟩):WR (EvP N w0 lent) lpT3 (s.ns.length+1) ⟨tmT3 s d (0:Nat),tkB ly t,some (d,ts)⟩ Q:=by
 refine WR.scanB (Ev:=EvP N w0 lent) (X:=⟨TTm,UTm,wlTm wlT4,fun _ _ _=>False,false⟩) (k:=100) (L:=3) [5,6,10,11,13,94,95,96] mixed (AOn9 CBd9) s.ns (fun i=>tmT3 s d (i:Nat)) (fun i=>tkB ly ((s.ns.take i).foldl (takeN s ly ts) t)) (fun i=>(some (d,ts):PrsG)) (fun _=>rfl) 4 (fun i n hi hn K k1=> ?_) (fun K k1=> ?_) (by rw [Zdc];exact hQ) s.ns.length 0 (by omega)
 ·have hti:TabOk ((s.ns.take i).foldl (takeN s ly ts) t):=AWo9 _ ht;rw [ACe9 _ _ hn] at k1;generalize (s.ns.take i).foldl (takeN s ly ts) t=ti at k1 hti ⊢;have hnl:=hs.2 n (List.mem_of_getElem? hn);refine Eq.mpr (rT3 K s ly ti d ts i) ?_;refine Zas (by simp;omega) (Zas (natI i) ⟨_,AAr9 hn,rfl,d,ts,n.fm,_,rfl,rfl,rfl,hk n (List.mem_of_getElem? hn),rfl,Zax (fun h1=> ?_) fun h1=> ?_⟩)
  ·rw [wrapN (by omega)];rw [Zcb] at h1;rw [takeN,h1,if_neg (by decide)] at k1;exact k1
  ·rw [Bool.not_eq_false'] at h1;rw [takeN,h1,if_pos rfl] at k1;have hgl:(ADg9 s n).length<1000000:=Nat.lt_of_le_of_lt (Zcd _ _) hnl.2.1;refine ⟨s,n,_,rfl,⟨hnl.2.1,rfl⟩,s,ly,ti,_,n,d,ts,i,ADg9 s n,rfl, ?_,rfl,rfl,⟨hti,hgl,rfl⟩, ?_⟩
   ·rw [AAd9]
   ·rw [wrapN (by omega)];exact k1
 ·refine Eq.mpr (rT3 K s ly _ d ts s.ns.length) ?_;exact Zci (by simp) k1
def wlTk1:WLT PrsG:=fun cd tm hp b K=>∃(s:SideT) (ly:LayT) (t:TabT) (d:Nat) (ts q:Prs) (l:List AskT),cd= .loop lpT1∧AAn9 [5,6,10,11,13,43,44,45] 0 tm=tmT1 s d l 0∧hp=tkB ly t∧b=some (d,ts)∧(ts.length+l.length<1000000∧(∀a∈l,InI a.pe)∧q=AHh9 (fun a:AskT=>a.pe) l ts)∧K (.exit 0) (tmT1 s d l l.length) (tkB ly t) (some (d,q))
def tmT2n (s:SideT) (d:Nat) (l:List UseT) (i:Int):List AV:=tmT s d (.d (.s (.slice none 0 0)))++Zam 37 .bad++ [.d (.sl 4 (rowsU l)), .d (i64 l.length), .d (i64 i)]++Zam 77 .bad
def wlTk2:WLT PrsG:=fun cd tm hp b K=>∃(s:SideT) (ly:LayT) (t:TabT) (d:Nat) (ts q:Prs) (l z:List UseT),cd= .loop lpT2∧AAn9 [5,6,10,11,13,16,54,55,56] 0 tm=tmT2n s d l 0∧hp=tkB ly t∧b=some (d,ts)∧(AGx9 s∧ts.length+l.length<1000000∧(∀a∈l,InI a.pe)∧q=AHh9 (fun a:UseT=>a.pe) l ts∧z=l.flatMap (ACj9 s))∧K (.exit 2) (tmT2 s d (rowsU z) l l.length) (tkB ly t) (some (d,q))
def wlTk3:WLT PrsG:=fun cd tm hp b K=>∃(s:SideT) (ly:LayT) (us:List UseT) (gs:List GraT) (ak:List AskT) (q:TabT) (d:Nat) (ts:Prs),cd= .loop lpT3∧AAn9 [5,6,10,11,13,94,95,96] 0 tm=tmT3 s d 0∧hp=tkB ly ⟨us,gs,ak⟩∧b=some (d,ts)∧(AGx9 s∧TabOk ⟨us,gs,ak⟩∧s.ns.length<1000000∧(∀n∈s.ns,InI n.fm)∧q=s.ns.foldl (takeN s ly ts) ⟨us,gs,ak⟩)∧K (.exit 4) (tmT3 s d s.ns.length) (tkB ly q) (some (d,ts))
def wlTk:WLT PrsG:=fun cd tm hp b K=>match cidO cd with
 |7=>wlTk1 cd tm hp b K
 |13=>wlTk2 cd tm hp b K
 |25=>wlTk3 cd tm hp b K
 |_=>False
theorem CAy9 {N:Nat} {w0:World} {lent:List Nat} (c:Code) (tm:List AV) (hp:List Blk) (b:PrsG) (K:Exit→List AV→List Blk→PrsG→Prop) (h:wlTk c tm hp b K):W (EvP N w0 lent) c ⟨tm,hp,b⟩ (fun e s=>K e s.tm s.hp s.b):=by
 unfold wlTk at h;split at h
 ·obtain ⟨s,ly,t,d,ts,_,l,rfl,htm,rfl,rfl,⟨hl,hk,rfl⟩,hK⟩:=h;refine W.cast (htm▸AAc9 _ tm 0) (Zbg _) ?_;exact W.rounds (wrT1 (Q:=fun e s=>K e s.tm s.hp s.b) s ly t d ts l hl hk hK)
 ·obtain ⟨s,ly,t,d,ts,_,l,_,rfl,htm,rfl,rfl,⟨hs,hl,hk,rfl,rfl⟩,hK⟩:=h;refine W.cast (htm▸AAc9 _ tm 0) (Zbg _) ?_;refine W.cast (tm':=tmT2 s d (rowsU []) l 0) (LeL.at [_,_,_,_,_,_,_,_,_,_,_,_,_,_,_,_] _ (LeA.nilOwn rfl)) (Zbg _) ?_;exact W.rounds (wrT2 (Q:=fun e s=>K e s.tm s.hp s.b) s ly t d ts l hs hl hk hK)
 ·obtain ⟨s,ly,us,gs,ak,_,d,ts,rfl,htm,rfl,rfl,⟨hs,ht,hl,hk,rfl⟩,hK⟩:=h;refine W.cast (htm▸AAc9 _ tm 0) (Zbg _) ?_;exact W.rounds (wrT3 (Q:=fun e s=>K e s.tm s.hp s.b) s ly ⟨us,gs,ak⟩ d ts hs ht hl hk hK)
 ·exact h.elim
section
variable (y:ADo9 PrsG) (R:AV→PrsG→Prop)
theorem CCm9 (ly:LayT) (t:TabT) (me:Int) (l:List NearT) (fr:Int):wpFn prog ⟨TTm,UTm,wlTm wlTk,y,false⟩ 100 f14 [layA ly,tabA t, .d (i64 me), .d (.sl 31 (rowsN l)), .d (i64 fr)] none R=(∃(ly0:LayT) (t1:TabT) (me2:Int) (l3:List NearT) (fr4:Int) (s5:SideT) (q6:Bool),(Qz8 ly t me l fr)=(Qz8 ly0 t1 me2 l3 fr4)∧(TabOk t1∧Zaa l3<1000000∧(∀(x:NearT),x∈l3→ACi9 x)∧q6=newS ly0 t1 me2 l3 fr4∧s5=sideS ly0 me2 l3 fr4)∧BIf q6 (NoP none∧108=108∧∀(d:Nat),∃(s7:SideT) (ly8:LayT) (t9:TabT) (d10:Nat) (ts11:Prs) (q12:Prs) (l13:List AskT),Zaq lpT1=Zaq lpT1∧(bds 5 (Zae 0 0::Zae 1 0::bds 3 (Zae 2 0::Zah (Qz2 s5)::Zab::Zad (Zdk (Value.map (some d)))::bds 29 (Zad (Zaj 3 (rowsA (Zck t)))::Zad (i64 ((Zaa (rowsA (Zck t)):Nat):Int))::Zad (i64 0)::bds 88 []))))=(bds 5 (Zae 0 0::Zae 1 0::bds 3 (Zae 2 0::Zah (Qz2 s7)::Zab::Zad (Zdk (Value.map (some d10)))::bds 29 (Zad (Zaj 3 (rowsA l13))::Zad (i64 ((Zaa l13:Nat):Int))::Zad (i64 0)::bds 88 []))))∧ [bk (Qz3 ly),bk (Qz1 t),bk Qz4]= [bk (Qz3 ly8),bk (Qz1 t9),bk Qz4]∧some (d, [])=some (d10,ts11)∧(Zaa ts11+Zaa l13<1000000∧(∀(a:AskT),a∈l13→InI (AskT.pe a))∧q12=AHh9 (fun (a14:AskT)=>AskT.pe a14) l13 ts11)∧∃(s15:SideT) (ly16:LayT) (t17:TabT) (d18:Nat) (ts19:Prs) (q20:Prs) (l21:List UseT) (z22:List UseT),Zaq lpT2=Zaq lpT2∧(bds 5 (Zae 0 0::Zae 1 0::bds 3 (Zae 2 0::Zah (Qz2 s7)::Zab::Zad (Zdk (Value.map (some d10)))::Zab::Zab::Zad (Zdk (.slice none 0 0))::bds 37 (Zad (Zaj 4 (rowsU (Zbv t9)))::Zad (i64 ((Zaa (rowsU (Zbv t9)):Nat):Int))::Zad (i64 0)::bds 77 []))))=(bds 5 (Zae 0 0::Zae 1 0::bds 3 (Zae 2 0::Zah (Qz2 s15)::Zab::Zad (Zdk (Value.map (some d18)))::Zab::Zab::Zad (Zdk (.slice none 0 0))::bds 37 (Zad (Zaj 4 (rowsU l21))::Zad (i64 ((Zaa l21:Nat):Int))::Zad (i64 0)::bds 77 []))))∧ [bk (Qz3 ly8),bk (Qz1 t9),bk Qz4]= [bk (Qz3 ly16),bk (Qz1 t17),bk Qz4]∧some (d10,q12)=some (d18,ts19)∧((Zaa (Zau s15)≤9223372036854775807∧∀(x:NearT),x∈Zau s15→Zaa (Zcl x)<1000000∧Zaa (Zce x)<1000000∧Zaa (NearT.ak x)<1000000)∧Zaa ts19+Zaa l21<1000000∧(∀(a:UseT),a∈l21→InI (UseT.pe a))∧q20=AHh9 (fun (a23:UseT)=>UseT.pe a23) l21 ts19∧z22=List.flatMap (ACj9 s15) l21)∧∃(s24:SideT) (ly25:LayT) (us26:List UseT) (gs27:List GraT) (ak28:List AskT) (q29:TabT) (d30:Nat) (ts31:Prs),Zaq lpT3=Zaq lpT3∧(bds 5 (Zae 0 0::Zae 1 0::bds 3 (Zae 2 0::Zah (Qz2 s15)::Zab::Zad (Zdk (Value.map (some d18)))::bds 80 (Zad (Zaj 31 (rowsN (Zau s15)))::Zad (i64 ((Zaa (rowsN (Zau s15)):Nat):Int))::Zad (i64 0)::bds 37 []))))=(bds 5 (Zae 0 0::Zae 1 0::bds 3 (Zae 2 0::Zah (Qz2 s24)::Zab::Zad (Zdk (Value.map (some d30)))::bds 80 (Zad (Zaj 31 (rowsN (Zau s24)))::Zad (i64 ((Zaa (Zau s24):Nat):Int))::Zad (i64 0)::bds 37 []))))∧ [bk (Qz3 ly16),bk [Zad (Zaj 4 (rowsU z22)),Zad (Zaj 5 (rowsG (Zbx t17))),Zad (Zaj 3 (rowsA (Zck t17)))],bk Qz4]= [bk (Qz3 ly25),bk [Zad (Zaj 4 (rowsU (Zbv (TabT.mk us26 gs27 ak28)))),Zad (Zaj 5 (rowsG (Zbx (TabT.mk us26 gs27 ak28)))),Zad (Zaj 3 (rowsA (Zck (TabT.mk us26 gs27 ak28))))],bk Qz4]∧some (d18,q20)=some (d30,ts31)∧((Zaa (Zau s24)≤9223372036854775807∧∀(x:NearT),x∈Zau s24→Zaa (Zcl x)<1000000∧Zaa (Zce x)<1000000∧Zaa (NearT.ak x)<1000000)∧TabOk (TabT.mk us26 gs27 ak28)∧Zaa (Zau s24)<1000000∧(∀(n:NearT),n∈Zau s24→InI (NearT.fm n))∧q29=List.foldl (takeN s24 ly25 ts31) (TabT.mk us26 gs27 ak28) (Zau s24))∧R (.agg (Qz1 q29)) (some (d30,ts31))) (R (.agg (Qz1 t)) none)):=by kernel_rfl
end
theorem AGf9 {α:Type} {ok:α→Bool} {sl:α→Int}:∀ {l:List α} {last:Int} {ts:Cnt},(ABg9 ok sl last l ts).1=true→(∀x∈l,ok x=true)∧(∀x∈l,last<sl x)∧l.Pairwise (fun a b=>sl a<sl b)
 | [],last,ts,h=>⟨by simp,by simp,List.Pairwise.nil⟩
 | x::r,last,ts,h=>by
  unfold ABg9 at h;split at h
  ·cases h
  ·rename_i h1;split at h
   ·cases h
   ·rename_i h2;obtain ⟨a1,a2,a3⟩:=AGf9 h;refine ⟨fun y hy=> ?_,fun y hy=> ?_,Zdh.2 ⟨a2,a3⟩⟩
    ·rcases Zbu.1 hy with rfl|hy
     ·simpa using h1
     ·exact a1 y hy
    ·rcases Zbu.1 hy with rfl|hy
     ·omega
     ·have:=a2 y hy;omega
theorem AIb9 {t:TabT} {l:LayT} (h:ACq9 t l=true):((∀x∈t.us,useOk x l=true)∧t.us.Pairwise (fun a b=>a.sl<b.sl))∧((∀x∈t.gs,graOk x l=true)∧t.gs.Pairwise (fun a b=>a.sl<b.sl))∧((∀x∈t.ak,askOk x l=true)∧t.ak.Pairwise (fun a b=>a.sl<b.sl))∧
 okC (AEp9 l t.ak (ADb9 l t.gs (ABy9 l t.us []).2).2).2=true:=by
 unfold ACq9 at h;split at h<;>try (cases h;done)
 split at h<;>try (cases h;done)
 split at h<;>try (cases h;done)
 split at h<;>try (cases h;done)
 split at h<;>try (cases h;done)
 split at h<;>try (cases h;done)
 split at h<;>try (cases h;done)
 rename_i h1;split at h<;>try (cases h;done)
 rename_i h2;split at h<;>try (cases h;done)
 rename_i h3;simp only [Zcb,Bool.not_eq_false] at h1 h2 h3;have a1:=AGf9 (α:=UseT) (show (ABg9 _ _ _ _ _).1=true from h1);have a2:=AGf9 (α:=GraT) (show (ABg9 _ _ _ _ _).1=true from h2);have a3:=AGf9 (α:=AskT) (show (ABg9 _ _ _ _ _).1=true from h3);exact ⟨⟨a1.1,a1.2.2⟩,⟨a2.1,a2.2.2⟩,⟨a3.1,a3.2.2⟩,h⟩
theorem AXb9 {sl of pe:Int} {l:LayT} (h:ABc9 sl of pe l=true) (hn:l.no≤60):InI pe:=by
 simp only [ABc9,Zal,decide_eq_true_eq] at h;exact ⟨by omega,by omega⟩
theorem AXj9 {ly:LayT} {me fr:Int} (hn:ly.no≤60):∀ {l:List NearT} {o:Option NearT},(AAg9 o l).any (badN ly me fr)=false→∀n∈l,0≤n.fm∧n.fm<ly.no∧n.fm≠me∧0≤n.fr∧n.fr≤fr
 | [],o,h,n,hm=>by cases hm
 | x::r,o,h,n,hm=>by
  simp only [AAg9,List.any_cons,Bool.or_eq_false_iff] at h;obtain ⟨h1,h2⟩:=h;rcases Zbu.1 hm with rfl|hm
  ·simp only [badN,Bool.or_eq_false_iff,decide_eq_false_iff_not,beq_eq_false_iff_ne] at h1;omega
  ·exact AXj9 hn h2 n hm
def BFh9 (t:TabT):Prs:=AHh9 (fun a:UseT=>a.pe) t.us (AHh9 (fun a:AskT=>a.pe) t.ak [])
def takeS (ly:LayT) (t:TabT) (me:Int) (l:List NearT) (fr:Int):TabT:=
 if newS ly t me l fr=true then (sideS ly me l fr).ns.foldl (takeN (sideS ly me l fr) ly (BFh9 t)) ⟨t.us.flatMap (ACj9 (sideS ly me l fr)),t.gs,t.ak⟩ else t
def cTake:CF:=fun args K=>∃(ly:LayT) (t q:TabT) (me:Int) (l:List NearT) (fr:Int),args= [layA ly,tabA t, .d (i64 me), .d (.sl 31 (rowsN l)), .d (i64 fr)]∧(TabOk t∧l.length<1000000∧(∀x∈l,ACi9 x)∧q=takeS ly t me l fr)∧K (tabA q)
theorem BIb9:COk 14 cTake:=by
 rintro _ K ⟨ly,t,_,me,l,fr,rfl,⟨ht,hl,hx,rfl⟩,hk⟩;refine ⟨_, ?_,hk⟩;refine MCall.toP (f:=prF) (g:=none) rfl ?_;have key:MCall prog prF 14 [layA ly,tabA t, .d (i64 me), .d (.sl 31 (rowsN l)), .d (i64 fr)] none fun x _=>x=tabA (takeS ly t me l fr):=by
  refine MCall.ofFn (n:=100) (u:=false) (wlTm wlTk) mixed BZf9 CHb9 (fun N w0=>BQu9 CAy9) func14 (by rfl) (by rfl) ?_;rw [CCm9];refine ⟨ly,t,me,l,fr,_,_,rfl,⟨ht,hl,hx,rfl,rfl⟩,Zax (fun h1=> ?_) fun h1=> ?_⟩
  ·have hvt:=ACg9 h1;have hv:=ABf9 hvt;have hva:=AIb9 hvt;have s2:=AOz9 (ly:=ly) (me:=me) (fr:=fr) hl hx;have hnl:(sideS ly me l fr).ns.length<1000000:=by simpa [sideS] using hl
   have ha:∀a∈t.ak,InI a.pe:=fun a h=>AXb9 (show ABc9 a.sl a.of a.pe ly=true from hva.2.2.1.1 a h) hv.1.2;have hu:∀u∈t.us,InI u.pe:=fun u h=>AXb9 (by have:=hva.1.1 u h;simp only [useOk,Zal] at this;exact this.1) hv.1.2;have hbad:(AAg9 none l).any (badN ly me fr)=false:=by
    rw [newS,Zal,Zal,Zal,Zcb] at h1;exact h1.2.2.2
   have hn:∀n∈(sideS ly me l fr).ns,InI n.fm:=fun n h=>by
    simp only [sideS,Zbf] at h;obtain ⟨x,hx,rfl⟩:=h;have:=AXj9 hv.1.2 hbad x hx;exact ⟨by simp only [filN,toldN];omega,by simp only [filN,toldN];omega⟩
   have hfl:=AVc9 (ANs9 (sideS ly me l fr)) t.us;have hp1:=AIt9 (fun a:AskT=>a.pe) t.ak [];obtain ⟨t1,t2,t3⟩:=ht;rw [List.length_nil] at hp1;rw [takeS,if_pos h1];refine ⟨⟨rfl⟩,rfl,fun d=>⟨sideS ly me l fr,ly,t,d, [],_,t.ak,rfl, ?_,rfl,rfl,⟨by rw [List.length_nil];omega,ha,rfl⟩,sideS ly me l fr,ly,t,d,_,_,t.us,_,rfl, ?_,rfl,rfl,⟨s2,by omega,hu,rfl,rfl⟩,sideS ly me l fr,ly,t.us.flatMap (ACj9 (sideS ly me l fr)),t.gs,t.ak,_,d,_,rfl, ?_,rfl,rfl,⟨s2,⟨by simp only;omega,t2,t3⟩,hnl,hn,rfl⟩,rfl⟩⟩
   ·rw [AAi9]
   ·rw [AAe9]
   ·rw [ABe9]
  ·have h1':¬newS ly t me l fr=true:=by rw [h1];decide
   rw [takeS,if_neg h1'];rfl
 exact key
noncomputable def lpTr:Code:=sub [1,1,2,3] (code f89)
def tmTr (s:SideT) (n i:Int):List AV:= [.yl, .rptr [.pt (sideD s)], .bad, .d (i64 n)]++Zam 8 .bad++ [.d (i64 n), .d (i64 i)]++Zam 36 .bad
theorem BUs9 (s:SideT):wpFn prog ⟨[], [],wl,y,false⟩ 100 f42 [.rptr (sideD s)] b R=(R (Zav (Fn.func 89) [] [Zah [Zdo [i64 (LayT.no (Zct s)),i64 (Zbr (Zct s)),i64 (SideT.me s),Zaj 31 (rowsN (Zau s)),i64 (SideT.fr s)]]]) b):=by kernel_rfl
theorem rTr (s:SideT) (n i:Int):wpc prog ⟨[], [],wl,y,false⟩ 100 lpTr (tmTr s n i) [] b (maskK 0 [0,1,3,12,13] K)=(BIf (decide (i<n)) (BIf (decide (n=(0:Int))||false) False (BIf (decide (Zbr (Zct s)=(0:Int))||false) False (BIf (decide (Zbr (Zct s)=(0:Int))||false) False (y b [Zan [Zad (i64 (Int.tmod (Int.tmod (Zac .i64 (Zac .i64 (Zac .i64 ((17:Int)*SideT.me s)+Zac .i64 ((5:Int)*SideT.fr s))+i)) n) (Zbr (Zct s)))),Zad (i64 (Zac .i64 (Int.tdiv (Int.tmod (Zac .i64 (Zac .i64 (Zac .i64 ((17:Int)*SideT.me s)+Zac .i64 ((5:Int)*SideT.fr s))+i)) n) (Zbr (Zct s)))))]] fun (cont0:Bool) (b1:β)=>BIf (!cont0) (K .ret (AV.yl::Zah [Zdo (Qz2 s)]::Zab::Zad (i64 n)::bds 8 (Zad (i64 n)::Zad (i64 i)::bds 36 [])) [] b1) (K .normal (AV.yl::Zah [Zdo (Qz2 s)]::Zab::Zad (i64 n)::bds 8 (Zad (i64 n)::Zad (i64 (Zac .i64 (i+1)))::bds 36 [])) [] b1))))) (K (Zba 0) (AV.yl::Zah [Zdo (Qz2 s)]::Zab::Zad (i64 n)::bds 8 (Zad (i64 n)::Zad (i64 i)::bds 36 [])) [] b)):=by kernel_rfl
theorem trH1 (s:SideT):wpc prog ⟨[], [],wl,y,false⟩ 100 (sub [0] (code f89)) (ACf9 f89 [.yl, .rptr [.pt (sideD s)]]) [] b K=(K .normal (AV.yl::Zah [Zdo (Qz2 s)]::Zab::Zad (i64 (Zac .i64 ((16:Int)*Zbr (Zct s))))::Zab::Zab::Zad (Zdo (Qz2 s))::Zad (Zdo (Qz2 s))::Zah (Qz2 s)::Zah [i64 (Zbr (Zct s)),i64 (SideT.me s),Zaj 31 (rowsN (Zau s)),i64 (SideT.fr s)]::Zad (i64 (Zbr (Zct s)))::Zad (i64 (Zac .i64 ((16:Int)*Zbr (Zct s))))::bds 38 []) [] b):=by kernel_rfl
theorem trH2 (s:SideT) (n:Int):wpc prog ⟨[], [],wl,y,false⟩ 100 (sub [1,0] (code f89)) ([.yl, .rptr [.pt (sideD s)], .bad, .d (i64 n)]++Zam 46 .bad) [] b K=(K .normal (AV.yl::Zah [Zdo (Qz2 s)]::Zab::Zad (i64 n)::bds 8 (Zad (i64 n)::Zad (i64 0)::bds 36 [])) [] b):=by kernel_rfl
theorem BUu9:code f89= .seq (sub [0] (code f89)) (.seq (sub [1,0] (code f89)) (.block 0 (.loop lpTr))):=by kernel_rfl
def triC (s:SideT) (k:Int):Int:=Int.tmod (Zac Zbb (Zac Zbb (Zac Zbb (17*s.me)+Zac Zbb (5*s.fr))+k)) (Zac Zbb (16*s.lay.da))
def triSl (s:SideT) (k:Int):Int:=Int.tmod (triC s k) s.lay.da
def triOf (s:SideT) (k:Int):Int:=Zac Zbb (Int.tdiv (triC s k) s.lay.da)
def AQn9 (s:SideT) (k:Nat):List AV:= [cellA (triSl s (k:Int)) (triOf s (k:Int))]
theorem wrTr {Ev:Env prog} {b0:Ev.β→Prop} (s:SideT) (hd:1≤s.lay.da∧s.lay.da≤60):∀(m k:Nat) (b:Ev.β),((k+m:Nat):Int)=16*s.lay.da→YList Ev.Y ((List.range' k m).map (AQn9 s)) b b0→
 WR Ev lpTr (m+1) ⟨tmTr s (Zac Zbb (16*s.lay.da)) (k:Nat), [],b⟩ (fun e s=>(e= .exit 0∨e= .ret)∧b0 s.b)
 | 0,k,b,hk,hY=>by
  refine WR.ofMask [0,1,3,12,13] mixed (CX.Ok.of (u:=false) Zai Zar) (k:=100) ?_;refine Eq.mpr (rTr _ _ _ _ s _ k) ?_;have e:Zac Zbb (16*s.lay.da)=16*s.lay.da:=AAw9 (by omega) (by omega);rw [e];exact Zci (by simp;omega) ⟨.inl rfl,hY⟩
 | m+1,k,b,hk,hY=>by
  refine WR.ofMask [0,1,3,12,13] mixed (CX.Ok.of (u:=false) Zai Zar) (k:=100) ?_;refine Eq.mpr (rTr _ _ _ _ s _ k) ?_;have e:Zac Zbb (16*s.lay.da)=16*s.lay.da:=AAw9 (by omega) (by omega);simp only [List.range'_succ,List.map_cons,YList] at hY;refine Zas (by rw [e];simp;omega) (Zci (by rw [e];simp;omega) (Zci (by simp;omega) (Zci (by simp;omega) ?_)));refine Ev.Ymono hY fun c b' h=> ?_;cases c with
  |false=>exact ⟨.inr rfl,h⟩
  | true=>
   show WR Ev lpTr _ _ _;have e2:Zac Zbb ((k:Int)+1)=((k+1:Nat):Int):=wrapN (by omega);rw [e2];exact wrTr s hd m (k+1) b' (by omega) h
theorem icTr (s:SideT) (hd:1≤s.lay.da∧s.lay.da≤60) (m:Nat) (hm:(m:Int)=16*s.lay.da):ICall prog 89 [.yl, .rptr [.pt (sideD s)]] (fun Y b Q=>YList Y ((List.range' 0 m).map (AQn9 s)) b Q):=by
 refine ICall.ofW (c:=code f89) func89 (by rfl) (by rfl) fun Ev b Q hQ=> ?_;rw [BUu9];have e:Zac Zbb (16*s.lay.da)=16*s.lay.da:=AAw9 (by omega) (by omega);have hX:CX.Ok Ev ⟨[], [],wlW Ev,Ev.Y,false⟩:=CX.Ok.of Zai Zar;refine W.seq (AAy9 (X:=⟨[], [],wlW Ev,Ev.Y,false⟩) mixed hX (n:=100) ((trH1 ..).symm▸ ?_) (fun e tm hp b h=>h));refine W.cast (AAc9 [0,1,3] _ 0) (Zbg _) ?_;refine W.seq (AAy9 (X:=⟨[], [],wlW Ev,Ev.Y,false⟩) mixed hX (n:=100) ((trH2 (wlW Ev) Ev.Y b _ s (Zac Zbb (16*s.lay.da))).symm▸ ?_) (fun e tm hp b h=>h));refine W.block (W.mono (W.rounds (wrTr (b0:=Q) s hd m 0 b (by omega) hQ)) fun e s h=> ?_);obtain ⟨rfl|rfl,h⟩:=h
 ·exact ⟨.inr rfl, [],rfl,h⟩
 ·exact ⟨.inl rfl, [],rfl,h⟩
theorem CEa9 (s:SideT):PCall prog 42 [.rptr (sideD s)] (.fn (.func 89) [] [.rptr [.pt (sideD s)]]):=by
 refine pcO Zai func42 fun Ev bb=> ?_;rw [BUs9];rfl
def CFw9:CF:=fun args K=>∃(s:SideT),args= [.rptr (sideD s)]∧K (.fn (.func 89) [] [.rptr [.pt (sideD s)]])
theorem BPd9:COk 42 CFw9:=by
 rintro _ K ⟨s,rfl,h⟩;exact ⟨_,CEa9 s,h⟩
def tblN (us:List UseT) (gs:List GraT):List Dv:= [.sl 4 (rowsU us), .sl 5 (rowsG gs), .s (.slice none 0 0)]
def TP1:CT:= [(39,semC BSa9)]
theorem CKg9:AAb9 prog TP1:=Zag (CCs9 BIq9) Zai
def posC (s:SideT) (us:List UseT) (gs:List GraT) (n:NearT):List Dv:= [.pt [.pt (sideD s)], .pt (tblN us gs), .pt (nearR n)]
abbrev Qz9 (v0:List UseT) (v1:List GraT):List AV:= [Zad (Zaj 4 (rowsU v0)),Zad (Zaj 5 (rowsG v1)),Zad (Zdk (.slice none 0 0))]
theorem CDy9 (s:SideT) (us:List UseT) (gs:List GraT) (n:NearT) (sl of:Int):wpFn prog ⟨TP1, [],wl,y,false⟩ 100 f38 [cellA sl of, .rptr [.pt (sideD s)], .rptr (tblN us gs), .rptr (nearR n)] b R=(∃(args0:List AV),SemVs [Zad (Zdo (Qz2 s)),Zan (Qz9 us gs),nearA n,Zan [Zad (i64 sl),Zad (i64 of)]] args0∧∃(s1:SideT) (t2:TabT) (n3:NearT) (sl4:Int) (of5:Int) (q6:Bool),args0= [Zah (Qz2 s1),Zan (Qz1 t2),nearA n3,Zan [Zad (i64 sl4),Zad (i64 of5)]]∧((Zaa (Zau s1)≤9223372036854775807∧(∀(x:NearT),x∈Zau s1→AAo9 x)∧layOk (Zct s1)=true)∧TabOk t2∧(Zaa (Zcl n3)<10000∧Zaa (Zce n3)<10000)∧q6=possS s1 t2 n3 sl4 of5)∧R (.d (bo q6)) b):=by kernel_rfl
def AskOk (s:SideT) (us:List UseT) (gs:List GraT) (n:NearT):Prop:=ANa9 s∧(us.length<10000∧gs.length<10000)∧n.us.length<10000∧n.gs.length<10000
def cPos1:CF:=fun args K=>∃(s:SideT) (us:List UseT) (gs:List GraT) (n:NearT) (sl of:Int) (q:Bool),args= [cellA sl of, .rptr [.pt (sideD s)], .rptr (tblN us gs), .rptr (nearR n)]∧(AskOk s us gs n∧q=possS s ⟨us,gs, []⟩ n sl of)∧K (.d (bo q))
theorem AVi9:COk 38 cPos1:=by
 rintro _ K ⟨s,us,gs,n,sl,of,_,rfl,⟨h,rfl⟩,hk⟩;refine ⟨_, ?_,hk⟩;refine pcO CKg9 func38 fun Ev bb=> ?_;rw [CDy9];obtain ⟨h1,h2,h3⟩:=h;have hle:LeV (Zan [Zad (Zaj 4 (rowsU us)),Zad (Zaj 5 (rowsG gs)),Zad (Zdk (Value.slice none 0 0))]) (tabA ⟨us,gs, []⟩):=
  LeV.aggs (.cons .rfl (.cons .rfl (.cons (.nil rfl) .nil)))
 have hpt:SemV (Zad (Zdo (sideD s))) (.rptr (sideD s)):=fun S w m yv v h=>RV.ofPt h;exact ⟨[.rptr (sideD s),tabA ⟨us,gs, []⟩,nearA n,cellA sl of], .cons hpt (.cons (SemV.ofLeV hle) (.cons SemV.rfl (.cons SemV.rfl .nil))),s,⟨us,gs, []⟩,n,sl,of,_,rfl,⟨h1,⟨h2.1,h2.2,by simp⟩,h3,rfl⟩,rfl⟩
def TP2:CT:= [(38,cPos1)]
theorem CKf9:AAb9 prog TP2:=Zag AVi9 Zai
abbrev Qz16 (v0:Int) (v1:Int) (v2:SideT) (v3:List UseT) (v4:List GraT) (v5:NearT):List AV:= [Zan [Zad (i64 v0),Zad (i64 v1)],Zah [Zdo (Qz2 v2)],Zah [Zaj 4 (rowsU v3),Zaj 5 (rowsG v4),Zdk (.slice none 0 0)],Zah (nearR v5)]
theorem CDx9 (s:SideT) (us:List UseT) (gs:List GraT) (n:NearT) (x:AskT) (pe:Int):wpFn prog ⟨TP2, [],wl,y,false⟩ 100 f41 [askA x, .rptr [i64 pe], .rptr [.fn (.func 38) (posC s us gs n)]] b R=(BIf (AskT.pe x==pe) (∃(s0:SideT) (us1:List UseT) (gs2:List GraT) (n3:NearT) (sl4:Int) (of5:Int) (q6:Bool), [Zan [Zad (i64 (Zde x)),Zad (i64 (AskT.of x))],Zah [Zdo (Qz2 s)],Zah [Zaj 4 (rowsU us),Zaj 5 (rowsG gs),Zdk (.slice none 0 0)],Zah (nearR n)]=(Qz16 sl4 of5 s0 us1 gs2 n3)∧(((Zaa (Zau s0)≤9223372036854775807∧(∀(x:NearT),x∈Zau s0→AAo9 x)∧layOk (Zct s0)=true)∧(Zaa us1<10000∧Zaa gs2<10000)∧Zaa (Zcl n3)<10000∧Zaa (Zce n3)<10000)∧q6=possS s0 (TabT.mk us1 gs2 []) n3 sl4 of5)∧R (.d (bo q6)) b) (R (.d (bo false)) b)):=by kernel_rfl
def keepA (s:SideT) (us:List UseT) (gs:List GraT) (n:NearT) (pe:Int) (x:AskT):Bool:=x.pe==pe&&possS s ⟨us,gs, []⟩ n x.sl x.of
def cPos2:CF:=fun args K=>∃(s:SideT) (us:List UseT) (gs:List GraT) (n:NearT) (x:AskT) (pe:Int) (q:Bool),args= [askA x, .rptr [i64 pe], .rptr [.fn (.func 38) (posC s us gs n)]]∧(AskOk s us gs n∧q=keepA s us gs n pe x)∧K (.d (bo q))
theorem BYl9:COk 41 cPos2:=by
 rintro _ K ⟨s,us,gs,n,x,pe,_,rfl,⟨h,rfl⟩,hk⟩;refine ⟨_, ?_,hk⟩;refine pcO CKf9 func41 fun Ev bb=> ?_;rw [CDx9];refine Zax (fun h1=>⟨s,us,gs,n,x.sl,x.of,_,rfl,⟨h,rfl⟩, ?_⟩) fun h1=> ?_
 ·rw [keepA,show (x.pe==pe)=true from h1];rfl
 ·rw [keepA,show (x.pe==pe)=false from h1];rfl
noncomputable def lpOA:Code:=sub [1,1,0,1,2,3] (code f40)
def fnOA (s:SideT) (us:List UseT) (gs:List GraT) (n:NearT) (pe:Int):AV:= .fn (.func 41) [] [.rptr [i64 pe], .rptr [.fn (.func 38) (posC s us gs n)]]
def tmOA (f x:AV) (l:List AskT) (i:Int):List AV:= [.bad,f, .bad, .bad, .bad,x, .bad, .bad, .d (.sl 3 (rowsA l)), .d (i64 l.length), .d (i64 i)]++Zam 12 .bad
def TOA:CT:= [(41,cPos2)]
theorem BQh9:AAb9 prog TOA:=Zag BYl9 Zai
abbrev Qz10 (v0:SideT) (v1:List UseT) (v2:List GraT) (v3:NearT):= [Zdo [Zdo (Qz2 v0)],Zdo [Zaj 4 (rowsU v1),Zaj 5 (rowsG v2),Zdk (.slice none 0 0)],Zdo (nearR v3)]
theorem rOA0 (s:SideT) (us:List UseT) (gs:List GraT) (n:NearT) (pe:Int) (l:List AskT) (i:Int):wpc prog ⟨TOA,GCA,wl,y,false⟩ 100 lpOA (tmOA (fnOA s us gs n pe) (.d (.s (.slice none 0 0))) l i) [] b (maskT [1,5,8,9,10] K)=(BIf (decide (i<((Zaa l:Nat):Int))) (BIf (true&&decide (0≤i)) (∃(x0:Int) (x1:Int) (x2:Int),(rowsA l)[Zak i]? =some [i64 x0,i64 x1,i64 x2]∧∃(s5:SideT) (us6:List UseT) (gs7:List GraT) (n8:NearT) (x9:AskT) (pe10:Int) (q11:Bool), [Zan (Qz22 x0 x1 x2),Zah [i64 pe],Zah [Zcw (Fn.func 38) (Qz10 s us gs n)]]= [Zan (Qz11 x9),Zah [i64 pe10],Zah [Zcw (Fn.func 38) (Qz10 s5 us6 gs7 n8)]]∧(((Zaa (Zau s5)≤9223372036854775807∧(∀(x:NearT),x∈Zau s5→AAo9 x)∧layOk (Zct s5)=true)∧(Zaa us6<10000∧Zaa gs7<10000)∧Zaa (Zcl n8)<10000∧Zaa (Zce n8)<10000)∧q11=keepA s5 us6 gs7 n8 pe10 x9)∧BIf q11 (K .normal (Zab::Zav (Fn.func 41) [] [Zah [i64 pe],Zah [Zcw (Fn.func 38) (Qz10 s us gs n)]]::bds 3 (Zbh 1 0 1 3::Zab::Zab::Zad (Zaj 3 (rowsA l))::Zad (i64 ((Zaa l:Nat):Int))::Zad (i64 (Zac .i64 (i+1)))::bds 12 [])) [bk (Qz22 x0 x1 x2),Blk.mk (Qz22 x0 x1 x2) false true 0] b) (K .normal (Zab::Zav (Fn.func 41) [] [Zah [i64 pe],Zah [Zcw (Fn.func 38) (Qz10 s us gs n)]]::bds 3 (Zad (Zdk (.slice none 0 0))::Zab::Zab::Zad (Zaj 3 (rowsA l))::Zad (i64 ((Zaa l:Nat):Int))::Zad (i64 (Zac .i64 (i+1)))::bds 12 [])) [bk (Qz22 x0 x1 x2)] b)) False) (K (Zba 0) (Zab::Zav (Fn.func 41) [] [Zah [i64 pe],Zah [Zcw (Fn.func 38) (Qz10 s us gs n)]]::bds 3 (Zad (Zdk (.slice none 0 0))::Zab::Zab::Zad (Zaj 3 (rowsA l))::Zad (i64 ((Zaa l:Nat):Int))::Zad (i64 i)::bds 12 [])) [] b)):=by kernel_rfl
theorem rOAn (s:SideT) (us:List UseT) (gs:List GraT) (n:NearT) (pe:Int) (l:List AskT) (i:Int):wpc prog ⟨TOA,GCA,wl,y,false⟩ 100 lpOA (tmOA (fnOA s us gs n pe) (.d (.s (.slice none 0 0))) l i) [] b (maskK 0 [1,5,8,9,10] K)=(BIf (decide (i<((Zaa l:Nat):Int))) (BIf (true&&decide (0≤i)) (∃(x0:Int) (x1:Int) (x2:Int),(rowsA l)[Zak i]? =some [i64 x0,i64 x1,i64 x2]∧∃(s5:SideT) (us6:List UseT) (gs7:List GraT) (n8:NearT) (x9:AskT) (pe10:Int) (q11:Bool), [Zan (Qz22 x0 x1 x2),Zah [i64 pe],Zah [Zcw (Fn.func 38) (Qz10 s us gs n)]]= [Zan (Qz11 x9),Zah [i64 pe10],Zah [Zcw (Fn.func 38) (Qz10 s5 us6 gs7 n8)]]∧(((Zaa (Zau s5)≤9223372036854775807∧(∀(x:NearT),x∈Zau s5→AAo9 x)∧layOk (Zct s5)=true)∧(Zaa us6<10000∧Zaa gs7<10000)∧Zaa (Zcl n8)<10000∧Zaa (Zce n8)<10000)∧q11=keepA s5 us6 gs7 n8 pe10 x9)∧BIf q11 (K .normal (Zab::Zav (Fn.func 41) [] [Zah [i64 pe],Zah [Zcw (Fn.func 38) (Qz10 s us gs n)]]::bds 6 (Zad (Zaj 3 (rowsA l))::Zad (i64 ((Zaa l:Nat):Int))::Zad (i64 (Zac .i64 (i+1)))::bds 12 [])) [] b) (K .normal (Zab::Zav (Fn.func 41) [] [Zah [i64 pe],Zah [Zcw (Fn.func 38) (Qz10 s us gs n)]]::bds 3 (Zad (Zdk (.slice none 0 0))::Zab::Zab::Zad (Zaj 3 (rowsA l))::Zad (i64 ((Zaa l:Nat):Int))::Zad (i64 (Zac .i64 (i+1)))::bds 12 [])) [] b)) False) (K (Zba 0) (Zab::Zav (Fn.func 41) [] [Zah [i64 pe],Zah [Zcw (Fn.func 38) (Qz10 s us gs n)]]::bds 3 (Zad (Zdk (.slice none 0 0))::Zab::Zab::Zad (Zaj 3 (rowsA l))::Zad (i64 ((Zaa l:Nat):Int))::Zad (i64 i)::bds 12 [])) [] b)):=by kernel_rfl
theorem rOA1 (s:SideT) (us:List UseT) (gs:List GraT) (n:NearT) (pe:Int) (l:List AskT) (i:Int) (v m:Nat) (c0 cs:List AV):wpc prog ⟨TOA,GCA,wl,y,false⟩ 100 lpOA (tmOA (fnOA s us gs n pe) (.gref 1 v m 3) l i) [junkB c0,growB v cs] b (maskK 2 [1,5,8,9,10] K)=(BIf (decide (i<((Zaa l:Nat):Int))) (BIf (true&&decide (0≤i)) (∃(x0:Int) (x1:Int) (x2:Int),(rowsA l)[Zak i]? =some [i64 x0,i64 x1,i64 x2]∧∃(s5:SideT) (us6:List UseT) (gs7:List GraT) (n8:NearT) (x9:AskT) (pe10:Int) (q11:Bool), [Zan (Qz22 x0 x1 x2),Zah [i64 pe],Zah [Zcw (Fn.func 38) (Qz10 s us gs n)]]= [Zan (Qz11 x9),Zah [i64 pe10],Zah [Zcw (Fn.func 38) (Qz10 s5 us6 gs7 n8)]]∧(((Zaa (Zau s5)≤9223372036854775807∧(∀(x:NearT),x∈Zau s5→AAo9 x)∧layOk (Zct s5)=true)∧(Zaa us6<10000∧Zaa gs7<10000)∧Zaa (Zcl n8)<10000∧Zaa (Zce n8)<10000)∧q11=keepA s5 us6 gs7 n8 pe10 x9)∧BIf q11 (v=v∧BIf (decide ((m+1)*24≤140737488355328)) (BIf (Zbl [bk c0,Blk.mk (cs++(Qz22 x0 x1 x2)) false true (v+1)] fun (blk12:Blk)=>lows 2 blk12.1) (K .normal (Zab::Zav (Fn.func 41) [] [Zah [i64 pe],Zah [Zcw (Fn.func 38) (Qz10 s us gs n)]]::bds 3 (Zbh 1 (v+1) (m+1) 3::Zab::Zab::Zad (Zaj 3 (rowsA l))::Zad (i64 ((Zaa l:Nat):Int))::Zad (i64 (Zac .i64 (i+1)))::bds 12 [])) [bk c0,Blk.mk (cs++(Qz22 x0 x1 x2)) false true (v+1)] b) False) False) (BIf (Zbl [bk c0,Blk.mk cs false true v] fun (blk13:Blk)=>lows 2 blk13.1) (K .normal (Zab::Zav (Fn.func 41) [] [Zah [i64 pe],Zah [Zcw (Fn.func 38) (Qz10 s us gs n)]]::bds 3 (Zbh 1 v m 3::Zab::Zab::Zad (Zaj 3 (rowsA l))::Zad (i64 ((Zaa l:Nat):Int))::Zad (i64 (Zac .i64 (i+1)))::bds 12 [])) [bk c0,Blk.mk cs false true v] b) False)) False) (BIf (Zbl [bk c0,Blk.mk cs false true v] fun (blk14:Blk)=>lows 2 blk14.1) (K (Zba 0) (Zab::Zav (Fn.func 41) [] [Zah [i64 pe],Zah [Zcw (Fn.func 38) (Qz10 s us gs n)]]::bds 3 (Zbh 1 v m 3::Zab::Zab::Zad (Zaj 3 (rowsA l))::Zad (i64 ((Zaa l:Nat):Int))::Zad (i64 i)::bds 12 [])) [bk c0,Blk.mk cs false true v] b) False)):=by kernel_rfl
variable {Ev:Env prog} {b0:Ev.β} {Q:Exit→St Ev.β→Prop}
def junk3:Blk:=⟨[.bad, .bad, .bad],false,false,0⟩
def oaA (q:List AskT):AV:=if q.isEmpty then .d (.s (.slice none 0 0)) else .gref 1 (q.length - 1) q.length 3
def oaB (q:List AskT):List Blk:=if q.isEmpty then [] else [junk3,growB (q.length - 1) (flatA (rowsA q))]
theorem APt9 {α:Type} (p:α→Bool) {l:List α} {i:Nat} {a:α} (h:l[i]? =some a):(l.take (i+1)).filter p=(l.take i).filter p++(if p a=true then [a] else []):=by
 rw [List.take_add_one,h,List.filter_append];simp only [Option.toList_some,List.filter_cons,List.filter_nil]
theorem wrOA1 (s:SideT) (us:List UseT) (gs:List GraT) (n:NearT) (pe:Int) (l:List AskT) (h:AskOk s us gs n) (hl:l.length<1000000) (j0:Nat) (hj0:(l.take j0).filter (keepA s us gs n pe)≠ []) (hj:j0≤l.length)
 (hQ:Q (.exit 0) ⟨tmOA (fnOA s us gs n pe) (.gref 1 ((l.filter (keepA s us gs n pe)).length - 1) (l.filter (keepA s us gs n pe)).length 3) l l.length, [junk3,growB ((l.filter (keepA s us gs n pe)).length - 1) (flatA (rowsA (l.filter (keepA s us gs n pe))))],b0⟩):
 WR Ev lpOA (l.length - j0+1) ⟨tmOA (fnOA s us gs n pe) (.gref 1 (((l.take j0).filter (keepA s us gs n pe)).length - 1) ((l.take j0).filter (keepA s us gs n pe)).length 3) l (j0:Nat), [junk3,growB (((l.take j0).filter (keepA s us gs n pe)).length - 1) (flatA (rowsA ((l.take j0).filter (keepA s us gs n pe))))],b0⟩ Q:=by
 have low:∀(v:Nat) (z:List AskT),Zbl [junk3,growB v (flatA (rowsA z))] (fun blk=>lows 2 blk.1)=true:=fun v z=>by
  simp only [List.all_cons,List.all_nil,Bool.and_true,Zal];exact ⟨rfl,ACx9 2 _⟩
 have hne:∀j,j0≤j→0<((l.take j).filter (keepA s us gs n pe)).length:=fun j hj=>by
  have h1:(l.take j0).Sublist (l.take j):=by rw [←Nat.min_eq_left hj,←List.take_take];exact List.take_sublist _ _
  have h2:=(h1.filter (keepA s us gs n pe)).length_le;have h3:=List.length_pos_iff.2 hj0;omega
 refine WR.scanG (X:=⟨TOA,GCA,wlW Ev,Ev.Y,false⟩) (k:=100) (L:=2) [1,5,8,9,10] mixed (CX.Ok.of BQh9 AWe9) l (fun _=>false) (fun j=>tmOA (fnOA s us gs n pe) (.gref 1 (((l.take j).filter (keepA s us gs n pe)).length - 1) ((l.take j).filter (keepA s us gs n pe)).length 3) l (j:Nat)) (fun j=> [junk3,growB (((l.take j).filter (keepA s us gs n pe)).length - 1) (flatA (rowsA ((l.take j).filter (keepA s us gs n pe))))]) (fun _=>rfl) 0 j0 (fun j a hsj hjl ha K _ k2=> ?_) (fun K k1=> ?_) (fun _=>by rw [Zdc];exact hQ) (fun h=>by simp at h) (l.length - j0) j0 (by omega) (Zat _) rfl
 ·have hk:=k2 rfl;have hpos:=hne j hsj;have hle:((l.take j).filter (keepA s us gs n pe)).length≤j:=Nat.le_trans (Zcd _ _) (List.length_take_le _ _);rw [APt9 _ ha] at hk;generalize (l.take j).filter (keepA s us gs n pe)=z at hk hpos hle ⊢;refine Eq.mpr (rOA1 _ _ _ K s us gs n pe l j (z.length - 1) z.length [.bad, .bad, .bad] _) ?_;refine Zas (by simp;omega) (Zas (natI j) ⟨_,_,_,ABd9 ha,s,us,gs,n,a,pe,_,rfl,⟨h,rfl⟩,Zax (fun h1=>⟨rfl,Zas (by simp;omega) ?_⟩) fun h1=> ?_⟩)
  ·rw [if_pos h1] at hk;have e:flatA (rowsA (z++ [a]))=flatA (rowsA z)++ [Zad (i64 a.sl),Zad (i64 a.of),Zad (i64 a.pe)]:=by
    have f:∀l:List AskT,flatA (rowsA l)=flatA (l.map askR):=fun _=>rfl;rw [f,f,AVd9];rfl
   have el:(z++ [a]).length=z.length+1:=by simp
   have ev:z.length+1 - 1=z.length - 1+1:=by omega
   have hl2:=low (z.length - 1+1) (z++ [a]);rw [e] at hl2;rw [el,ev,e] at hk;rw [wrapN (by omega)];exact Zas hl2 hk
  ·have h1':¬keepA s us gs n pe a=true:=by rw [h1];decide
   rw [if_neg h1',Zco] at hk;rw [wrapN (by omega)];exact Zas (low _ z) hk
 ·refine Eq.mpr (rOA1 _ _ _ K s us gs n pe l l.length _ _ [.bad, .bad, .bad] _) ?_;exact Zci (by simp) (Zas (low _ _) k1)
theorem wrOA {Ev:Env prog} {b:Ev.β} {Q:Exit→St Ev.β→Prop} (s:SideT) (us:List UseT) (gs:List GraT) (n:NearT) (pe:Int) (l:List AskT) (h:AskOk s us gs n) (hl:l.length<1000000)
 (hQ:Q (.exit 0) ⟨tmOA (fnOA s us gs n pe) (oaA (l.filter (keepA s us gs n pe))) l l.length,oaB (l.filter (keepA s us gs n pe)),b⟩):
 ∀(m i:Nat),i+m=l.length→(l.take i).filter (keepA s us gs n pe)= []→WR Ev lpOA (m+1) ⟨tmOA (fnOA s us gs n pe) (.d (.s (.slice none 0 0))) l (i:Nat), [],b⟩ Q
 | 0,i,hi,hf=>by
  have e:i=l.length:=by omega
  subst e;rw [Zdc] at hf;rw [hf] at hQ;refine WR.ofMask (X:=⟨TOA,GCA,wlW Ev,Ev.Y,false⟩) (k:=100) [1,5,8,9,10] mixed (CX.Ok.of BQh9 AWe9) ?_;refine Eq.mpr (rOAn _ _ _ _ s us gs n pe l l.length) ?_;exact Zci (by simp) hQ
 | m+1,i,hi,hf=>by
  have hil:i<l.length:=by omega
  have ha:l[i]? =some l[i]:=Zbc hil;cases hk:keepA s us gs n pe l[i] with
  | false=>
   refine WR.ofMask (X:=⟨TOA,GCA,wlW Ev,Ev.Y,false⟩) (k:=100) [1,5,8,9,10] mixed (CX.Ok.of BQh9 AWe9) ?_;refine Eq.mpr (rOAn _ _ _ _ s us gs n pe l i) ?_;refine Zas (by simp;omega) (Zas (natI i) ⟨_,_,_,ABd9 ha,s,us,gs,n,l[i],pe,_,rfl,⟨h,rfl⟩,Zci hk ?_⟩);rw [wrapN (by omega)];exact wrOA s us gs n pe l h hl hQ m (i+1) (by omega) (by rw [APt9 _ ha,hf,hk];rfl)
  | true=>
   have hf1:(l.take (i+1)).filter (keepA s us gs n pe)= [l[i]]:=by rw [APt9 _ ha,hf,hk];rfl
   have hfl:l.filter (keepA s us gs n pe)≠ []:=fun e=>by
    have:l[i]∈l.filter (keepA s us gs n pe):=Zeb.2 ⟨List.getElem_mem hil,hk⟩;rw [e] at this;cases this
   have h1:=wrOA1 (Q:=Q) (b0:=b) s us gs n pe l h hl (i+1) (by rw [hf1];simp) (by omega) (by
    have e:(l.filter (keepA s us gs n pe)).isEmpty=false:=by simpa using hfl
    rw [oaA,oaB,e] at hQ;exact hQ)
   rw [hf1,show l.length - (i+1)=m by omega] at h1;refine WR.ofMaskT (X:=⟨TOA,GCA,wlW Ev,Ev.Y,false⟩) (k:=100) [1,5,8,9,10] mixed (CX.Ok.of BQh9 AWe9) ?_;refine Eq.mpr (rOA0 _ _ _ _ s us gs n pe l i) ?_;refine Zas (by simp;omega) (Zas (natI i) ⟨_,_,_,ABd9 ha,s,us,gs,n,l[i],pe,_,rfl,⟨h,rfl⟩,Zas hk ?_⟩);rw [wrapN (by omega)];exact WR.cast (LeL.refl _) (LeH.at [] [_] (.cons .bad (.cons .bad (.cons .bad .nil)))) h1
def wlOA {β:Type}:WLT β:=fun cd tm hp b K=>∃(s:SideT) (us:List UseT) (gs:List GraT) (n:NearT) (pe:Int) (l q:List AskT),cd= .loop lpOA∧AAn9 [1,5,8,9,10] 0 tm=tmOA (fnOA s us gs n pe) (.d (.s (.slice none 0 0))) l 0∧hp= []∧(AskOk s us gs n∧l.length<1000000∧q=l.filter (keepA s us gs n pe))∧BIf q.isEmpty (K (.exit 0) (tmOA (fnOA s us gs n pe) (.d (.s (.slice none 0 0))) l l.length) [] b) (K (.exit 0) (tmOA (fnOA s us gs n pe) (.gref 1 (q.length - 1) q.length 3) l l.length) [junk3,growB (q.length - 1) (flatA (rowsA q))] b)
theorem CBj9:WlOk Ev wlOA:=by
 rintro c tm hp b K ⟨s,us,gs,n,pe,l,q,rfl,htm,rfl,⟨h,hl,rfl⟩,hK⟩;refine W.cast (htm▸AAc9 _ tm 0) (Zbg _) ?_;refine W.rounds (wrOA (Q:=fun e s=>K e s.tm s.hp s.b) s us gs n pe l h hl ?_ l.length 0 (by omega) rfl);rw [oaA,oaB];cases he:(l.filter (keepA s us gs n pe)).isEmpty with
 |true=>rw [he] at hK;exact hK
 |false=>rw [he] at hK;exact hK
theorem BWb9 (s:SideT) (us:List UseT) (gs:List GraT) (n:NearT) (pe:Int) (l:List AskT):wpFnS prog ⟨[], [],wlOA,y,false⟩ 100 f40 [.d (.sl 3 (rowsA l)),fnOA s us gs n pe] b Kr=(∃(s0:SideT) (us1:List UseT) (gs2:List GraT) (n3:NearT) (pe4:Int) (l5:List AskT) (q6:List AskT),Zaq lpOA=Zaq lpOA∧(Zab::Zav (Fn.func 41) [] [Zah [i64 pe],Zah [Zcw (Fn.func 38) (Qz10 s us gs n)]]::bds 3 (Zad (Zdk (.slice none 0 0))::Zab::Zab::Zad (Zaj 3 (rowsA l))::Zad (i64 ((Zaa (rowsA l):Nat):Int))::Zad (i64 0)::bds 12 []))=(Zab::Zav (Fn.func 41) [] [Zah [i64 pe4],Zah [Zcw (Fn.func 38) (Qz10 s0 us1 gs2 n3)]]::bds 3 (Zad (Zdk (.slice none 0 0))::Zab::Zab::Zad (Zaj 3 (rowsA l5))::Zad (i64 ((Zaa l5:Nat):Int))::Zad (i64 0)::bds 12 []))∧([]:List Blk)= []∧(((Zaa (Zau s0)≤9223372036854775807∧(∀(x:NearT),x∈Zau s0→AAo9 x)∧layOk (Zct s0)=true)∧(Zaa us1<10000∧Zaa gs2<10000)∧Zaa (Zcl n3)<10000∧Zaa (Zce n3)<10000)∧Zaa l5<1000000∧q6=List.filter (keepA s0 us1 gs2 n3 pe4) l5)∧BIf (List.isEmpty q6) (Kr (Zad (Zdk (.slice none 0 0))) [] b) (Kr (Zbh 1 (Zaa q6 - 1) (Zaa q6) 3) [bk [bad,bad,bad],Blk.mk (flatA (rowsA q6)) false true (Zaa q6 - 1)] b)):=by kernel_rfl
def freeA:AV→Bool
 | .d (.s _)=>true
 | .gref .. =>true
 | .bad=>true
 |_=>false
theorem RV.free {S S':Pr} {w:World} {m:List MB} {yv:Option Nat} {x:AV} {v:Value} (hx:freeA x=true) (h:RV S w m yv x v):RV S' w m yv x v:=by
 cases h with
 | d h=>cases h with
  |s v=>exact .d (.s v)
  |sl=>cases hx
  |nil=>cases hx
  |pt=>cases hx
  |fn=>cases hx
 |gref h hv h1 hc=>exact .gref h hv h1 hc
 |bad=>exact .bad
 |_=>cases hx
theorem BNd9 {x:AV} {v:Value} (hx:freeA x=true):ownB (x,v)=none:=by
 cases x<;>first|rfl|cases hx
theorem FCall.lendS {P:Program} {f:Nat} {args args':List AV} {r:AV} {hp hp1:List Blk} (h:FCall P f args' r hp1) (hl':args.length=args'.length)
 (hs:∀(i:Nat) (c y:AV),args[i]? =some c→args'[i]? =some y→SealD hp c y) (hr:freeA r.view=true) (hc:∀blk∈hp1,blk.fro=false∧∀c∈blk.cells,freeA c=true):
 SCall P f args hp (shift hp.length r) (hp++AGg9 hp.length hp1):=by
 refine ⟨h.1,fun S X yv w m B hv vs hl hrel=> ?_⟩;have hr0:Rel S X yv w m (B++AAa9 hp hv) hp hv:=hrel.sub (List.sublist_append_right _ _);have hargs:∀(i:Nat) (x:AV) (v:Value),args'[i]? =some x→vs[i]? =some v→RV (AAz9 S m) w [] none x v:=by
  intro i x v h1 h2;have hi:i<args.length:=by rw [hl'];exact (List.getElem?_eq_some_iff.1 h1).1
  have h3:args[i]? =some args[i]:=by simp [hi]
  have hm:(args[i],v)∈args.zip vs:=List.mem_iff_getElem?.2 ⟨i,by rw [List.getElem?_zip_eq_some];exact ⟨h3,h2⟩⟩;exact ADc9 (B:=B) hr0 (fun _ _ h=> .inl h) (hs i _ _ h3 h1) (fun g _ p hp i hi=> .inr ⟨g,p,hp,rfl,hi⟩) (hrel.rv _ (List.mem_append_left _ hm))
 have hlt:∀b i,AAz9 S m b i→b<w.heap.size:=by
  rintro b i (hb|⟨g,p,hg,rfl,hi⟩)
  ·exact hrel.lt b i (.inl hb)
  ·exact hrel.mLt p (List.mem_of_getElem? hg)
 have hgl:Glob (AAz9 S m) w:=fun g j v hv=>by
  obtain ⟨h1,h2,h3⟩:=hrel.gl g j v hv;exact ⟨.inl h1,h2,h3⟩
 refine CallsIn.mono (h.2 (AAz9 S m) w vs (by rw [←hl',hl]) hargs hlt hgl) ?_;rintro e w' ⟨v,S0,m1,hv1,rfl,hb,h1,h2,h3,h4⟩;have hup:∀b i,S b i→(fun b i=>S b i∨(w.heap.size≤b∧S0 b i)) b i:=fun b i h=> .inl h;have hnew:∀b i,(fun b i=>S b i∨(w.heap.size≤b∧S0 b i)) b i→S b i∨(w.heap.size≤b∧b<w'.heap.size):=fun b i h=>h.imp id fun h=>⟨h.1,h4.lt b i (.inl h.2)⟩;have hr1:=hr0.below hb hup hnew;have hA:∀p∈(r.view,v)::AAa9 hp1 hv1,freeA p.1=true:=by
  intro p hp;rcases Zbu.1 hp with rfl|hp
  ·exact hr
  ·simp only [AAa9,List.mem_flatMap] at hp;obtain ⟨q,hq,hpq⟩:=hp;exact (hc q.1 (List.of_mem_zip hq).1).2 p.1 (List.of_mem_zip hpq).1
 have hno:∀p∈(r.view,v)::AAa9 hp1 hv1,ownB p=none:=fun p hp=>BNd9 (v:=p.2) (hA p hp);have h4':Rel (fun b i=>S b i∨(w.heap.size≤b∧S0 b i)) (fun b _=>b<w.heap.size) none w' m1 ((r.view,v)::AAa9 hp1 hv1) hp1 hv1:=by
  refine ⟨fun b i h=> ?_,fun p hp=>(h4.rv p hp).free (hA p hp),h4.pw,h4.nm,fun p hp b hbb=> ?_,h4.mnd,h4.ml,h4.hl,fun g blk p us e1 e2 e3=> ?_,hr1.gl⟩
  ·rcases h with (h|h)|h
   ·exact hr1.lt b i (.inl (.inl h))
   ·exact h4.lt b i (.inl h.2)
   ·exact h4.lt b i (.inr h)
  ·rw [hno p hp] at hbb;cases hbb
  ·obtain ⟨a1,a2,a3,a4,a5,a6,a9,a10⟩:=h4.bl g blk p us e1 e2 e3;have hf:=(hc blk (List.mem_of_getElem? e1)).1;have hpb:=h3 p (List.mem_of_getElem? e2);refine ⟨a1,a2,a3,a4,a5,a6,fun _ i=>⟨fun hS=> ?_,(a9 hf i).2⟩,fun h=>by rw [hf] at h;cases h⟩;rcases hS with hS|hS
   ·have:=hrel.lt p.b i (.inl hS);omega
   ·exact (a9 hf i).1 hS.2
 have hM:=hr1.merge h4' (fun b i hx=>hrel.lt b i (.inr hx)) hrel.mLt h3 hr0.ownLt;refine ⟨v,_,m++m1,hv++hv1,rfl,⟨AAm9 hb _,hup,fun b i hs=>(hnew b i hs).imp id fun hh hx=>by have:=hrel.lt b i (.inr hx);omega,fun g q hq=> .inl (by rw [List.getElem?_append_left (List.getElem?_eq_some_iff.1 hq).1];exact hq)⟩, ?_⟩;rw [←hrel.ml,AQj9];refine hM.perm ?_;rw [List.map_cons,←AEr9,AKm9 hrel.hl];simp only;refine (List.perm_middle).trans (List.Perm.cons _ ?_);rw [Zbm]
theorem fcOA (s:SideT) (us:List UseT) (gs:List GraT) (n:NearT) (pe:Int) (l:List AskT) (h:AskOk s us gs n) (hl:l.length<1000000):
 FCall prog 40 [.d (.sl 3 (rowsA l)),fnOA s us gs n pe] (oaA (l.filter (keepA s us gs n pe))) (oaB (l.filter (keepA s us gs n pe))):=by
 refine FCall.ofFnW (n:=100) (u:=false) (fun _=>wlOA) mixed Zai Zar (fun Ev=>CBj9) func40 (by rfl) (by rfl) (by unfold oaB;split<;>rfl) fun Ev bb=> ?_;rw [BWb9,AAi9];refine ⟨s,us,gs,n,pe,l,_,rfl,rfl,rfl,⟨h,hl,rfl⟩, ?_⟩;rw [oaA,oaB];cases he:(l.filter (keepA s us gs n pe)).isEmpty with
 |true=>exact ⟨rfl,rfl⟩
 |false=>exact ⟨rfl,rfl⟩
def sOA (args:List AV) (hp:List Blk) (K:AV→List Blk→Prop):Prop:=AGh9 hp 200 args fun args'=>∃(s:SideT) (us:List UseT) (gs:List GraT) (n:NearT) (pe:Int) (l q:List AskT),args'= [.d (.sl 3 (rowsA l)),fnOA s us gs n pe]∧(AskOk s us gs n∧l.length<1000000∧q=l.filter (keepA s us gs n pe))∧
 BIf q.isEmpty (K (.d (.s (.slice none 0 0))) hp) (K (.gref (hp.length+1) (q.length - 1) q.length 3) (hp++ [junk3,growB (q.length - 1) (flatA (rowsA q))]))
theorem CIr9:∀args hp K,sOA args hp K→∃x hp',SCall prog 40 args hp x hp'∧K x hp':=by
 intro args hp K h;obtain ⟨args',hl,hs,s,us,gs,n,pe,l,_,rfl,⟨ha,hll,rfl⟩,hK⟩:=ABu9 h;have h1:=(fcOA s us gs n pe l ha hll).lendS (hp:=hp) hl hs (by unfold oaA;split<;>rfl) (by
  intro blk hb;unfold oaB at hb;split at hb
  ·cases hb
  ·rcases Zbu.1 hb with rfl|hb
   ·exact ⟨rfl,by simp [junk3,freeA]⟩
   ·rcases Zbu.1 hb with rfl|hb
    ·refine ⟨rfl,fun c hc=> ?_⟩;simp only [growB,flatA,Zbf,List.mem_flatten,rowsA] at hc;obtain ⟨d,⟨row,⟨a,_,rfl⟩,hd⟩,rfl⟩:=hc;simp only [askR,Zbu,List.not_mem_nil,or_false] at hd;rcases hd with rfl|rfl|rfl<;>rfl
    ·cases hb)
 refine ⟨_,_,h1, ?_⟩;cases he:(l.filter (keepA s us gs n pe)).isEmpty with
 | true=>
  rw [he] at hK;rw [oaA,oaB,he];simp only [if_true,shift,AGg9,List.map_nil,Zco];exact hK
 | false=>
  rw [he] at hK;rw [oaA,oaB,he];simp only [Zcm,if_false,shift,AGg9,List.map_cons,List.map_nil,ARa9,junk3,growB,AHr9,AKp9];exact hK
def BSg9:CF:=fun args K=>∃(sl of:Int),args= [.d (.s (.slice none 0 0)), .fn (.func 44) [] [.rptr [i64 sl,i64 of]]]∧K (.d (bo false))
theorem BJj9:COk 43 BSg9:=by
 rintro _ K ⟨sl,of,rfl,hk⟩;refine ⟨_, ?_,hk⟩;obtain ⟨x,hx,hk⟩:=AOe9 [.d (.sl 3 (rowsA [])), .fn (.func 44) [] [.rptr [i64 sl,i64 of]]] (fun x=>x= .d (bo false)) ⟨[],sl,of,_,rfl,⟨by simp,rfl⟩,rfl⟩;subst hk;exact hx.semArgs (.cons (SemV.ofLeV (.nil rfl)) (.cons SemV.rfl .nil))
noncomputable def rfAk:Code:=sub [1,1,1,1,1,1,1,1,1,1,0,1,2] (code f12)
theorem ARh9:rfAk= .rangeFunc (.tmp 63) #[64] (AGv9 rfAk) (ATk9 rfAk):=by kernel_rfl
def tmAk (s:SideT) (k:Nat):List AV:=Zam 8 .bad++ [.ptr 1 0, .bad, .bad, .ptr 2 0, .ptr 3 0, .bad, .ptr 4 0, .bad, .bad, .bad, .bad, .bad, .ptr 7 0, .ptr k 0]++Zam 41 .bad++ [.fn (.func 89) [] [.rptr [.pt (sideD s)]]]++Zam 25 .bad
def tbB (us:List UseT) (gs:List GraT):Blk:=⟨(tblN us gs).map .d,false,false,0⟩
def akB (ly:LayT) (us:List UseT) (gs:List GraT) (pe many:Int) (s:SideT) (n:NearT):List Blk:= [layB ly,tbB us gs,boxA (.d (i64 pe)),boxA (.d (i64 many)),resB,boxA (.rptr (sideD s)),nearB n,boxA (.fn (.func 38) [] [.ptr 5 0, .ptr 1 0, .ptr 6 0])]
def UAkN:SCT:= [(38,lendC cPos1),(43,lendC BSg9),(1000063,fun _ _ _=>False)]
theorem BKt9:AAl9 prog UAkN:=Zbt (AFr9 AVi9) (Zbt (AFr9 BJj9) AWe9)
def UAk:SCT:= [(38,lendC cPos1),(43,lendC BJi9),(1000063,fun _ _ _=>False)]
theorem CHh9:AAl9 prog UAk:=Zbt (AFr9 AVi9) (Zbt (AFr9 AOe9) AWe9)
def hpN (ly:LayT) (us:List UseT) (gs:List GraT) (pe many:Int) (s:SideT) (n:NearT):List Blk:=akB ly us gs pe many s n++ [boxA (.d (.s (.slice none 0 0)))]
def hpBc (ly:LayT) (us:List UseT) (gs:List GraT) (pe many:Int) (s:SideT) (n:NearT) (v m:Nat) (c0 cs:List AV):List Blk:=akB ly us gs pe many s n++ [boxA (.gref 10 v m 3),junkB c0,growB v cs]
def hpAc (ly:LayT) (us:List UseT) (gs:List GraT) (pe many:Int) (s:SideT) (n:NearT) (v m:Nat) (cs:List AV):List Blk:=akB ly us gs pe many s n++ [junk3,growB v cs,boxA (.gref 9 v m 3)]
theorem rAkN (ly:LayT) (us:List UseT) (gs:List GraT) (pe many:Int) (s:SideT) (n:NearT) (sl of:Int):wpcY prog ⟨[],UAkN,wl,y,false⟩ 100 #[64] (AGv9 rfAk) (ATk9 rfAk) (tmAk s 8) [cellA sl of] (hpN ly us gs pe many s n) b (takeK 9 Kh)=(BIf (decide ((0:Int)≥many)) (Kh (Zba 0) [bk (Qz3 ly),bk (Qz9 us gs),cell (i64 pe),cell (i64 many),bk Qz4,bk [Zah (Qz2 s)],nearB n,bk [Zav (Fn.func 38) [] [Zae 5 0,Zae 1 0,Zae 6 0]],cell (Zdk (.slice none 0 0))] b) (∃(s0:SideT) (us1:List UseT) (gs2:List GraT) (n3:NearT) (sl4:Int) (of5:Int) (q6:Bool),(Qz16 sl of s us gs n)=(Qz16 sl4 of5 s0 us1 gs2 n3)∧(((Zaa (Zau s0)≤9223372036854775807∧(∀(x:NearT),x∈Zau s0→AAo9 x)∧layOk (Zct s0)=true)∧(Zaa us1<10000∧Zaa gs2<10000)∧Zaa (Zcl n3)<10000∧Zaa (Zce n3)<10000)∧q6=possS s0 (TabT.mk us1 gs2 []) n3 sl4 of5)∧BIf q6 (∃(sl7:Int) (of8:Int), [Zad (Zdk (.slice none 0 0)),Zav (Fn.func 44) [] [Zah [i64 sl,i64 of]]]= [Zad (Zdk (.slice none 0 0)),Zav (Fn.func 44) [] [Zah [i64 sl7,i64 of8]]]∧False) (Kh Zfp [bk (Qz3 ly),bk (Qz9 us gs),cell (i64 pe),cell (i64 many),bk Qz4,bk [Zah (Qz2 s)],nearB n,bk [Zav (Fn.func 38) [] [Zae 5 0,Zae 1 0,Zae 6 0]],cell (Zdk (.slice none 0 0))] b))):=by kernel_rfl
theorem rAkC (ly:LayT) (us:List UseT) (gs:List GraT) (pe many:Int) (s:SideT) (n:NearT) (sl of:Int):wpcY prog ⟨[],UAkN,wl,y,false⟩ 100 #[64] (AGv9 rfAk) (ATk9 rfAk) (tmAk s 8) [cellA sl of] (hpN ly us gs pe many s n) b (takeK 11 Kh)=(BIf (decide ((0:Int)≥many)) (Kh (Zba 0) [bk (Qz3 ly),bk (Qz9 us gs),cell (i64 pe),cell (i64 many),bk Qz4,bk [Zah (Qz2 s)],nearB n,bk [Zav (Fn.func 38) [] [Zae 5 0,Zae 1 0,Zae 6 0]],cell (Zdk (.slice none 0 0)),bk [Zad (i64 sl),Zad (i64 of)]] b) (∃(s0:SideT) (us1:List UseT) (gs2:List GraT) (n3:NearT) (sl4:Int) (of5:Int) (q6:Bool),(Qz16 sl of s us gs n)=(Qz16 sl4 of5 s0 us1 gs2 n3)∧(((Zaa (Zau s0)≤9223372036854775807∧(∀(x:NearT),x∈Zau s0→AAo9 x)∧layOk (Zct s0)=true)∧(Zaa us1<10000∧Zaa gs2<10000)∧Zaa (Zcl n3)<10000∧Zaa (Zce n3)<10000)∧q6=possS s0 (TabT.mk us1 gs2 []) n3 sl4 of5)∧BIf q6 (∃(sl7:Int) (of8:Int), [Zad (Zdk (.slice none 0 0)),Zav (Fn.func 44) [] [Zah [i64 sl,i64 of]]]= [Zad (Zdk (.slice none 0 0)),Zav (Fn.func 44) [] [Zah [i64 sl7,i64 of8]]]∧Kh Zfp [bk (Qz3 ly),bk (Qz9 us gs),cell (i64 pe),cell (i64 many),bk Qz4,bk [Zah (Qz2 s)],nearB n,bk [Zav (Fn.func 38) [] [Zae 5 0,Zae 1 0,Zae 6 0]],bk [Zbh 10 0 1 3],bk [Zad (i64 sl),Zad (i64 of)],Blk.mk (Qz22 sl of pe) false true 0] b) (Kh Zfp [bk (Qz3 ly),bk (Qz9 us gs),cell (i64 pe),cell (i64 many),bk Qz4,bk [Zah (Qz2 s)],nearB n,bk [Zav (Fn.func 38) [] [Zae 5 0,Zae 1 0,Zae 6 0]],cell (Zdk (.slice none 0 0)),bk [Zad (i64 sl),Zad (i64 of)]] b))):=by kernel_rfl
theorem rAkB (ly:LayT) (us:List UseT) (gs:List GraT) (pe many:Int) (s:SideT) (n:NearT) (sl of:Int) (v m:Nat) (c0 cs:List AV):wpcY prog ⟨[],UAk,wl,y,false⟩ 100 #[64] (AGv9 rfAk) (ATk9 rfAk) (tmAk s 8) [cellA sl of] (hpBc ly us gs pe many s n v m c0 cs) b (takeK 11 Kh)=(v=v∧BIf (decide ((m:Int)≥many)) (BIf (Zbl [bk (Qz3 ly),bk (Qz9 us gs),cell (i64 pe),cell (i64 many),bk Qz4,bk [Zah (Qz2 s)],nearB n,bk [Zav (Fn.func 38) [] [Zae 5 0,Zae 1 0,Zae 6 0]],bk [Zbh 10 v m 3],bk c0,Blk.mk cs false true v] fun (blk0:Blk)=>lows 11 blk0.1) (Kh (Zba 0) [bk (Qz3 ly),bk (Qz9 us gs),cell (i64 pe),cell (i64 many),bk Qz4,bk [Zah (Qz2 s)],nearB n,bk [Zav (Fn.func 38) [] [Zae 5 0,Zae 1 0,Zae 6 0]],bk [Zbh 10 v m 3],bk c0,Blk.mk cs false true v] b) False) (∃(s1:SideT) (us2:List UseT) (gs3:List GraT) (n4:NearT) (sl5:Int) (of6:Int) (q7:Bool),(Qz16 sl of s us gs n)=(Qz16 sl5 of6 s1 us2 gs3 n4)∧(((Zaa (Zau s1)≤9223372036854775807∧(∀(x:NearT),x∈Zau s1→AAo9 x)∧layOk (Zct s1)=true)∧(Zaa us2<10000∧Zaa gs3<10000)∧Zaa (Zcl n4)<10000∧Zaa (Zce n4)<10000)∧q7=possS s1 (TabT.mk us2 gs3 []) n4 sl5 of6)∧BIf q7 (v=v∧∃(xs8:List (List Dv)),cs=flatA xs8∧Zaa xs8=m∧(∀(r:List Dv),r∈xs8→Zaa r=3)∧∃(l9:List AskT) (sl10:Int) (of11:Int) (q12:Bool), [Zad (Zaj 3 xs8),Zav (Fn.func 44) [] [Zah [i64 sl,i64 of]]]= [Zad (Zaj 3 (rowsA l9)),Zav (Fn.func 44) [] [Zah [i64 sl10,i64 of11]]]∧(Zaa l9≤9223372036854775807∧q12=Zcp l9 fun (x13:AskT)=>Zde x13==sl10)∧BIf (!q12) (v=v∧BIf (decide ((m+1)*24≤140737488355328)) (BIf (Zbl [bk (Qz3 ly),bk (Qz9 us gs),cell (i64 pe),cell (i64 many),bk Qz4,bk [Zah (Qz2 s)],nearB n,bk [Zav (Fn.func 38) [] [Zae 5 0,Zae 1 0,Zae 6 0]],bk [Zbh 10 (v+1) (m+1) 3],bk c0,Blk.mk (cs++(Qz22 sl of pe)) false true (v+1)] fun (blk14:Blk)=>lows 11 blk14.1) (Kh Zfp [bk (Qz3 ly),bk (Qz9 us gs),cell (i64 pe),cell (i64 many),bk Qz4,bk [Zah (Qz2 s)],nearB n,bk [Zav (Fn.func 38) [] [Zae 5 0,Zae 1 0,Zae 6 0]],bk [Zbh 10 (v+1) (m+1) 3],bk c0,Blk.mk (cs++(Qz22 sl of pe)) false true (v+1)] b) False) False) (BIf (Zbl [bk (Qz3 ly),bk (Qz9 us gs),cell (i64 pe),cell (i64 many),bk Qz4,bk [Zah (Qz2 s)],nearB n,bk [Zav (Fn.func 38) [] [Zae 5 0,Zae 1 0,Zae 6 0]],bk [Zbh 10 v m 3],bk c0,Blk.mk cs false true v] fun (blk15:Blk)=>lows 11 blk15.1) (Kh Zfp [bk (Qz3 ly),bk (Qz9 us gs),cell (i64 pe),cell (i64 many),bk Qz4,bk [Zah (Qz2 s)],nearB n,bk [Zav (Fn.func 38) [] [Zae 5 0,Zae 1 0,Zae 6 0]],bk [Zbh 10 v m 3],bk c0,Blk.mk cs false true v] b) False)) (BIf (Zbl [bk (Qz3 ly),bk (Qz9 us gs),cell (i64 pe),cell (i64 many),bk Qz4,bk [Zah (Qz2 s)],nearB n,bk [Zav (Fn.func 38) [] [Zae 5 0,Zae 1 0,Zae 6 0]],bk [Zbh 10 v m 3],bk c0,Blk.mk cs false true v] fun (blk16:Blk)=>lows 11 blk16.1) (Kh Zfp [bk (Qz3 ly),bk (Qz9 us gs),cell (i64 pe),cell (i64 many),bk Qz4,bk [Zah (Qz2 s)],nearB n,bk [Zav (Fn.func 38) [] [Zae 5 0,Zae 1 0,Zae 6 0]],bk [Zbh 10 v m 3],bk c0,Blk.mk cs false true v] b) False))):=by kernel_rfl
theorem rAkA (ly:LayT) (us:List UseT) (gs:List GraT) (pe many:Int) (s:SideT) (n:NearT) (sl of:Int) (v m:Nat) (cs:List AV):wpcY prog ⟨[],UAk,wl,y,false⟩ 100 #[64] (AGv9 rfAk) (ATk9 rfAk) (tmAk s 10) [cellA sl of] (hpAc ly us gs pe many s n v m cs) b (takeK 11 Kh)=(v=v∧BIf (decide ((m:Int)≥many)) (BIf (Zbl [bk (Qz3 ly),bk (Qz9 us gs),cell (i64 pe),cell (i64 many),bk Qz4,bk [Zah (Qz2 s)],nearB n,bk [Zav (Fn.func 38) [] [Zae 5 0,Zae 1 0,Zae 6 0]],bk [bad,bad,bad],Blk.mk cs false true v,bk [Zbh 9 v m 3]] fun (blk0:Blk)=>lows 11 blk0.1) (Kh (Zba 0) [bk (Qz3 ly),bk (Qz9 us gs),cell (i64 pe),cell (i64 many),bk Qz4,bk [Zah (Qz2 s)],nearB n,bk [Zav (Fn.func 38) [] [Zae 5 0,Zae 1 0,Zae 6 0]],bk [bad,bad,bad],Blk.mk cs false true v,bk [Zbh 9 v m 3]] b) False) (∃(s1:SideT) (us2:List UseT) (gs3:List GraT) (n4:NearT) (sl5:Int) (of6:Int) (q7:Bool),(Qz16 sl of s us gs n)=(Qz16 sl5 of6 s1 us2 gs3 n4)∧(((Zaa (Zau s1)≤9223372036854775807∧(∀(x:NearT),x∈Zau s1→AAo9 x)∧layOk (Zct s1)=true)∧(Zaa us2<10000∧Zaa gs3<10000)∧Zaa (Zcl n4)<10000∧Zaa (Zce n4)<10000)∧q7=possS s1 (TabT.mk us2 gs3 []) n4 sl5 of6)∧BIf q7 (v=v∧∃(xs8:List (List Dv)),cs=flatA xs8∧Zaa xs8=m∧(∀(r:List Dv),r∈xs8→Zaa r=3)∧∃(l9:List AskT) (sl10:Int) (of11:Int) (q12:Bool), [Zad (Zaj 3 xs8),Zav (Fn.func 44) [] [Zah [i64 sl,i64 of]]]= [Zad (Zaj 3 (rowsA l9)),Zav (Fn.func 44) [] [Zah [i64 sl10,i64 of11]]]∧(Zaa l9≤9223372036854775807∧q12=Zcp l9 fun (x13:AskT)=>Zde x13==sl10)∧BIf (!q12) (v=v∧BIf (decide ((m+1)*24≤140737488355328)) (BIf (Zbl [bk (Qz3 ly),bk (Qz9 us gs),cell (i64 pe),cell (i64 many),bk Qz4,bk [Zah (Qz2 s)],nearB n,bk [Zav (Fn.func 38) [] [Zae 5 0,Zae 1 0,Zae 6 0]],bk [bad,bad,bad],Blk.mk (cs++(Qz22 sl of pe)) false true (v+1),bk [Zbh 9 (v+1) (m+1) 3]] fun (blk14:Blk)=>lows 11 blk14.1) (Kh Zfp [bk (Qz3 ly),bk (Qz9 us gs),cell (i64 pe),cell (i64 many),bk Qz4,bk [Zah (Qz2 s)],nearB n,bk [Zav (Fn.func 38) [] [Zae 5 0,Zae 1 0,Zae 6 0]],bk [bad,bad,bad],Blk.mk (cs++(Qz22 sl of pe)) false true (v+1),bk [Zbh 9 (v+1) (m+1) 3]] b) False) False) (BIf (Zbl [bk (Qz3 ly),bk (Qz9 us gs),cell (i64 pe),cell (i64 many),bk Qz4,bk [Zah (Qz2 s)],nearB n,bk [Zav (Fn.func 38) [] [Zae 5 0,Zae 1 0,Zae 6 0]],bk [bad,bad,bad],Blk.mk cs false true v,bk [Zbh 9 v m 3]] fun (blk15:Blk)=>lows 11 blk15.1) (Kh Zfp [bk (Qz3 ly),bk (Qz9 us gs),cell (i64 pe),cell (i64 many),bk Qz4,bk [Zah (Qz2 s)],nearB n,bk [Zav (Fn.func 38) [] [Zae 5 0,Zae 1 0,Zae 6 0]],bk [bad,bad,bad],Blk.mk cs false true v,bk [Zbh 9 v m 3]] b) False)) (BIf (Zbl [bk (Qz3 ly),bk (Qz9 us gs),cell (i64 pe),cell (i64 many),bk Qz4,bk [Zah (Qz2 s)],nearB n,bk [Zav (Fn.func 38) [] [Zae 5 0,Zae 1 0,Zae 6 0]],bk [bad,bad,bad],Blk.mk cs false true v,bk [Zbh 9 v m 3]] fun (blk16:Blk)=>lows 11 blk16.1) (Kh Zfp [bk (Qz3 ly),bk (Qz9 us gs),cell (i64 pe),cell (i64 many),bk Qz4,bk [Zah (Qz2 s)],nearB n,bk [Zav (Fn.func 38) [] [Zae 5 0,Zae 1 0,Zae 6 0]],bk [bad,bad,bad],Blk.mk cs false true v,bk [Zbh 9 v m 3]] b) False))):=by kernel_rfl
theorem YList.stepG {P:Program} {Ev:Env P} {hp:List Blk} {tm:List AV} {b:Ev.β} {Q:Exit→St Ev.β→Prop} {X:CX Ev.β} {k n:Nat} (kk:Nat) {ps:Array Tmp} {assign body:Code} {x:List AV} {xs:List (List AV)} (hm:P.follows .mixedOrders=true) (hX:X.Ok) (hl:x.length=ps.size) (hkk:hp.length≤kk)
 (h:wpcY P X k ps assign body tm x hp b (takeK kk (AZv9 Ev tm Q fun hp' b'=>YList (YBody Ev tm ps assign body n) xs (hp',b',none) (AKq9 tm Q)))):YList (YBody Ev tm ps assign body n) (x::xs) (hp,b,none) (AKq9 tm Q):=
 YList.step (n:=kk) (hn:=hkk) hm hX hl h
def AHy9 (s:SideT) (us:List UseT) (gs:List GraT) (n:NearT) (pe:Int) (z:List AskT) (k:Nat):List AskT:=
 if possS s ⟨us,gs, []⟩ n (triSl s k) (triOf s k)=true then (if (z.any fun x=>x.sl==triSl s k)=true then z else z++ [⟨triSl s k,triOf s k,pe⟩]) else z
def askGo (s:SideT) (us:List UseT) (gs:List GraT) (n:NearT) (pe many:Int):List Nat→List AskT→List AskT
 | [],z=>z
 |k::r,z=>if (z.length:Int)≥many then z else askGo s us gs n pe many r (AHy9 s us gs n pe z k)
theorem BKm9 (s:SideT) (us:List UseT) (gs:List GraT) (n:NearT) (pe many:Int):∀(ks:List Nat) (z:List AskT),z≠ []→askGo s us gs n pe many ks z≠ []
 | [],z,h=>h
 | k::r,z,h=>by
  unfold askGo;split
  ·exact h
  ·refine BKm9 s us gs n pe many r _ ?_;unfold AHy9;split
   ·split
    ·exact h
    ·simp
   ·exact h
theorem ALb9 (z:List AskT) (sl of pe:Int):flatA (rowsA (z++ [⟨sl,of,pe⟩]))=flatA (rowsA z)++ [Zad (i64 sl),Zad (i64 of),Zad (i64 pe)]:=by
 have f:∀l:List AskT,flatA (rowsA l)=flatA (l.map askR):=fun _=>rfl;rw [f,f,AVd9];rfl
theorem BTb9 (ly:LayT) (us:List UseT) (gs:List GraT) (pe many:Int) (s:SideT) (n:NearT):Zbl (akB ly us gs pe many s n) (fun blk=>lows 11 blk.1)=true:=by rfl
theorem BWt9 {ly:LayT} {us:List UseT} {gs:List GraT} {pe many:Int} {s:SideT} {n:NearT} {v m:Nat} {c0:List AV} {z:List AskT} (h0:lows 11 c0=true):Zbl (hpBc ly us gs pe many s n v m c0 (flatA (rowsA z))) (fun blk=>lows 11 blk.1)=true:=by
 rw [hpBc,List.all_append,BTb9,Bool.true_and];simp only [List.all_cons,List.all_nil,Bool.and_true,Zal];exact ⟨rfl,h0,ACx9 11 _⟩
theorem BWu9 {ly:LayT} {us:List UseT} {gs:List GraT} {pe many:Int} {s:SideT} {n:NearT} {v m:Nat} {z:List AskT}:Zbl (hpAc ly us gs pe many s n v m (flatA (rowsA z))) (fun blk=>lows 11 blk.1)=true:=by
 rw [hpAc,List.all_append,BTb9,Bool.true_and];simp only [List.all_cons,List.all_nil,Bool.and_true,Zal];exact ⟨rfl,ACx9 11 _,rfl⟩
theorem yAkB {Ev:Env prog} {b:Ev.β} {Q:Exit→St Ev.β→Prop} (ly:LayT) (us:List UseT) (gs:List GraT) (pe many:Int) (s:SideT) (n:NearT) (h:AskOk s us gs n) (c0:List AV) (h0:lows 11 c0=true):∀(ks:List Nat) (z:List AskT) (v:Nat),z.length+ks.length<1000000→
 (∀(e:Exit) (v':Nat),(e= .normal∨e= .exit 0)→Q e ⟨tmAk s 8,hpBc ly us gs pe many s n v' (askGo s us gs n pe many ks z).length c0 (flatA (rowsA (askGo s us gs n pe many ks z))),b⟩)→
 YList (YBody Ev (tmAk s 8) #[64] (AGv9 rfAk) (ATk9 rfAk) 9) (ks.map (AQn9 s)) (hpBc ly us gs pe many s n v z.length c0 (flatA (rowsA z)),b,none) (AKq9 (tmAk s 8) Q)
 | [],z,v,hl,hQ=>hQ .normal v (.inl rfl)
 | k::r,z,v,hl,hQ=>by
  simp only [Zfr] at hl;refine YList.stepG 11 (X:=⟨[],UAk,wlW Ev,Ev.Y,false⟩) (k:=100) mixed (CX.Ok.of Zai CHh9) rfl (Zat _) ?_;refine Eq.mpr (rAkB _ _ _ _ ly us gs pe many s n (triSl s k) (triOf s k) v z.length c0 (flatA (rowsA z))) ?_;have low:∀(v m:Nat) (z:List AskT),Zbl (hpBc ly us gs pe many s n v m c0 (flatA (rowsA z))) (fun blk=>lows 11 blk.1)=true:=fun v m z=>BWt9 h0;refine ⟨rfl,Zax (fun h1=> ?_) fun h1=>⟨s,us,gs,n,triSl s k,triOf s k,_,rfl,⟨h,rfl⟩,Zax (fun h2=>⟨rfl,rowsA z,rfl,AAi9 z,ANu9 z,z,triSl s k,triOf s k,_,rfl,⟨by omega,rfl⟩,Zax (fun h3=>⟨rfl,Zas (by simp;omega) ?_⟩) fun h3=> ?_⟩) fun h2=> ?_⟩⟩
  ·have e:askGo s us gs n pe many (k::r) z=z:=by rw [askGo,if_pos (of_decide_eq_true h1)]
   rw [e] at hQ;exact Zas (low _ _ _) (hQ (.exit 0) v (.inr rfl))
  all_goals have hlt:=of_decide_eq_false h1
  ·have h3':¬(z.any fun x=>x.sl==triSl s k)=true:=by simpa using h3
   have e:askGo s us gs n pe many (k::r) z=askGo s us gs n pe many r (z++ [⟨triSl s k,triOf s k,pe⟩]):=by rw [askGo,if_neg hlt,AHy9,if_pos h2,if_neg h3']
   rw [e] at hQ;have hl2:=low (v+1) (z.length+1) (z++ [⟨triSl s k,triOf s k,pe⟩]);rw [ALb9] at hl2;have ih:=yAkB (Q:=Q) (b:=b) ly us gs pe many s n h c0 h0 r (z++ [⟨triSl s k,triOf s k,pe⟩]) (v+1) (by rw [Zbi];simp;omega) hQ;rw [ALb9,Zbi] at ih;exact Zas hl2 ih
  ·have h3':(z.any fun x=>x.sl==triSl s k)=true:=by simpa using h3
   have e:askGo s us gs n pe many (k::r) z=askGo s us gs n pe many r z:=by rw [askGo,if_neg hlt,AHy9,if_pos h2,if_pos h3']
   rw [e] at hQ;exact Zas (low _ _ _) (yAkB ly us gs pe many s n h c0 h0 r z v (by omega) hQ)
  ·have h2':¬possS s ⟨us,gs, []⟩ n (triSl s k) (triOf s k)=true:=by rw [h2];decide
   have e:askGo s us gs n pe many (k::r) z=askGo s us gs n pe many r z:=by rw [askGo,if_neg hlt,AHy9,if_neg h2']
   rw [e] at hQ;exact Zas (low _ _ _) (yAkB ly us gs pe many s n h c0 h0 r z v (by omega) hQ)
variable {Ev:Env prog} {b0:Ev.β} {Q:Exit→St Ev.β→Prop}
theorem yAkA {Ev:Env prog} {b:Ev.β} {Q:Exit→St Ev.β→Prop} (ly:LayT) (us:List UseT) (gs:List GraT) (pe many:Int) (s:SideT) (n:NearT) (h:AskOk s us gs n):∀(ks:List Nat) (z:List AskT) (v:Nat),z.length+ks.length<1000000→
 (∀(e:Exit) (v':Nat),(e= .normal∨e= .exit 0)→Q e ⟨tmAk s 10,hpAc ly us gs pe many s n v' (askGo s us gs n pe many ks z).length (flatA (rowsA (askGo s us gs n pe many ks z))),b⟩)→
 YList (YBody Ev (tmAk s 10) #[64] (AGv9 rfAk) (ATk9 rfAk) 11) (ks.map (AQn9 s)) (hpAc ly us gs pe many s n v z.length (flatA (rowsA z)),b,none) (AKq9 (tmAk s 10) Q)
 | [],z,v,hl,hQ=>hQ .normal v (.inl rfl)
 | k::r,z,v,hl,hQ=>by
  simp only [Zfr] at hl;refine YList.stepG 11 (X:=⟨[],UAk,wlW Ev,Ev.Y,false⟩) (k:=100) mixed (CX.Ok.of Zai CHh9) rfl (Zat _) ?_;refine Eq.mpr (rAkA _ _ _ _ ly us gs pe many s n (triSl s k) (triOf s k) v z.length (flatA (rowsA z))) ?_;have low:∀(v m:Nat) (z:List AskT),Zbl (hpAc ly us gs pe many s n v m (flatA (rowsA z))) (fun blk=>lows 11 blk.1)=true:=fun v m z=>BWu9;refine ⟨rfl,Zax (fun h1=> ?_) fun h1=>⟨s,us,gs,n,triSl s k,triOf s k,_,rfl,⟨h,rfl⟩,Zax (fun h2=>⟨rfl,rowsA z,rfl,AAi9 z,ANu9 z,z,triSl s k,triOf s k,_,rfl,⟨by omega,rfl⟩,Zax (fun h3=>⟨rfl,Zas (by simp;omega) ?_⟩) fun h3=> ?_⟩) fun h2=> ?_⟩⟩
  ·have e:askGo s us gs n pe many (k::r) z=z:=by rw [askGo,if_pos (of_decide_eq_true h1)]
   rw [e] at hQ;exact Zas (low _ _ _) (hQ (.exit 0) v (.inr rfl))
  all_goals have hlt:=of_decide_eq_false h1
  ·have h3':¬(z.any fun x=>x.sl==triSl s k)=true:=by simpa using h3
   have e:askGo s us gs n pe many (k::r) z=askGo s us gs n pe many r (z++ [⟨triSl s k,triOf s k,pe⟩]):=by rw [askGo,if_neg hlt,AHy9,if_pos h2,if_neg h3']
   rw [e] at hQ;have hl2:=low (v+1) (z.length+1) (z++ [⟨triSl s k,triOf s k,pe⟩]);rw [ALb9] at hl2;have ih:=yAkA (Q:=Q) (b:=b) ly us gs pe many s n h r (z++ [⟨triSl s k,triOf s k,pe⟩]) (v+1) (by rw [Zbi];simp;omega) hQ;rw [ALb9,Zbi] at ih;exact Zas hl2 ih
  ·have h3':(z.any fun x=>x.sl==triSl s k)=true:=by simpa using h3
   have e:askGo s us gs n pe many (k::r) z=askGo s us gs n pe many r z:=by rw [askGo,if_neg hlt,AHy9,if_pos h2,if_pos h3']
   rw [e] at hQ;exact Zas (low _ _ _) (yAkA ly us gs pe many s n h r z v (by omega) hQ)
  ·have h2':¬possS s ⟨us,gs, []⟩ n (triSl s k) (triOf s k)=true:=by rw [h2];decide
   have e:askGo s us gs n pe many (k::r) z=askGo s us gs n pe many r z:=by rw [askGo,if_neg hlt,AHy9,if_neg h2']
   rw [e] at hQ;exact Zas (low _ _ _) (yAkA ly us gs pe many s n h r z v (by omega) hQ)
theorem yAkN {Ev:Env prog} {b:Ev.β} {Q:Exit→St Ev.β→Prop} (ly:LayT) (us:List UseT) (gs:List GraT) (pe many:Int) (s:SideT) (n:NearT) (h:AskOk s us gs n):∀(ks:List Nat),ks.length<900000→
 (askGo s us gs n pe many ks []= []→∀e:Exit,(e= .normal∨e= .exit 0)→Q e ⟨tmAk s 8,hpN ly us gs pe many s n,b⟩)→
 (askGo s us gs n pe many ks []≠ []→∀(e:Exit) (v':Nat) (c0:List AV),(e= .normal∨e= .exit 0)→Q e ⟨tmAk s 8,hpBc ly us gs pe many s n v' (askGo s us gs n pe many ks []).length c0 (flatA (rowsA (askGo s us gs n pe many ks []))),b⟩)→
 YList (YBody Ev (tmAk s 8) #[64] (AGv9 rfAk) (ATk9 rfAk) 9) (ks.map (AQn9 s)) (hpN ly us gs pe many s n,b,none) (AKq9 (tmAk s 8) Q)
 | [],hl,h1,h2=>h1 rfl .normal (.inl rfl)
 | k::r,hl,h1,h2=>by
  simp only [Zfr] at hl;by_cases hm:(0:Int)≥many
  ·have e:askGo s us gs n pe many (k::r) []= []:=by rw [askGo,if_pos (by simpa using hm)]
   refine YList.stepG 9 (X:=⟨[],UAkN,wlW Ev,Ev.Y,false⟩) (k:=100) mixed (CX.Ok.of Zai BKt9) rfl (Zat _) ?_;refine Eq.mpr (rAkN _ _ _ _ ly us gs pe many s n (triSl s k) (triOf s k)) ?_;exact Zas (decide_eq_true hm) (h1 e (.exit 0) (.inr rfl))
  ·have hm':¬((([]:List AskT).length:Nat):Int)≥many:=by simpa using hm
   cases hp:possS s ⟨us,gs, []⟩ n (triSl s k) (triOf s k) with
   | false=>
    have e:askGo s us gs n pe many (k::r) []=askGo s us gs n pe many r []:=by rw [askGo,if_neg hm',AHy9,hp,if_neg (by decide)]
    rw [e] at h1 h2;refine YList.stepG 9 (X:=⟨[],UAkN,wlW Ev,Ev.Y,false⟩) (k:=100) mixed (CX.Ok.of Zai BKt9) rfl (Zat _) ?_;refine Eq.mpr (rAkN _ _ _ _ ly us gs pe many s n (triSl s k) (triOf s k)) ?_;exact Zci (decide_eq_false hm) ⟨s,us,gs,n,triSl s k,triOf s k,_,rfl,⟨h,rfl⟩,Zci hp (yAkN ly us gs pe many s n h r (by omega) h1 h2)⟩
   | true=>
    have e:askGo s us gs n pe many (k::r) []=askGo s us gs n pe many r [⟨triSl s k,triOf s k,pe⟩]:=by rw [askGo,if_neg hm',AHy9,hp,if_pos rfl];rfl
    have hne:=BKm9 s us gs n pe many r [⟨triSl s k,triOf s k,pe⟩] (by simp);rw [e] at h1 h2;have hB:=yAkB (Q:=Q) (b:=b) ly us gs pe many s n h [.d (i64 (triSl s k)), .d (i64 (triOf s k))] rfl r [⟨triSl s k,triOf s k,pe⟩] 0 (by simp;omega) (fun e v' he=>h2 hne e v' _ he);refine YList.stepG 11 (X:=⟨[],UAkN,wlW Ev,Ev.Y,false⟩) (k:=100) mixed (CX.Ok.of Zai BKt9) rfl (show 9≤11 by decide) ?_;refine Eq.mpr (rAkC _ _ _ _ ly us gs pe many s n (triSl s k) (triOf s k)) ?_;exact Zci (decide_eq_false hm) ⟨s,us,gs,n,triSl s k,triOf s k,_,rfl,⟨h,rfl⟩,Zas hp ⟨triSl s k,triOf s k,rfl,hB⟩⟩
def triKs (ly:LayT):List Nat:=List.range' 0 (16*ly.da).toNat
def wlAk {β:Type}:WLT β:=fun cd tm hp b K=>∃(ly:LayT) (us:List UseT) (gs:List GraT) (pe many:Int) (s:SideT) (n:NearT),cd=rfAk∧(AskOk s us gs n∧s.lay=ly∧(1≤ly.da∧ly.da≤60))∧
 match hp with
 | [b0,b1,b2,b3,b4,b5,b6,b7,b8]=>∃q:List AskT,AAn9 [8,11,12,14,20,21,63] 0 tm=tmAk s 8∧ [b0,b1,b2,b3,b4,b5,b6,b7,b8]=hpN ly us gs pe many s n∧q=askGo s us gs n pe many (triKs ly) []∧
  BIf q.isEmpty (K .normal (tmAk s 8) (hpN ly us gs pe many s n) b∧K (.exit 0) (tmAk s 8) (hpN ly us gs pe many s n) b) (∀(v:Nat) (c0:List AV),K .normal (tmAk s 8) (hpBc ly us gs pe many s n v q.length c0 (flatA (rowsA q))) b∧K (.exit 0) (tmAk s 8) (hpBc ly us gs pe many s n v q.length c0 (flatA (rowsA q))) b)
 | [b0,b1,b2,b3,b4,b5,b6,b7,b8,b9,b10]=>∃(z q:List AskT) (v:Nat),AAn9 [8,11,12,14,20,21,63] 0 tm=tmAk s 10∧ [b0,b1,b2,b3,b4,b5,b6,b7,b8,b9,b10]=hpAc ly us gs pe many s n v z.length (flatA (rowsA z))∧(z.length<90000∧q=askGo s us gs n pe many (triKs ly) z)∧
  ∀(v:Nat),K .normal (tmAk s 10) (hpAc ly us gs pe many s n v q.length (flatA (rowsA q))) b∧K (.exit 0) (tmAk s 10) (hpAc ly us gs pe many s n v q.length (flatA (rowsA q))) b
 |_=>False
theorem CCg9:WlOk Ev wlAk:=by
 rintro c tm hp b K ⟨ly,us,gs,pe,many,s,n,rfl,⟨ha,hly,hd⟩,h⟩;have hd':1≤s.lay.da∧s.lay.da≤60:=by rw [hly];exact hd
 have hic:=icTr s hd' (16*ly.da).toNat (by rw [hly];omega);have hkl:(triKs ly).length<1000:=by rw [triKs,List.length_range'];omega
 split at h
 ·obtain ⟨_,htm,hhp,rfl,h⟩:=h;rw [hhp];refine W.cast (htm▸AAc9 _ tm 0) (Zbg _) ?_;rw [ARh9];refine W.range (s:=⟨tmAk s 8,hpN ly us gs pe many s n,b⟩) (k:=89) (first:= []) (caps:= [.rptr [.pt (sideD s)]]) rfl rfl rfl hic ?_;refine yAkN (Q:=fun e s=>K e s.tm s.hp s.b) ly us gs pe many s n ha (triKs ly) (by omega) (fun h0 e he=> ?_) fun h0 e v' c0 he=> ?_
  ·rw [h0] at h;rcases he with rfl|rfl
   ·exact h.1
   ·exact h.2
  ·have h1:(askGo s us gs n pe many (triKs ly) []).isEmpty=false:=by simpa using h0
   rw [h1] at h;have h2:=(show ∀(v:Nat) (c0:List AV),_ from h) v' c0;rcases he with rfl|rfl
   ·exact h2.1
   ·exact h2.2
 ·obtain ⟨z,_,v,htm,hhp,⟨hz,rfl⟩,h⟩:=h;rw [hhp];refine W.cast (htm▸AAc9 _ tm 0) (Zbg _) ?_;rw [ARh9];refine W.range (s:=⟨tmAk s 10,hpAc ly us gs pe many s n v z.length (flatA (rowsA z)),b⟩) (k:=89) (first:= []) (caps:= [.rptr [.pt (sideD s)]]) rfl rfl rfl hic ?_;refine yAkA (Q:=fun e s=>K e s.tm s.hp s.b) ly us gs pe many s n ha (triKs ly) z v (by omega) fun e v' he=> ?_;have h2:=h v';rcases he with rfl|rfl
  ·exact h2.1
  ·exact h2.2
 ·exact h.elim
open Go.Shelf Go.Lib Go.Sort
variable {β:Type} (y:ADo9 β) (b:β)
def SA:Type:= {a:AskT // -1000≤a.sl∧a.sl≤1000}
instance : Inhabited SA := ⟨⟨⟨0, 0, 0⟩, by decide⟩⟩
def encA (x:SA):List Value:= [.int .i64 x.1.sl, .int .i64 x.1.of, .int .i64 x.1.pe]
def cmpA (x y:SA):Int:=x.1.sl - y.1.sl
theorem ltA (x y:SA):ltOf cmpA x y=decide (x.1.sl<y.1.sl):=by
 unfold ltOf cmpA;by_cases h:x.1.sl<y.1.sl
 ·simp [h];omega
 ·simp [h];omega
theorem swoA:Go.Sort.SWO (ltOf cmpA) where
 irrefl x:=by rw [ltA];simp
 trans x y z h1 h2:=by rw [ltA] at*;simp at*;omega
 ntrans x y z h1 h2:=by rw [ltA] at*;simp at*;omega
set_option maxHeartbeats 1000000 in
theorem BOj9 (a b c x y z:Int) (W:World):Calls prog 46 #[.agg #[.int .i64 a, .int .i64 b, .int .i64 c], .agg #[.int .i64 x, .int .i64 y, .int .i64 z]] W fun e w'=>e= .returned (.int .i64 (wrap64 (a - x)))∧∃q os',w'=Go.Sort.grow (W.drewN q) os':=by
 go_enter func46,Tryz.ntmps46
 go_wp2
 go_ret
 exact ⟨rfl,0,_,by rw [Go.Sort.alloc_eq_grow,Go.Sort.alloc_eq_grow,Go.Sort.grow_grow];rfl⟩
theorem BXz9 (blk off size:Nat) (w:World):CmpLays prog 46 #[] encA 3 cmpA blk off size w:=by
 intro m os dk hs x y;have h:=BOj9 x.1.sl x.1.of x.1.pe y.1.sl y.1.of y.1.pe (sortWorldK encA 3 w blk off m dk os);have e:wrap64 (x.1.sl - y.1.sl)=cmpA x y:=by
  obtain ⟨a,ha⟩:=x;obtain ⟨b,hb⟩:=y;simp only [cmpA];unfold wrap64;omega
 rw [e] at h;exact h
def valsA (zs:List SA):List Value:=zs.flatMap encA
theorem ADt9:∀zs:List SA,(valsA zs).length=zs.length*3
 | []=>rfl
 |z::zs=>by simp only [valsA,List.flatMap_cons,Zbi,Zfr];have:=ADt9 zs;simp only [valsA] at this;rw [this];simp [encA];omega
theorem AWl9:∀(zs:List SA) (t:Nat),t<zs.length*3→(valsA zs)[t]? =(encA (zs[t / 3]?.getD default))[t % 3]?
 | [],t,h=>by simp at h
 | z::zs,t,h=>by
  simp only [valsA,List.flatMap_cons];have hl:(encA z).length=3:=rfl;by_cases ht:t<3
  ·rw [List.getElem?_append_left (by rw [hl];exact ht),Nat.div_eq_of_lt ht,Nat.mod_eq_of_lt ht];rfl
  ·rw [List.getElem?_append_right (by rw [hl];omega),hl];have ih:=AWl9 zs (t - 3) (by simp only [Zfr] at h;omega);simp only [valsA] at ih;rw [ih];have e1:t / 3=(t - 3) / 3+1:=by omega
   have e2:(t - 3) % 3=t % 3:=by omega
   rw [e1,e2];rfl
theorem ASs9 (d:Array SA):(flatK encA 3 d).toList=valsA d.toList:=by
 apply List.ext_getElem?;intro t;by_cases ht:t<d.size*3
 ·have h1:=get_flatK encA 3 d t ht;rw [AWl9 d.toList t (by simpa using ht)];have hs:t<(flatK encA 3 d).size:=by simpa using ht
  rw [getElem!_pos (flatK encA 3 d) t hs] at h1;rw [Array.getElem?_toList,Array.getElem?_eq_getElem hs,h1];have hd:t / 3<d.size:=by omega
  have e:d.toList[t / 3]?.getD default=d[t / 3]! :=by
   rw [getElem!_pos d _ hd];simp [hd]
  rw [e];have hm:t % 3<(encA d[t / 3]!).length:=by show t % 3<3;omega
  rw [getElem!_pos (encA d[t / 3]!) _ hm,Zbc hm]
 ·rw [List.getElem?_eq_none (by simpa using ht),List.getElem?_eq_none (by rw [ADt9];simpa using ht)]
theorem AJd9 (zs:List SA):flatA (rowsA (zs.map (·.1)))=(valsA zs).map fun v=>Zad (.s v):=by
 induction zs with
 |nil=>rfl
 | cons z zs ih=>
  have f:∀l:List AskT,flatA (rowsA l)=flatA (l.map askR):=fun _=>rfl;rw [f] at ih ⊢;simp only [List.map_cons] at ih ⊢;rw [AGr9,ih];simp only [valsA,List.flatMap_cons,List.map_append];rfl
end Go.Proofs.YthcbbmnjikhihaaGreat.Am
namespace Go.Proofs
open Go.Shelf
def Tryz.sortAsk_ren:Go.Shelf.Ren:=⟨fun|6=>45|15=>92|14=>91|28=>129|29=>130|20=>121|21=>122|22=>123|23=>124|24=>125|25=>126|26=>127|27=>128|46=>141|47=>142|48=>143|49=>144|50=>145|57=>150|n=>n,fun|22=>26|24=>63|25=>97|3=>3|39=>137|0=>0|53=>175|55=>45|4=>4|46=>168|45=>167|50=>172|5=>5|9=>9|66=>186|70=>190|76=>196|77=>197|n=>n,fun|n=>n⟩
theorem Tryz.sortAsk:Go.Proofs.SlLaysF0.n6 prog Tryz.sortAsk_ren:= {
 mixed:=by kernel_rfl
 f6:=⟨Tryz.f45.name,by decide,Tryz.func45.trans (congrArg some (by kernel_rfl))⟩
 f14:=⟨Tryz.f91.name,by decide,Tryz.func91.trans (congrArg some (by kernel_rfl))⟩
 f15:=Tryz.func92.trans (congrArg some (by kernel_rfl))
 f20:=⟨Tryz.f121.name,by decide,Tryz.func121.trans (congrArg some (by kernel_rfl))⟩
 f21:=⟨Tryz.f122.name,by decide,Tryz.func122.trans (congrArg some (by kernel_rfl))⟩
 f22:=⟨Tryz.f123.name,by decide,Tryz.func123.trans (congrArg some (by kernel_rfl))⟩
 f23:=⟨Tryz.f124.name,by decide,Tryz.func124.trans (congrArg some (by kernel_rfl))⟩
 f24:=⟨Tryz.f125.name,by decide,Tryz.func125.trans (congrArg some (by kernel_rfl))⟩
 f25:=⟨Tryz.f126.name,by decide,Tryz.func126.trans (congrArg some (by kernel_rfl))⟩
 f26:=⟨Tryz.f127.name,by decide,Tryz.func127.trans (congrArg some (by kernel_rfl))⟩
 f27:=⟨Tryz.f128.name,by decide,Tryz.func128.trans (congrArg some (by kernel_rfl))⟩
 f28:=Tryz.func129.trans (congrArg some (by kernel_rfl))
 f29:=Tryz.func130.trans (congrArg some (by kernel_rfl))
 f46:=⟨Tryz.f141.name,by decide,Tryz.func141.trans (congrArg some (by kernel_rfl))⟩
 f47:=Tryz.func142.trans (congrArg some (by kernel_rfl))
 f48:=Tryz.func143.trans (congrArg some (by kernel_rfl))
 f49:=⟨Tryz.f144.name,by decide,Tryz.func144.trans (congrArg some (by kernel_rfl))⟩
 f50:=⟨Tryz.f145.name,by decide,Tryz.func145.trans (congrArg some (by kernel_rfl))⟩
 f57:=⟨Tryz.f150.name,by decide,Tryz.func150.trans (congrArg some (by kernel_rfl))⟩
 t0:=Tryz.underlying0
 a0:=Tryz.isAgg0
 z0:=Tryz.sizeOf0
 v0:=Tryz.zeroValue0
 t3:=Tryz.underlying3
 a3:=Tryz.isAgg3
 z3:=Tryz.sizeOf3
 v3:=Tryz.zeroValue3
 t4:=Tryz.underlying4
 a4:=Tryz.isAgg4
 z4:=Tryz.sizeOf4
 v4:=Tryz.zeroValue4
 t5:=Tryz.underlying5
 a5:=Tryz.isAgg5
 z5:=Tryz.sizeOf5
 v5:=Tryz.zeroValue5
 t9:=Tryz.underlying9
 a9:=Tryz.isAgg9
 z9:=Tryz.sizeOf9
 v9:=Tryz.zeroValue9
 t22:=Tryz.underlying26
 a22:=Tryz.isAgg26
 z22:=Tryz.sizeOf26
 v22:=Tryz.zeroValue26
 t25:=Tryz.underlying97
 a25:=Tryz.isAgg97
 z25:=Tryz.sizeOf97
 v25:=Tryz.zeroValue97
 t39:=Tryz.underlying137
 a39:=Tryz.isAgg137
 z39:=Tryz.sizeOf137
 v39:=Tryz.zeroValue137
 t45:=Tryz.underlying167
 a45:=Tryz.isAgg167
 z45:=Tryz.sizeOf167
 v45:=Tryz.zeroValue167
 t46:=Tryz.underlying168
 a46:=Tryz.isAgg168
 z46:=Tryz.sizeOf168
 v46:=Tryz.zeroValue168
 t50:=Tryz.underlying172
 a50:=Tryz.isAgg172
 z50:=Tryz.sizeOf172
 v50:=Tryz.zeroValue172
 t53:=Tryz.underlying175
 a53:=Tryz.isAgg175
 z53:=Tryz.sizeOf175
 v53:=Tryz.zeroValue175
 t55:=Tryz.underlying45
 a55:=Tryz.isAgg45
 z55:=Tryz.sizeOf45
 v55:=Tryz.zeroValue45
 t66:=Tryz.underlying186
 a66:=Tryz.isAgg186
 z66:=Tryz.sizeOf186
 v66:=Tryz.zeroValue186
 t70:=Tryz.underlying190
 a70:=Tryz.isAgg190
 z70:=Tryz.sizeOf190
 v70:=Tryz.zeroValue190
 t76:=Tryz.underlying196
 a76:=Tryz.isAgg196
 z76:=Tryz.sizeOf196
 v76:=Tryz.zeroValue196
 t77:=Tryz.underlying197
 a77:=Tryz.isAgg197
 z77:=Tryz.sizeOf197
 v77:=Tryz.zeroValue197}
end Go.Proofs
namespace Go.Proofs.YthcbbmnjikhihaaGreat.Am
open Go Go.RowKit Go.Proofs Tryz
open AV renaming agg → Zan, bad → Zab, d → Zad, fn → Zav, gref → Zbh, own → Zcc, ptr → Zae, rptr → Zah
open AskT renaming sl → Zde
open BIf renaming f → Zci, of → Zax, t → Zas
open Bool renaming and_eq_true → Zal, and_false → Zcn, false_and → Zdb, false_eq_true → Zcm, not_eq_true' → Zcb
open AAb9 renaming cons → Zag, nil → Zai
open Go.Code renaming loop → Zaq
open Dv renaming fn → Zcw, pt → Zdo, s → Zdk, sl → Zaj
open Go.Exit renaming exit → Zba, normal → Zfp
open Int renaming toNat → Zak
open Go.IntKind renaming i64 → Zbb, wrap → Zac
open LayT renaming da → Zbr
open LeH renaming refl → Zbg
open LeVs renaming refl → Zga
open List renaming all → Zbl, any → Zcp, append_assoc → Zbm, append_nil → Zco, cons_append → Zdv, drop → Zcg, filter_sublist → Zgh, getElem?_eq_getElem → Zbc, getElem?_map → Zbp, length → Zaa, length_append → Zbi, length_cons → Zfr, length_filter_le → Zcd, length_take → Zcj, mem_append → Zca, mem_cons → Zbu, mem_cons_of_mem → Zch, mem_cons_self → Zby, mem_filter → Zeb, mem_map → Zbf, pairwise_cons → Zdh, replicate → Zam, take → Zbq, take_length → Zdc
open Nat renaming le_refl → Zat
open NearT renaming gs → Zce, us → Zcl
open AAl9 renaming cons → Zbt, nil → Zar
open SideT renaming lay → Zct, ns → Zau
open TabT renaming ak → Zck, gs → Zbx, us → Zbv
variable {β:Type} (wl:WLT β) (y:ADo9 β) (b:β) (R:AV→β→Prop) (Kr:AV→List Blk→β→Prop) (K:Exit→List AV→List Blk→β→Prop) (Kh:Exit→List Blk→β→Prop) (Q:β→Prop)
open AV (bad)
set_option linter.unusedVariables false
set_option maxRecDepth 20000
set_option maxHeartbeats 1000000
open Go.Shelf Go.Lib Go.Sort
variable {β:Type} (wl:WLT β) (y:ADo9 β) (b:β) (R:AV→β→Prop) (K:Exit→List AV→List Blk→β→Prop) (Q:β→Prop)
theorem BFb9 {w:World} {b:Nat} {cur:Array Value} {e:TypeId} (hb:w.heap[b]? =some (.cells cur e (0,0))) (d:Array SA) (hs:d.size*3≤cur.size):
 putRowK encA 3 w b 0 d=w.setRow b (cur.toList.take 0++valsA d.toList++cur.toList.drop (0+(valsA d.toList).length)).toArray:=by
 have hv:(flatK encA 3 d).toList=valsA d.toList:=ASs9 d;have hl:(valsA d.toList).length=d.size*3:=by rw [ADt9];simp
 have hc:putCells id 0 (flatK encA 3 d) cur=(cur.toList.take 0++valsA d.toList++cur.toList.drop (0+(valsA d.toList).length)).toArray:=by
  apply Array.ext_getElem?;intro j;unfold putCells;simp only [Array.getElem?_mapIdx,List.getElem?_toArray,List.take_zero,List.nil_append];by_cases hj:j<d.size*3
  ·rw [List.getElem?_append_left (show j<(valsA d.toList).length by omega),←hv,Array.getElem?_toList,Array.getElem?_eq_getElem (show j<(flatK encA 3 d).size by simpa using hj),Array.getElem?_eq_getElem (show j<cur.size by omega)];simp only [Option.map_some,size_flatK,id,Nat.sub_zero,Nat.zero_add,Nat.zero_le,true_and,if_pos hj];rw [getElem!_pos (flatK encA 3 d) j (by simpa using hj)]
  ·rw [List.getElem?_append_right (show (valsA d.toList).length≤j by omega),List.getElem?_drop,show 0+(valsA d.toList).length+(j - (valsA d.toList).length)=j by omega,Array.getElem?_toList];cases hcj:cur[j]? with
   |none=>rfl
   | some x=>
    simp only [Option.map_some,size_flatK,Nat.zero_add,Nat.zero_le,true_and,if_neg hj]
 have hh:(w.heap.modify b (onCells (putCells id 0 (flatK encA 3 d))))=(w.setRow b (cur.toList.take 0++valsA d.toList++cur.toList.drop (0+(valsA d.toList).length)).toArray).heap:=by
  unfold World.setRow;apply Array.ext_getElem?;intro k;simp only [Array.getElem?_modify];by_cases hk:b=k
  ·subst hk;simp only [if_true,hb,Option.map_some,onCells,hc]
  ·simp only [hk,if_false]
 unfold putRowK putRow mapBlock;rw [hh];rfl
theorem toSA:∀z:List AskT,(∀a∈z, -1000≤a.sl∧a.sl≤1000)→∃zs:List SA,zs.map (·.1)=z
 | [],_=>⟨[],rfl⟩
 | a::z,h=>by
  obtain ⟨zs,hz⟩:=toSA z fun x hx=>h x (Zch _ hx);exact ⟨⟨a,h a (Zby)⟩::zs,congrArg (a:: ·) hz⟩
def BVk9 (args:List AV) (hp:List Blk) (K:AV→List Blk→Prop):Prop:=match args with
 | [.d (.s (.slice none 0 0)), .fn (.func 46) [] []]=>K (.tup []) hp
 | [.gref g v n k, .fn (.func 46) [] []]=>∃z:List AskT,hp[g]? =some (growB v (flatA (rowsA z)))∧(k=3∧z.length=n∧n<1000000∧∀a∈z, -1000≤a.sl∧a.sl≤1000)∧∀z':List AskT,z'.Perm z→z'.Pairwise (fun a b=>a.sl≤b.sl)→K (.tup []) (hp.set g (growB v (flatA (rowsA z'))))
 |_=>False
theorem RV.s_eq {S:Pr} {w:World} {m:List MB} {yv:Option Nat} {v u:Value} (h:RV S w m yv (.d (.s v)) u):u=v:=by
 cases h with
 |d h=>cases h;rfl
theorem RV.fn0 {S:Pr} {w:World} {m:List MB} {yv:Option Nat} {k:Nat} {u:Value} (h:RV S w m yv (.fn (.func k) [] []) u):u= .func (.func k) #[] #[]:=by
 cases h with
 | fn hf hl hl' h h'=>
  rename_i fs cs;have e1:fs=#[]:=Array.eq_empty_of_size_eq_zero (by simpa using hl.symm);have e2:cs=#[]:=Array.eq_empty_of_size_eq_zero (by simpa using hl'.symm);rw [e1,e2]
theorem AOf9 (w:World) (n:Nat):Below w.heap.size w (Sort.ahead w n):=⟨rfl,rfl,rfl,Zat _,fun _ _=>rfl⟩
theorem ATl9 (w:World) (os:Array Obj):Below w.heap.size w (grow w os):=⟨rfl,rfl,rfl,by simp [grow],fun k hk=>by simp [grow,Array.getElem?_append,hk]⟩
theorem CCu9 {g v:Nat} {z:List AskT} {hp:List Blk} (hg:hp[g]? =some (growB v (flatA (rowsA z)))) (hn:z.length<1000000) (hz:∀a∈z, -1000≤a.sl∧a.sl≤1000):∀(K:AV→List Blk→Prop),(∀z':List AskT,z'.Perm z→z'.Pairwise (fun a b=>a.sl≤b.sl)→K (.tup []) (hp.set g (growB v (flatA (rowsA z')))))→
 ∃x hp',SCall prog 45 [.gref g v z.length 3, .fn (.func 46) [] []] hp x hp'∧K x hp':=by
 intro K hK;obtain ⟨zs,hzs⟩:=toSA z hz;subst hzs
 let d:Array SA:=zs.toArray
 let r:Array SA:=pdq (ltOf cmpA) d 0 d.size (Lib.bitLen d.size) true true
 have hds:d.size=zs.length:=by simp [d]
 have hps:=pdq_sorts (ltOf cmpA) swoA d 0 d.size (Lib.bitLen d.size) true true (Nat.zero_le _) (Zat _) (Or.inl rfl);have hrs:r.size=d.size:=hps.1.1;have hperm:r.toList.Perm zs:=by
  have h:=hps.1.2.2;have e1:(r.extract 0 d.size)=r:=by rw [←hrs];simp
  have e2:(d.extract 0 d.size)=d:=by simp
  have h2:(r.extract 0 d.size).toList.Perm (d.extract 0 d.size).toList:=h;rw [e1,e2] at h2;exact h2
 have hsort:r.toList.Pairwise fun a b=>a.1.sl≤b.1.sl:=by
  rw [List.pairwise_iff_getElem];intro i j hi hj hij;simp only [Array.length_toList] at hi hj;have h:=hps.2 i j (Nat.zero_le _) hij (by omega);have h2:ltOf cmpA r[j]! r[i]! =false:=h;rw [ltA,getElem!_pos r j hj,getElem!_pos r i hi] at h2;have h3:=of_decide_eq_false h2;simp only [Array.getElem_toList];omega
 have hK2:=hK (r.toList.map (·.1)) (hperm.map _) (List.pairwise_map.2 hsort);refine ⟨_,_,⟨enters_of func45 (by kernel_rfl) rfl, ?_⟩,hK2⟩;intro S X yv w m B hv vs hl h;obtain ⟨v0,v1,rfl⟩:∃v0 v1,vs= [v0,v1]:=by
  match vs,hl with
  | [a,b],_=>exact ⟨a,b,rfl⟩
 have h0:=h.rv (.gref g v (zs.map (·.1)).length 3,v0) (by simp);have h1:=h.rv (.fn (.func 46) [] [],v1) (by simp);have e1:=RV.fn0 h1;subst e1;obtain ⟨b,len,ver',hm,hver,hone,hcc⟩:∃b len ver',m[g]? =some ⟨b,len,true,ver'⟩∧v≤ver'∧v0.oneCell'=true∧(v=ver'→len=(zs.map (·.1)).length*3∧∃cap,v0= .slice (some ⟨b,0,none⟩) (zs.map (·.1)).length cap∧(zs.map (·.1)).length≤cap∧cap≤maxLen∧∃(cur:Array Value) (e:TypeId),w.heap[b]? =some (Obj.cells cur e (0,0))∧cur.size=cap*3):=by
  cases h0 with
  |gref a1 a2 a3 a4=>exact ⟨_,_,_,a1,a2,a3,a4⟩
 obtain ⟨blk,us,cur,e,g1,g2,g3,g4,g5,g6,g7,g8,g9,g10,g11,g12⟩:=h.block hm;rw [hg] at g1;cases g1;obtain ⟨hlen,cap,hv0,hcap,_,_⟩:=hcc g5.symm;rw [List.length_map] at hlen hv0;subst hv0;simp only at g3 g6 g8 g9 g10 g11;have hvals:us=valsA zs:=by
  have hl2:us.length=zs.length*3:=by rw [g6,hlen]
  apply List.ext_getElem?;intro j;by_cases hj:j<zs.length*3
  ·have hj1:j<us.length:=by omega
   have hj2:j<(valsA zs).length:=by rw [ADt9];omega
   rw [Zbc hj1,Zbc hj2];have hcell:(growB v (flatA (rowsA (zs.map (·.1))))).cells[j]? =some (Zad (.s (valsA zs)[j])):=by
    show (flatA (rowsA (zs.map (·.1))))[j]? =_;rw [AJd9,Zbp,Zbc hj2];rfl
   have hr:=h.rv (Zad (.s (valsA zs)[j]),us[j]) (List.mem_append_right _ (List.mem_append_right _ (AKi9 hg g2 hcell (Zbc hj1))));exact congrArg some (RV.s_eq hr)
  ·rw [List.getElem?_eq_none (by omega),List.getElem?_eq_none (by rw [ADt9];omega)]
 subst hvals;have hHK:HoldsK encA 3 w b 0 d:=by
  intro j hj;have hj':j<(valsA zs).length:=by rw [ADt9,←hds];simpa using hj
  refine ⟨?_, ?_⟩
  ·rw [Nat.zero_add];have hc:=AEn9 g8 g9 j (valsA zs)[j] (Zbc hj');rw [hc,getElem!_pos (flatK encA 3 d) j hj];congr 1;have e2:=ASs9 d;show _=(flatK encA 3 d)[j];rw [←Array.getElem_toList];congr 1;exact e2.symm
  ·unfold World.frozen?;simp only [g8];simp
 have hblk:b<w.heap.size:=(Array.getElem?_eq_some_iff.1 g8).1;have hcall:=AnyQ.slices_SortFunc_eq Tryz.sortAsk 3 Tryz.isAgg63 Tryz.sizeOf63 encA (fun _=>rfl) (by intro x y hy;simp only [encA,Zbu,List.not_mem_nil,or_false] at hy;rcases hy with rfl|rfl|rfl<;>rfl) cmpA swoA 46 #[] b 0 cap d w (enters_of func46 (by kernel_rfl) rfl) (BXz9 b 0 d.size w) hHK hblk (by rw [hds];simp at hn;omega);refine callsIn_wide.2 ?_;have ea:d.size=zs.length:=hds;rw [ea] at hcall;refine hcall.mono ?_;rintro _ _ ⟨rfl,n,os,rfl⟩;have hrl:(valsA r.toList).length=zs.length*3:=by rw [ADt9,Array.length_toList,hrs,hds]
 have ha:=h.below (AOf9 w n) (fun _ _ h=>h) (fun _ _ h=> .inl h);have hpush:Rel S X yv (Sort.ahead w n) m (((valsA r.toList).map fun v=>Zad (.s v)).zip (valsA r.toList)++(B++AAa9 hp hv)) hp hv:=by
  refine (ha.sub (List.sublist_append_right _ _)).pushAll _ fun p hp=> ?_;obtain ⟨i,hi⟩:=List.mem_iff_getElem?.1 hp;rw [List.getElem?_zip_eq_some,Zbp] at hi;obtain ⟨hi1,hi2⟩:=hi;rw [hi2] at hi1;obtain ⟨p1,p2⟩:=p;simp only [Option.map_some,Option.some.injEq] at hi1;subst hi1;exact ⟨.d (.s _),rfl⟩
 have hst:=hpush.storeBlock (g:=g) (off:=0) (cur:=cur) (e:=e) (by simp) (by
  intro u hu;simp only [valsA,List.mem_flatMap,encA,Zbu,List.not_mem_nil,or_false] at hu;obtain ⟨_,_,hu⟩:=hu;rcases hu with rfl|rfl|rfl<;>rfl) hg hm g2 rfl (by
  show 0+(valsA r.toList).length≤(flatA (rowsA (zs.map (·.1)))).length;rw [AJd9,List.length_map,hrl,ADt9];omega) g8
 rw [←BFb9 (w:=Sort.ahead w n) (b:=b) g8 r (by rw [hrs,hds];omega)] at hst;obtain ⟨hst1,hst2⟩:=hst;have hblk2:({growB v (flatA (rowsA (zs.map (·.1)))) with cells:=(growB v (flatA (rowsA (zs.map (·.1))))).cells.take 0++((valsA r.toList).map fun v=>Zad (.s v))++(growB v (flatA (rowsA (zs.map (·.1))))).cells.drop (0+(valsA r.toList).length)}:Blk)=growB v (flatA (rowsA (r.toList.map (·.1)))):=by
  have e3:(growB v (flatA (rowsA (zs.map (·.1))))).cells.drop (0+(valsA r.toList).length)= []:=by
   show (flatA (rowsA (zs.map (·.1)))).drop _= [];rw [AJd9,List.drop_eq_nil_iff,List.length_map,hrl,ADt9];omega
  rw [e3,List.take_zero,List.nil_append,Zco];show (⟨(valsA r.toList).map fun v=>Zad (.s v),false,true,v⟩:Blk)=⟨flatA (rowsA (r.toList.map (·.1))),false,true,v⟩;rw [AJd9 r.toList]
 rw [hblk2] at hst1;have hgr:=hst1.below (ATl9 _ os) (fun _ _ h=>h) (fun _ _ h=> .inl h);refine ⟨_,S,m,_,rfl,⟨?_,fun _ _ h=>h,fun _ _ h=> .inl h,MStep.refl m⟩,hgr.cons (x:= .tup []) (.tup rfl (by intro i c v hc;simp at hc)) rfl⟩;exact ((AAm9 (AOf9 w n) _).trans hst2).trans (AAm9 (ATl9 _ os) _)
def TAf:CT:= [(35,cNew),(36,cIn),(37,cFind),(42,CFw9)]
theorem CLe9:AAb9 prog TAf:=Zag BIl9 (Zag BIs9 (Zag AVu9 (Zag BPd9 Zai)))
def UAf:SCT:= [(40,sOA),(45,BVk9),(1000063,fun _ _ _=>False)]
abbrev Qz48 (v0:TabT):List AV:= [Zad (Zaj 4 (rowsU (Zbv v0))),Zad (Zaj 5 (rowsG (Zbx v0))),Zad (Zdk (.slice none 0 0))]
abbrev Qz53 (v0:List AskT) (v1:Nat):=Blk.mk (flatA (rowsA v0)) false true v1
abbrev Qz74 (v0:List UseT) (v1:List GraT) (v2:List (List Dv)):List AV:= [Zad (Zaj 4 (rowsU v0)),Zad (Zaj 5 (rowsG v1)),Zad (Zaj 3 v2)]
theorem CJq9 (ly:LayT) (t:TabT) (me:Int) (l:List NearT) (pe many fr:Int):wpFn prog ⟨TAf,UAf,wlAk,y,false⟩ 100 f12 [layA ly,tabA t, .d (i64 me), .d (.sl 31 (rowsN l)), .d (i64 pe), .d (i64 many), .d (i64 fr)] b R=(∃(ly0:LayT) (t1:TabT) (me2:Int) (l3:List NearT) (fr4:Int) (s5:SideT) (q6:Bool),(Qz8 ly t me l fr)=(Qz8 ly0 t1 me2 l3 fr4)∧(TabOk t1∧Zaa l3<1000000∧(∀(x:NearT),x∈l3→ACi9 x)∧q6=newS ly0 t1 me2 l3 fr4∧s5=sideS ly0 me2 l3 fr4)∧BIf q6 (∃(n7:Int) (h8:Int) (z9:Bool), [Zad (i64 many),Zad (i64 24)]= [Zad (i64 n7),Zad (i64 h8)]∧z9=inN n7 h8∧BIf (!z9) (R (.agg (Qz1 t)) b) (∃(s10:SideT) (pe11:Int) (q12:NearT) (e13:Bool), [Zah (Qz2 s5),Zad (i64 pe)]= [Zah (Qz2 s10),Zad (i64 pe11)]∧(Zaa (Zau s10)≤9223372036854775807∧q12=nearO (sFind s10 pe11)∧e13=Option.isSome (sFind s10 pe11))∧BIf (!e13) (R (.agg (Qz48 t)) b) (∃(s14:SideT) (us15:List UseT) (gs16:List GraT) (n17:NearT) (pe18:Int) (l19:List AskT) (q20:List AskT), [Zad (Zaj 3 (rowsA (Zck t))),Zav (Fn.func 41) [] [Zah [i64 pe],Zah [Zcw (Fn.func 38) [Zdo [Zdo (Qz2 s5)],Zdo [Zaj 4 (rowsU (Zbv t)),Zaj 5 (rowsG (Zbx t)),Zdk (.slice none 0 0)],Zdo (nearR q12)]]]]= [Zad (Zaj 3 (rowsA l19)),Zav (Fn.func 41) [] [Zah [i64 pe18],Zah [Zcw (Fn.func 38) (Qz10 s14 us15 gs16 n17)]]]∧(((Zaa (Zau s14)≤9223372036854775807∧(∀(x:NearT),x∈Zau s14→AAo9 x)∧layOk (Zct s14)=true)∧(Zaa us15<10000∧Zaa gs16<10000)∧Zaa (Zcl n17)<10000∧Zaa (Zce n17)<10000)∧Zaa l19<1000000∧q20=List.filter (keepA s14 us15 gs16 n17 pe18) l19)∧BIf (List.isEmpty q20) (∃(z21:Int),(z21=if many<(0:Int) then many else (0:Int))∧BIf (decide (z21=(0:Int))) (∃(s22:SideT), [Zah (Qz2 s5)]= [Zah (Qz2 s22)]∧∃(ly23:LayT) (us24:List UseT) (gs25:List GraT) (pe26:Int) (many27:Int) (s28:SideT) (n29:NearT),rfAk=rfAk∧(((Zaa (Zau s28)≤9223372036854775807∧(∀(x:NearT),x∈Zau s28→AAo9 x)∧layOk (Zct s28)=true)∧(Zaa us24<10000∧Zaa gs25<10000)∧Zaa (Zcl n29)<10000∧Zaa (Zce n29)<10000)∧Zct s28=ly23∧(1:Int)≤Zbr ly23∧Zbr ly23≤(60:Int))∧∃(q30:List AskT),(bds 8 (Zae 1 0::Zab::Zab::Zae 2 0::Zae 3 0::Zab::Zae 4 0::bds 5 (Zae 7 0::Zae 8 0::bds 41 (Zav (Fn.func 89) [] [Zah [Zdo (Qz2 s22)]]::bds 25 []))))=(bds 8 (Zae 1 0::Zab::Zab::Zae 2 0::Zae 3 0::Zab::Zae 4 0::bds 5 (Zae 7 0::Zae 8 0::bds 41 (Zav (Fn.func 89) [] [Zah [Zdo (Qz2 s28)]]::bds 25 []))))∧ [bk (Qz3 ly),bk (Qz48 t),cell (i64 pe),cell (i64 many),bk Qz4,bk [Zah (Qz2 s5)],nearB q12,bk [Zav (Fn.func 38) [] [Zae 5 0,Zae 1 0,Zae 6 0]],cell (Zdk (.slice none 0 0))]= [bk (Qz3 ly23),bk (Qz9 us24 gs25),cell (i64 pe26),cell (i64 many27),bk Qz4,bk [Zah (Qz2 s28)],nearB n29,bk [Zav (Fn.func 38) [] [Zae 5 0,Zae 1 0,Zae 6 0]],cell (Zdk (.slice none 0 0))]∧q30=askGo s28 us24 gs25 n29 pe26 many27 (triKs ly23) []∧BIf (List.isEmpty q30) (R (.agg (Qz9 us24 gs25)) b∧R (.agg (Qz9 us24 gs25)) b) (∀(v:Nat) (c0:List AV),(∃(z31:List AskT),some (Qz53 q30 v)=some (Qz53 z31 v)∧(3=3∧Zaa z31=Zaa q30∧Zaa q30<1000000∧∀(a:AskT),a∈z31→(-1000:Int)≤Zde a∧Zde a≤(1000:Int))∧∀(z':List AskT),List.Perm z' z31→List.Pairwise (fun (a32 b33:AskT)=>Zde a32≤Zde b33) z'→v=v∧∃(xs34:List (List Dv)),flatA (rowsA z')=flatA xs34∧Zaa xs34=Zaa q30∧(∀(r:List Dv),r∈xs34→Zaa r=3)∧R (.agg (Qz74 us24 gs25 xs34)) b)∧∃(z35:List AskT),some (Qz53 q30 v)=some (Qz53 z35 v)∧(3=3∧Zaa z35=Zaa q30∧Zaa q30<1000000∧∀(a:AskT),a∈z35→(-1000:Int)≤Zde a∧Zde a≤(1000:Int))∧∀(z':List AskT),List.Perm z' z35→List.Pairwise (fun (a36 b37:AskT)=>Zde a36≤Zde b37) z'→v=v∧∃(xs38:List (List Dv)),flatA (rowsA z')=flatA xs38∧Zaa xs38=Zaa q30∧(∀(r:List Dv),r∈xs38→Zaa r=3)∧R (.agg (Qz74 us24 gs25 xs38)) b)) False) (Zaa q20 - 1=Zaa q20 - 1∧∃(z39:Int),(z39=if many<((Zaa q20:Nat):Int) then many else ((Zaa q20:Nat):Int))∧BIf (true&&decide (0≤z39)&&decide (z39≤((Zaa q20:Nat):Int))) (Zaa q20 - 1=Zaa q20 - 1∧∃(s40:SideT), [Zah (Qz2 s5)]= [Zah (Qz2 s40)]∧∃(ly41:LayT) (us42:List UseT) (gs43:List GraT) (pe44:Int) (many45:Int) (s46:SideT) (n47:NearT),rfAk=rfAk∧(((Zaa (Zau s46)≤9223372036854775807∧(∀(x:NearT),x∈Zau s46→AAo9 x)∧layOk (Zct s46)=true)∧(Zaa us42<10000∧Zaa gs43<10000)∧Zaa (Zcl n47)<10000∧Zaa (Zce n47)<10000)∧Zct s46=ly41∧(1:Int)≤Zbr ly41∧Zbr ly41≤(60:Int))∧∃(z48:List AskT) (q49:List AskT) (v50:Nat),(bds 8 (Zae 1 0::Zab::Zab::Zae 2 0::Zae 3 0::Zab::Zae 4 0::bds 5 (Zae 7 0::Zae 10 0::bds 41 (Zav (Fn.func 89) [] [Zah [Zdo (Qz2 s40)]]::bds 25 []))))=(bds 8 (Zae 1 0::Zab::Zab::Zae 2 0::Zae 3 0::Zab::Zae 4 0::bds 5 (Zae 7 0::Zae 10 0::bds 41 (Zav (Fn.func 89) [] [Zah [Zdo (Qz2 s46)]]::bds 25 []))))∧ [bk (Qz3 ly),bk (Qz48 t),cell (i64 pe),cell (i64 many),bk Qz4,bk [Zah (Qz2 s5)],nearB q12,bk [Zav (Fn.func 38) [] [Zae 5 0,Zae 1 0,Zae 6 0]],bk [bad,bad,bad],Blk.mk (Zbq (Zak z39*3) (flatA (rowsA q20))) false true (Zaa q20 - 1+1),bk [Zbh 9 (Zaa q20 - 1+1) (Zak z39) 3]]= [bk (Qz3 ly41),bk (Qz9 us42 gs43),cell (i64 pe44),cell (i64 many45),bk Qz4,bk [Zah (Qz2 s46)],nearB n47,bk [Zav (Fn.func 38) [] [Zae 5 0,Zae 1 0,Zae 6 0]],bk [bad,bad,bad],Blk.mk (flatA (rowsA z48)) false true v50,bk [Zbh 9 v50 (Zaa z48) 3]]∧(Zaa z48<90000∧q49=askGo s46 us42 gs43 n47 pe44 many45 (triKs ly41) z48)∧∀(v:Nat),(∃(z51:List AskT),some (Qz53 q49 v)=some (Qz53 z51 v)∧(3=3∧Zaa z51=Zaa q49∧Zaa q49<1000000∧∀(a:AskT),a∈z51→(-1000:Int)≤Zde a∧Zde a≤(1000:Int))∧∀(z':List AskT),List.Perm z' z51→List.Pairwise (fun (a52 b53:AskT)=>Zde a52≤Zde b53) z'→v=v∧∃(xs54:List (List Dv)),flatA (rowsA z')=flatA xs54∧Zaa xs54=Zaa q49∧(∀(r:List Dv),r∈xs54→Zaa r=3)∧R (.agg (Qz74 us42 gs43 xs54)) b)∧∃(z55:List AskT),some (Qz53 q49 v)=some (Qz53 z55 v)∧(3=3∧Zaa z55=Zaa q49∧Zaa q49<1000000∧∀(a:AskT),a∈z55→(-1000:Int)≤Zde a∧Zde a≤(1000:Int))∧∀(z':List AskT),List.Perm z' z55→List.Pairwise (fun (a56 b57:AskT)=>Zde a56≤Zde b57) z'→v=v∧∃(xs58:List (List Dv)),flatA (rowsA z')=flatA xs58∧Zaa xs58=Zaa q49∧(∀(r:List Dv),r∈xs58→Zaa r=3)∧R (.agg (Qz74 us42 gs43 xs58)) b) False)))) (R (.agg (Qz1 t)) b)):=by kernel_rfl
theorem AJf9 (n:Nat):∀ {l:List AskT},l.Pairwise (fun a b=>a.sl≤b.sl)→l.filter (fun x=>decide (x.sl<((n+1:Nat):Int)))=l.filter (fun x=>decide (x.sl<(n:Int)))++l.filter (fun x=>x.sl==((n:Nat):Int))
 | [],_=>rfl
 | a::l,h=>by
  obtain ⟨h1,h2⟩:=Zdh.1 h;have ih:=AJf9 n h2;simp only [List.filter_cons];by_cases c1:a.sl<(n:Int)
  ·have c2:a.sl<((n+1:Nat):Int):=by omega
   have c3:¬a.sl=(n:Int):=by omega
   simp only [c1,c2,decide_true,if_true,beq_iff_eq,c3,if_false,Zdv,ih]
  ·have e0:l.filter (fun x=>decide (x.sl<(n:Int)))= []:=by
    rw [List.filter_eq_nil_iff];intro x hx;have:=h1 x hx;simp;omega
   by_cases c3:a.sl=(n:Int)
   ·have c2:a.sl<((n+1:Nat):Int):=by omega
    simp only [c1,c2,c3,decide_true,decide_false,if_true,Zcm,if_false,beq_self_eq_true,ih,e0,List.nil_append];simp [c3];omega
   ·have c2:¬a.sl<((n+1:Nat):Int):=by omega
    simp only [c1,c2,decide_false,Zcm,if_false,beq_iff_eq,c3,ih]
theorem AGt9 (n:Int):∀ {l:List AskT},l.Pairwise (fun a b=>a.sl≠b.sl)→(l.filter (fun x=>x.sl==n)).length≤1
 | [],_=>by simp
 | a::l,h=>by
  obtain ⟨h1,h2⟩:=Zdh.1 h;rw [List.filter_cons];split
  ·rename_i c;have e0:l.filter (fun x=>x.sl==n)= []:=by
    rw [List.filter_eq_nil_iff];intro x hx;have:=h1 x hx;simp only [beq_iff_eq] at c ⊢;omega
   simp [e0]
  ·exact AGt9 n h2
theorem BVx9 {α:Type} {a b:List α} (h:a.Perm b) (hb:b.length≤1):a=b:=by
 match b,hb with
 | [],_=>exact h.eq_nil
 | [x],_=>exact List.perm_singleton.1 h
theorem ALt9 {l z:List AskT} (hp:l.Perm z) (hs:l.Pairwise (fun a b=>a.sl≤b.sl)) (hd:z.Pairwise (fun a b=>a.sl≠b.sl)) (h0:∀a∈z,0≤a.sl):∀n:Nat,l.filter (fun x=>decide (x.sl<(n:Int)))=sortA z n
 | 0=>by
  rw [sortA,List.filter_eq_nil_iff];intro x hx;have:=h0 x (hp.mem_iff.1 hx);simp;omega
 | n+1=>by
  rw [AJf9 n hs,sortA,ALt9 hp hs hd h0 n];congr 1;exact BVx9 (hp.filter _) (AGt9 _ hd)
theorem BEi9 {l z:List AskT} {n:Nat} (hp:l.Perm z) (hs:l.Pairwise (fun a b=>a.sl≤b.sl)) (hd:z.Pairwise (fun a b=>a.sl≠b.sl)) (h0:∀a∈z,0≤a.sl∧a.sl<(n:Int)):l=sortA z n:=by
 rw [←ALt9 hp hs hd (fun a h=>(h0 a h).1) n,List.filter_eq_self.2];intro x hx;exact decide_eq_true (h0 x (hp.mem_iff.1 hx)).2
def AKd9 (da:Int) (z:List AskT):Prop:=(∀a∈z,0≤a.sl∧a.sl<da)∧z.Pairwise (fun a b=>a.sl≠b.sl)
theorem BEb9 (s:SideT) (k:Nat) (hd:1≤s.lay.da∧s.lay.da≤60) (hc:0≤triC s k):0≤triSl s k∧triSl s k<s.lay.da:=by
 unfold triSl;rw [Int.tmod_eq_emod_of_nonneg hc];exact ⟨Int.emod_nonneg _ (by omega),Int.emod_lt_of_pos _ (by omega)⟩
theorem BKn9 {s:SideT} {us:List UseT} {gs:List GraT} {n:NearT} {pe:Int} {z:List AskT} {k:Nat} (h:AKd9 s.lay.da z) (hk:0≤triSl s k∧triSl s k<s.lay.da):AKd9 s.lay.da (AHy9 s us gs n pe z k):=by
 unfold AHy9;split
 ·split
  ·exact h
  ·rename_i hz;refine ⟨fun a ha=> ?_, ?_⟩
   ·rcases Zca.1 ha with ha|ha
    ·exact h.1 a ha
    ·rw [List.mem_singleton] at ha;subst ha;exact hk
   ·rw [List.pairwise_append];refine ⟨h.2,List.pairwise_singleton _ _,fun a ha b hb=> ?_⟩;rw [List.mem_singleton] at hb;subst hb;simp only [List.any_eq_true,beq_iff_eq,not_exists,not_and] at hz;exact hz a ha
 ·exact h
theorem ALd9 {s:SideT} {us:List UseT} {gs:List GraT} {n:NearT} {pe many:Int}:∀ {ks:List Nat} {z:List AskT},AKd9 s.lay.da z→(∀k∈ks,0≤triSl s k∧triSl s k<s.lay.da)→AKd9 s.lay.da (askGo s us gs n pe many ks z)
 | [],z,h,_=>h
 | k::r,z,h,hk=>by
  rw [askGo];split
  ·exact h
  ·exact ALd9 (BKn9 h (hk k (Zby))) fun k' h'=>hk k' (Zch _ h')
theorem AUv9:∀(n:Nat) {l:List Nat},l.Nodup→(∀x∈l,x<n)→l.length≤n
 | 0,l,_,h=>by
  cases l with
  |nil=>simp
  |cons a l=>exact absurd (h a (by simp)) (by omega)
 | n+1,l,hn,h=>by
  by_cases hm:n∈l
  ·have h1:=AUv9 n (hn.erase n) (fun x hx=>by
    have h2:=(List.Nodup.mem_erase_iff hn).1 hx;have h3:=h x h2.2;have h4:=h2.1;omega)
   rw [List.length_erase_of_mem hm] at h1;omega
  ·have h1:=AUv9 n hn (fun x hx=>by
    have h2:=h x hx;have h3:x≠n:=fun e=>hm (e▸hx);omega)
   omega
theorem AKd9.len {da:Int} {z:List AskT} (h:AKd9 da z) (hd:0≤da∧da≤60):z.length≤60:=by
 have hn:(z.map fun a=>a.sl.toNat).Nodup:=by
  rw [List.Nodup,List.pairwise_map];refine List.Pairwise.imp_of_mem (fun {a b} ha hb hab=> ?_) h.2;have h1:=h.1 a ha;have h2:=h.1 b hb;omega
 have h2:=AUv9 60 hn fun x hx=>by
  obtain ⟨a,ha,rfl⟩:=Zbf.1 hx;have h1:=h.1 a ha;omega
 simpa using h2
theorem BMs9:∀args hp K,BVk9 args hp K→∃x hp',SCall prog 45 args hp x hp'∧K x hp':=by
 intro args hp K h;unfold BVk9 at h;split at h
 ·refine ⟨_,_,⟨enters_of func45 (by kernel_rfl) rfl, ?_⟩,h⟩;intro S X yv w m B hv vs hl hr;obtain ⟨v0,v1,rfl⟩:∃v0 v1,vs= [v0,v1]:=by
   match vs,hl with
   | [a,b],_=>exact ⟨a,b,rfl⟩
  have h0:=RV.s_eq (hr.rv (.d (.s (.slice none 0 0)),v0) (by simp));subst h0;refine callsIn_wide.2 ((AnyF.slices_SortFunc_none Tryz.sortAsk none 0 v1 w).mono ?_);rintro _ _ ⟨rfl,rfl⟩;refine ⟨_,S,m,hv,rfl,Gs.refl _ _ _ _ _,Rel.cons (hr.sub (List.sublist_append_right _ _)) (.tup rfl (by intro i c v hc;simp at hc)) rfl⟩
 ·obtain ⟨z,hg,⟨rfl,rfl,hn,hz⟩,hK⟩:=h;exact CCu9 hg hn hz K fun z' h1 h2=>hK z' h1 h2
 ·exact h.elim
def keptA (s:SideT) (t:TabT) (n:NearT) (pe many:Int):List AskT:=(t.ak.filter (keepA s t.us t.gs n pe)).take many.toNat
def askS (ly:LayT) (t:TabT) (me:Int) (l:List NearT) (pe many fr:Int):TabT:=
 if (newS ly t me l fr&&inN many 24)=true then
  match sFind (sideS ly me l fr) pe with
  |none=>⟨t.us,t.gs, []⟩
  |some n=>⟨t.us,t.gs,sortA (askGo (sideS ly me l fr) t.us t.gs n pe many (triKs ly) (keptA (sideS ly me l fr) t n pe many)) ly.da.toNat⟩
 else t
theorem ARu9 {ly:LayT} {t:TabT} {me:Int} {l:List NearT} {fr:Int} (h:newS ly t me l fr=true):(0≤me∧me<ly.no)∧(0≤fr∧fr≤999999992):=by
 have hv:=ABf9 (ACg9 h);rw [newS,Zal,Zal,Zal] at h;have h1:=h.2.1;have h2:=h.2.2.1;simp only [inN,Zal,decide_eq_true_eq] at h1 h2;have e:Zac Zbb (ly.no - 1)=ly.no - 1:=by simp [Zac,IntKind.bits,IntKind.signed];omega
 rw [e] at h1;omega
theorem BQw9 {s:SideT} (k:Nat) (hk:k<1000) (hd:1≤s.lay.da∧s.lay.da≤60) (hm:0≤s.me∧s.me<60) (hf:0≤s.fr∧s.fr≤999999992):0≤triC s k:=by
 unfold triC;have e1:Zac Zbb (17*s.me)=17*s.me:=by simp [Zac,IntKind.bits,IntKind.signed];omega
 have e2:Zac Zbb (5*s.fr)=5*s.fr:=by simp [Zac,IntKind.bits,IntKind.signed];omega
 have e3:Zac Zbb (17*s.me+5*s.fr)=17*s.me+5*s.fr:=by simp [Zac,IntKind.bits,IntKind.signed];omega
 have e4:Zac Zbb (17*s.me+5*s.fr+k)=17*s.me+5*s.fr+k:=by simp [Zac,IntKind.bits,IntKind.signed];omega
 rw [e1,e2,e3,e4];exact Int.tmod_nonneg _ (by omega)
def ANb9 (x:NearT):Prop:=x.us.length<10000∧x.gs.length<10000∧x.ak.length<10000
theorem AYu9 {R:AV→Prop} {us:List UseT} {gs:List GraT} {q:List AskT} {da:Int} {v:Nat} (hd:1≤da∧da≤60) (hs:AKd9 da q) (hR:R (tabA ⟨us,gs,sortA q da.toNat⟩)):
 ∃z:List AskT,some (Blk.mk (flatA (rowsA q)) false true v)=some (Blk.mk (flatA (rowsA z)) false true v)∧(3=3∧z.length=q.length∧q.length<1000000∧∀a∈z, -1000≤a.sl∧a.sl≤1000)∧∀z':List AskT,z'.Perm z→z'.Pairwise (fun a b=>a.sl≤b.sl)→v=v∧∃xs:List (List Dv),flatA (rowsA z')=flatA xs∧xs.length=q.length∧(∀r∈xs,r.length=3)∧R (.agg [.d (.sl 4 (rowsU us)), .d (.sl 5 (rowsG gs)), .d (.sl 3 xs)]):=by
 have hl:=hs.len (by omega);refine ⟨q,rfl,⟨rfl,rfl,by omega,fun a ha=> ?_⟩,fun z' h1 h2=>⟨rfl,rowsA z',rfl,by rw [AAi9,h1.length_eq],ANu9 z', ?_⟩⟩
 ·have:=hs.1 a ha;omega
 ·have e:=BEi9 (n:=da.toNat) h1 h2 hs.2 (fun a ha=>by have:=hs.1 a ha;omega);rw [e];exact hR
theorem CJs9:AAl9 prog UAf:=Zbt CIr9 (Zbt BMs9 (Zbt (fun _ _ _ h=>h.elim) Zar))
theorem BVe9 (us:List UseT) (gs:List GraT):LeV (.agg [.d (.sl 4 (rowsU us)), .d (.sl 5 (rowsG gs)), .d (.s (.slice none 0 0))]) (tabA ⟨us,gs, []⟩):=LeV.aggs (.cons .rfl (.cons .rfl (.cons (.nil rfl) .nil)))
theorem AOx9:∀n:Nat,sortA [] n= []
 |0=>rfl
 |n+1=>by rw [sortA,AOx9 n];rfl
def cAsk:CF:=fun args K=>∃(ly:LayT) (t q:TabT) (me:Int) (l:List NearT) (pe many fr:Int),args= [layA ly,tabA t, .d (i64 me), .d (.sl 31 (rowsN l)), .d (i64 pe), .d (i64 many), .d (i64 fr)]∧(TabOk t∧l.length<1000000∧(∀x∈l,ANb9 x)∧q=askS ly t me l pe many fr)∧K (tabA q)
theorem BSv9:COk 12 cAsk:=by
 rintro _ K ⟨ly,t,_,me,l,pe,many,fr,rfl,⟨ht,hl,hx,rfl⟩,hk⟩;refine ⟨_, ?_,hk⟩;have hx':∀x∈l,ACi9 x:=fun x h=>by have:=hx x h;exact ⟨by have:=this.1;omega,by have:=this.2.1;omega,by have:=this.2.2;omega⟩
 refine PCall.ofFnV (n:=100) (u:=false) (fun _=>wlAk) mixed CLe9 CJs9 (fun Ev=>CCg9) func12 (by rfl) (by rfl) fun Ev bb=> ?_;rw [CJq9];refine ⟨ly,t,me,l,fr,_,_,rfl,⟨ht,hl,hx',rfl,rfl⟩,Zax (fun h1=> ?_) fun h1=> ?_⟩
 ·have hvt:=ACg9 h1;have hv:=ABf9 hvt;have hva:=AIb9 hvt;have hin:=ARu9 h1;have s1:=BEj9 (me:=me) (fr:=fr) hl hx' hv;refine ⟨many,24,_,rfl,rfl,Zax (fun h2=> ?_) fun h2=> ?_⟩
  ·have h2':inN many 24=false:=by simpa using h2
   rw [askS,h2',Zcn,if_neg (by decide)];exact .rfl
  have h2':inN many 24=true:=by simpa using h2
  have hm:0≤many∧many≤24:=by simpa [inN] using h2'
  refine ⟨sideS ly me l fr,pe,_,_,rfl,⟨s1.1,rfl,rfl⟩,Zax (fun h3=> ?_) fun h3=> ?_⟩
  ·have h3':sFind (sideS ly me l fr) pe=none:=by simpa using h3
   rw [askS,h1,h2',Bool.and_self,if_pos rfl,h3'];exact BVe9 _ _
  have h3':(sFind (sideS ly me l fr) pe).isSome=true:=by simpa using h3
  obtain ⟨n,hn⟩:=Option.isSome_iff_exists.1 h3';have hnn:nearO (sFind (sideS ly me l fr) pe)=n:=by rw [hn];rfl
  have eS:askS ly t me l pe many fr=⟨t.us,t.gs,sortA (askGo (sideS ly me l fr) t.us t.gs n pe many (triKs ly) (keptA (sideS ly me l fr) t n pe many)) ly.da.toNat⟩:=by
   rw [askS,h1,h2',Bool.and_self,if_pos rfl,hn]
  rw [hnn,eS];have hnm:=List.mem_of_find?_eq_some hn;have hnl:n.us.length<10000∧n.gs.length<10000:=by
   simp only [sideS,Zbf] at hnm;obtain ⟨x,hxm,rfl⟩:=hnm;have h4:=hx x hxm;exact ⟨Nat.lt_of_le_of_lt (Zcd _ _) h4.1,Nat.lt_of_le_of_lt (Zcd _ _) h4.2.1⟩
  have hA:AskOk (sideS ly me l fr) t.us t.gs n:=⟨s1,⟨ht.1,ht.2.1⟩,hnl⟩;have hset0:AKd9 ly.da t.ak:=⟨fun a ha=>by
   have h5:=hva.2.2.1.1 a ha;simp only [askOk,ABc9,Zal,decide_eq_true_eq] at h5;omega,hva.2.2.1.2.imp fun h=>by omega⟩
  have hsub:∀m:Nat,AKd9 ly.da ((t.ak.filter (keepA (sideS ly me l fr) t.us t.gs n pe)).take m):=fun m=>
   ⟨fun a ha=>hset0.1 a (Zeb.1 (List.mem_of_mem_take ha)).1,(hset0.2.sublist Zgh).sublist (List.take_sublist _ _)⟩
  have htri:∀k∈triKs ly,0≤triSl (sideS ly me l fr) k∧triSl (sideS ly me l fr) k<(sideS ly me l fr).lay.da:=fun k hk=>by
   rw [triKs,List.mem_range'_1] at hk;have hd:(sideS ly me l fr).lay.da=ly.da:=rfl;exact BEb9 _ k (by rw [hd];exact hv.2) (BQw9 k (by omega) (by rw [hd];exact hv.2) ⟨hin.1.1,by have:=hin.1.2;show me<60;omega⟩ hin.2)
  refine ⟨sideS ly me l fr,t.us,t.gs,n,pe,t.ak,_,rfl,⟨hA,by have:=ht.2.2;omega,rfl⟩,Zax (fun h4=> ?_) fun h4=> ?_⟩
  ·have h4':t.ak.filter (keepA (sideS ly me l fr) t.us t.gs n pe)= []:=List.isEmpty_iff.1 h4;have hk:keptA (sideS ly me l fr) t n pe many= []:=by rw [keptA,h4',List.take_nil]
   rw [hk];have hgs:=ALd9 (s:=sideS ly me l fr) (us:=t.us) (gs:=t.gs) (n:=n) (pe:=pe) (many:=many) (ks:=triKs ly) (z:= []) ⟨by simp, .nil⟩ htri;refine ⟨_,rfl,Zas (by rw [if_neg (by omega)];rfl) ⟨sideS ly me l fr,rfl,ly,t.us,t.gs,pe,many,sideS ly me l fr,n,rfl,⟨hA,rfl,hv.2⟩,_,rfl,rfl,rfl,Zax (fun h5=> ?_) fun h5 v c0=> ?_⟩⟩
   ·have h5':=List.isEmpty_iff.1 h5;rw [h5',AOx9];exact ⟨BVe9 _ _,BVe9 _ _⟩
   ·exact ⟨AYu9 (R:=fun y=>LeV y _) hv.2 hgs LeV.rfl,AYu9 (R:=fun y=>LeV y _) hv.2 hgs LeV.rfl⟩
  ·have hq:(if many<((t.ak.filter (keepA (sideS ly me l fr) t.us t.gs n pe)).length:Int) then many else ((t.ak.filter (keepA (sideS ly me l fr) t.us t.gs n pe)).length:Int))=((keptA (sideS ly me l fr) t n pe many).length:Nat):=by
    rw [keptA,Zcj];split<;>omega
   have hgs:=ALd9 (s:=sideS ly me l fr) (us:=t.us) (gs:=t.gs) (n:=n) (pe:=pe) (many:=many) (ks:=triKs ly) (z:=keptA (sideS ly me l fr) t n pe many) (hsub _) htri;have hlk:(keptA (sideS ly me l fr) t n pe many).length≤(t.ak.filter (keepA (sideS ly me l fr) t.us t.gs n pe)).length:=by rw [keptA,Zcj];exact Nat.min_le_right _ _
   have hlk2:(keptA (sideS ly me l fr) t n pe many).length<90000:=by
    have h6:=Zcd (keepA (sideS ly me l fr) t.us t.gs n pe) t.ak;have h7:=ht.2.2;omega
   have hfl:Zbq (((keptA (sideS ly me l fr) t n pe many).length:Int).toNat*3) (flatA (rowsA (t.ak.filter (keepA (sideS ly me l fr) t.us t.gs n pe))))=flatA (rowsA (keptA (sideS ly me l fr) t n pe many)):=by
    have f:∀l:List AskT,flatA (rowsA l)=flatA (l.map askR):=fun _=>rfl;rw [f,f,Int.toNat_natCast,ASt9 (k:=3) (row:=askR) (fun _=>rfl)];congr 2;rw [keptA,Zcj,List.take_eq_take_iff];omega
   refine ⟨rfl,_,hq.symm,Zas ?_ ⟨rfl,sideS ly me l fr,rfl,ly,t.us,t.gs,pe,many,sideS ly me l fr,n,rfl,⟨hA,rfl,hv.2⟩,keptA (sideS ly me l fr) t n pe many,_,(t.ak.filter (keepA (sideS ly me l fr) t.us t.gs n pe)).length - 1+1,rfl, ?_,⟨hlk2,rfl⟩,fun v=>⟨AYu9 (R:=fun y=>LeV y _) hv.2 hgs LeV.rfl,AYu9 (R:=fun y=>LeV y _) hv.2 hgs LeV.rfl⟩⟩⟩
   ·simp only [Bool.true_and,Zal,decide_eq_true_eq];omega
   ·rw [hfl,Int.toNat_natCast]
 ·rw [askS,h1,Zdb,if_neg (by decide)];exact .rfl
noncomputable def lpSm0:Code:=sub [1,1,0,1,2,3] (code f15)
noncomputable def lpSm1:Code:=sub [1,1,1,0,1,2,3] (code f15)
noncomputable def lpSm2:Code:=sub [1,1,1,1,0,1,2,3] (code f15)
def tmSm0 (z:Bool) (i:Int):List AV:= [.bad, .bad, .ptr 0 0, .ptr 1 0, .d (bo z), .d (i64 i)]++Zam 81 .bad
def tmSm1 (z:Bool) (i:Int):List AV:= [.bad, .bad, .ptr 0 0, .ptr 1 0, .d (bo z), .bad, .d (i64 i)]++Zam 80 .bad
def tmSm2 (z:Bool) (i:Int):List AV:= [.bad, .bad, .ptr 0 0, .ptr 1 0, .d (bo z), .bad, .bad, .d (i64 i)]++Zam 79 .bad
abbrev Qz92 (v0:Int):=Zab::Zab::Zae 0 0::Zae 1 0::Zad (bo false)::Zad (i64 v0)::bds 81 []
theorem rSm0 (t s:TabT) (i:Int):wpc prog ⟨[], [],wl,y,false⟩ 100 lpSm0 (tmSm0 false i) [tabB t,tabB s] b (maskK 2 [2,3,4,5] K)=(BIf (decide (i<((Zaa (rowsU (Zbv t)):Nat):Int))) (BIf (true&&decide (0≤i)) (∃(x0:Int) (x1:Int) (x2:Int) (x3:Int),(rowsU (Zbv t))[Zak i]? =some [i64 x0,i64 x1,i64 x2,i64 x3]∧BIf (true&&decide (0≤i)) (∃(x6:Int) (x7:Int) (x8:Int) (x9:Int),(rowsU (Zbv s))[Zak i]? =some [i64 x6,i64 x7,i64 x8,i64 x9]∧BIf (!(x0==x6&&(x1==x7&&true)&&(x2==x8&&(x3==x9&&true)))) (K .ret (Qz92 i) [bk (Qz1 t),bk (Qz1 s)] b) (K .normal (Zab::Zab::Zae 0 0::Zae 1 0::Zad (bo false)::Zad (i64 (Zac .i64 (i+1)))::bds 81 []) [bk (Qz1 t),bk (Qz1 s)] b)) False) False) (K (Zba 0) (Qz92 i) [bk (Qz1 t),bk (Qz1 s)] b)):=by kernel_rfl
abbrev Qz87 (v0:Int):=Zab::Zab::Zae 0 0::Zae 1 0::Zad (bo false)::Zab::Zad (i64 v0)::bds 80 []
theorem rSm1 (t s:TabT) (i:Int):wpc prog ⟨[], [],wl,y,false⟩ 100 lpSm1 (tmSm1 false i) [tabB t,tabB s] b (maskK 2 [2,3,4,6] K)=(BIf (decide (i<((Zaa (rowsG (Zbx t)):Nat):Int))) (BIf (true&&decide (0≤i)) (∃(x0:Int) (x1:Int) (x2:Int) (x3:Int) (x4:Int),(rowsG (Zbx t))[Zak i]? =some (Qz27 x0 x1 x2 x3 x4)∧BIf (true&&decide (0≤i)) (∃(x7:Int) (x8:Int) (x9:Int) (x10:Int) (x11:Int),(rowsG (Zbx s))[Zak i]? =some (Qz27 x7 x8 x9 x10 x11)∧BIf (!(x0==x7&&(x1==x8&&true)&&(x2==x9&&(x3==x10&&(x4==x11&&true))))) (K .ret (Qz87 i) [bk (Qz1 t),bk (Qz1 s)] b) (K .normal (Zab::Zab::Zae 0 0::Zae 1 0::Zad (bo false)::Zab::Zad (i64 (Zac .i64 (i+1)))::bds 80 []) [bk (Qz1 t),bk (Qz1 s)] b)) False) False) (K (Zba 2) (Qz87 i) [bk (Qz1 t),bk (Qz1 s)] b)):=by kernel_rfl
abbrev Qz80 (v0:Int):=Zab::Zab::Zae 0 0::Zae 1 0::Zad (bo false)::Zab::Zab::Zad (i64 v0)::bds 79 []
theorem rSm2 (t s:TabT) (i:Int):wpc prog ⟨[], [],wl,y,false⟩ 100 lpSm2 (tmSm2 false i) [tabB t,tabB s] b (maskK 2 [2,3,4,7] K)=(BIf (decide (i<((Zaa (rowsA (Zck t)):Nat):Int))) (BIf (true&&decide (0≤i)) (∃(x0:Int) (x1:Int) (x2:Int),(rowsA (Zck t))[Zak i]? =some [i64 x0,i64 x1,i64 x2]∧BIf (true&&decide (0≤i)) (∃(x5:Int) (x6:Int) (x7:Int),(rowsA (Zck s))[Zak i]? =some [i64 x5,i64 x6,i64 x7]∧BIf (!(x0==x5&&(x1==x6&&true)&&(x2==x7&&true))) (K .ret (Qz80 i) [bk (Qz1 t),bk (Qz1 s)] b) (K .normal (Zab::Zab::Zae 0 0::Zae 1 0::Zad (bo false)::Zab::Zab::Zad (i64 (Zac .i64 (i+1)))::bds 79 []) [bk (Qz1 t),bk (Qz1 s)] b)) False) False) (K (Zba 4) (Qz80 i) [bk (Qz1 t),bk (Qz1 s)] b)):=by kernel_rfl
variable {Ev:Env prog} {b0:Ev.β} {Q:Exit→St Ev.β→Prop}
def smU (x y:UseT):Bool:=x.sl==y.sl&&(x.of==y.of&&true)&&(x.pe==y.pe&&(x.st==y.st&&true))
def smG (x y:GraT):Bool:=x.sl==y.sl&&(x.of==y.of&&true)&&(x.pe==y.pe&&(x.st==y.st&&(x.un==y.un&&true)))
def smA (x y:AskT):Bool:=x.sl==y.sl&&(x.of==y.of&&true)&&(x.pe==y.pe&&true)
def AHk9 {α:Type} (f:α→α→Bool):List α→List α→Bool
 | [], []=>true
 |x::r,y::s=>f x y&&AHk9 f r s
 |_,_=>false
theorem AJj9 {α:Type} (f:α→α→Bool):∀l m:List α,AHk9 f l m=(decide (l.length=m.length)&& !(l.zip m).any fun p=> !f p.1 p.2)
 | [], []=>rfl
 | [],y::s=>rfl
 |x::r, []=>rfl
 | x::r,y::s=>by
  rw [AHk9,AJj9 f r s];cases h:f x y<;>simp [h]
theorem BTm9 {α:Type} {l m:List α} {i:Nat} {p:α×α} (h:(l.zip m)[i]? =some p):l[i]? =some p.1∧m[i]? =some p.2:=by
 rw [List.getElem?_zip_eq_some] at h;exact h
def sameS (a b:TabT):Bool:=AHk9 smU a.us b.us&&(AHk9 smG a.gs b.gs&&AHk9 smA a.ak b.ak)
theorem wrSm0 (t s:TabT) (he:t.us.length=s.us.length) (hl:t.us.length<1000000) (h1:(t.us.zip s.us).any (fun p=> !smU p.1 p.2)=false→∀i:Int,Q (.exit 0) ⟨tmSm0 false i, [tabB t,tabB s],b0⟩) (h2:(t.us.zip s.us).any (fun p=> !smU p.1 p.2)=true→∀i:Int,Q .ret ⟨tmSm0 false i, [tabB t,tabB s],b0⟩):
 WR Ev lpSm0 (t.us.length+1) ⟨tmSm0 false (0:Nat), [tabB t,tabB s],b0⟩ Q:=by
 have e:(t.us.zip s.us).length=t.us.length:=by rw [List.length_zip,←he,Nat.min_self]
 rw [←e];refine WR.scanL (X:=⟨[], [],wlW Ev,Ev.Y,false⟩) (k:=100) [2,3,4,5] mixed (CX.Ok.of Zai Zar) (t.us.zip s.us) (fun p=> !smU p.1 p.2) (fun i=>tmSm0 false (i:Nat)) (fun i=>tmSm0 false (i:Nat)) [tabB t,tabB s] 0 (fun i x hi hx K k1 k2=> ?_) (fun K k1=> ?_) (fun h=>h1 h _) fun h i=>h2 h _
 ·obtain ⟨g1,g2⟩:=BTm9 hx;refine Eq.mpr (rSm0 _ _ _ K t s i) ?_;rw [AAe9];refine Zas (by simp;omega) (Zas (natI i) ⟨_,_,_,_,ABl9 g1,Zas (natI i) ⟨_,_,_,_,ABl9 g2,Zax (fun c=>k1 c) fun c=> ?_⟩⟩);rw [wrapN (by omega)];exact k2 c
 ·refine Eq.mpr (rSm0 _ _ _ K t s _) ?_;rw [AAe9];exact Zci (by simp [e]) k1
theorem wrSm1 (t s:TabT) (he:t.gs.length=s.gs.length) (hl:t.gs.length<1000000) (h1:(t.gs.zip s.gs).any (fun p=> !smG p.1 p.2)=false→∀i:Int,Q (.exit 2) ⟨tmSm1 false i, [tabB t,tabB s],b0⟩) (h2:(t.gs.zip s.gs).any (fun p=> !smG p.1 p.2)=true→∀i:Int,Q .ret ⟨tmSm1 false i, [tabB t,tabB s],b0⟩):
 WR Ev lpSm1 (t.gs.length+1) ⟨tmSm1 false (0:Nat), [tabB t,tabB s],b0⟩ Q:=by
 have e:(t.gs.zip s.gs).length=t.gs.length:=by rw [List.length_zip,←he,Nat.min_self]
 rw [←e];refine WR.scanL (X:=⟨[], [],wlW Ev,Ev.Y,false⟩) (k:=100) [2,3,4,6] mixed (CX.Ok.of Zai Zar) (t.gs.zip s.gs) (fun p=> !smG p.1 p.2) (fun i=>tmSm1 false (i:Nat)) (fun i=>tmSm1 false (i:Nat)) [tabB t,tabB s] 2 (fun i x hi hx K k1 k2=> ?_) (fun K k1=> ?_) (fun h=>h1 h _) fun h i=>h2 h _
 ·obtain ⟨g1,g2⟩:=BTm9 hx;refine Eq.mpr (rSm1 _ _ _ K t s i) ?_;rw [AAd9];refine Zas (by simp;omega) (Zas (natI i) ⟨_,_,_,_,_,ABb9 g1,Zas (natI i) ⟨_,_,_,_,_,ABb9 g2,Zax (fun c=>k1 c) fun c=> ?_⟩⟩);rw [wrapN (by omega)];exact k2 c
 ·refine Eq.mpr (rSm1 _ _ _ K t s _) ?_;rw [AAd9];exact Zci (by simp [e]) k1
theorem wrSm2 (t s:TabT) (he:t.ak.length=s.ak.length) (hl:t.ak.length<1000000) (h1:(t.ak.zip s.ak).any (fun p=> !smA p.1 p.2)=false→∀i:Int,Q (.exit 4) ⟨tmSm2 false i, [tabB t,tabB s],b0⟩) (h2:(t.ak.zip s.ak).any (fun p=> !smA p.1 p.2)=true→∀i:Int,Q .ret ⟨tmSm2 false i, [tabB t,tabB s],b0⟩):
 WR Ev lpSm2 (t.ak.length+1) ⟨tmSm2 false (0:Nat), [tabB t,tabB s],b0⟩ Q:=by
 have e:(t.ak.zip s.ak).length=t.ak.length:=by rw [List.length_zip,←he,Nat.min_self]
 rw [←e];refine WR.scanL (X:=⟨[], [],wlW Ev,Ev.Y,false⟩) (k:=100) [2,3,4,7] mixed (CX.Ok.of Zai Zar) (t.ak.zip s.ak) (fun p=> !smA p.1 p.2) (fun i=>tmSm2 false (i:Nat)) (fun i=>tmSm2 false (i:Nat)) [tabB t,tabB s] 4 (fun i x hi hx K k1 k2=> ?_) (fun K k1=> ?_) (fun h=>h1 h _) fun h i=>h2 h _
 ·obtain ⟨g1,g2⟩:=BTm9 hx;refine Eq.mpr (rSm2 _ _ _ K t s i) ?_;rw [AAi9];refine Zas (by simp;omega) (Zas (natI i) ⟨_,_,_,ABd9 g1,Zas (natI i) ⟨_,_,_,ABd9 g2,Zax (fun c=>k1 c) fun c=> ?_⟩⟩);rw [wrapN (by omega)];exact k2 c
 ·refine Eq.mpr (rSm2 _ _ _ K t s _) ?_;rw [AAi9];exact Zci (by simp [e]) k1
variable {Ev:Env prog} {b0:Ev.β} {Q:Exit→St Ev.β→Prop}
def wlSm {β:Type}:WLT β:=fun cd tm hp b K=>match cidO cd with
 |5=>∃(t s:TabT) (q:Bool),cd= .loop lpSm0∧AAn9 [2,3,4,5] 0 tm=tmSm0 false 0∧hp= [tabB t,tabB s]∧(t.us.length=s.us.length∧t.us.length<1000000∧q=(t.us.zip s.us).any fun p=> !smU p.1 p.2)∧BIf q (∀i:Int,K .ret (tmSm0 false i) [tabB t,tabB s] b) (∀i:Int,K (.exit 0) (tmSm0 false i) [tabB t,tabB s] b)
 |10=>∃(t s:TabT) (q:Bool),cd= .loop lpSm1∧AAn9 [2,3,4,6] 0 tm=tmSm1 false 0∧hp= [tabB t,tabB s]∧(t.gs.length=s.gs.length∧t.gs.length<1000000∧q=(t.gs.zip s.gs).any fun p=> !smG p.1 p.2)∧BIf q (∀i:Int,K .ret (tmSm1 false i) [tabB t,tabB s] b) (∀i:Int,K (.exit 2) (tmSm1 false i) [tabB t,tabB s] b)
 |15=>∃(t s:TabT) (q:Bool),cd= .loop lpSm2∧AAn9 [2,3,4,7] 0 tm=tmSm2 false 0∧hp= [tabB t,tabB s]∧(t.ak.length=s.ak.length∧t.ak.length<1000000∧q=(t.ak.zip s.ak).any fun p=> !smA p.1 p.2)∧BIf q (∀i:Int,K .ret (tmSm2 false i) [tabB t,tabB s] b) (∀i:Int,K (.exit 4) (tmSm2 false i) [tabB t,tabB s] b)
 |_=>False
theorem CBe9:WlOk Ev wlSm:=by
 intro c tm hp b K h;unfold wlSm at h;split at h
 ·obtain ⟨t,s,q,rfl,htm,rfl,⟨he,hl,hz⟩,hK⟩:=h;refine W.cast (htm▸AAc9 _ tm 0) (Zbg _) ?_;exact W.rounds (wrSm0 (Q:=fun e s=>K e s.tm s.hp s.b) t s he hl (fun h=>by rw [hz,h] at hK;exact hK) fun h=>by rw [hz,h] at hK;exact hK)
 ·obtain ⟨t,s,q,rfl,htm,rfl,⟨he,hl,hz⟩,hK⟩:=h;refine W.cast (htm▸AAc9 _ tm 0) (Zbg _) ?_;exact W.rounds (wrSm1 (Q:=fun e s=>K e s.tm s.hp s.b) t s he hl (fun h=>by rw [hz,h] at hK;exact hK) fun h=>by rw [hz,h] at hK;exact hK)
 ·obtain ⟨t,s,q,rfl,htm,rfl,⟨he,hl,hz⟩,hK⟩:=h;refine W.cast (htm▸AAc9 _ tm 0) (Zbg _) ?_;exact W.rounds (wrSm2 (Q:=fun e s=>K e s.tm s.hp s.b) t s he hl (fun h=>by rw [hz,h] at hK;exact hK) fun h=>by rw [hz,h] at hK;exact hK)
 ·exact h.elim
abbrev Qz71:=Zab::Zab::Zae 0 0::Zae 1 0::Zad (bo false)::Zab::Zab::Zad (i64 0)::bds 79 []
abbrev Qz78:=Zab::Zab::Zae 0 0::Zae 1 0::Zad (bo false)::Zab::Zad (i64 0)::bds 80 []
abbrev Qz81:=Zab::Zab::Zae 0 0::Zae 1 0::Zad (bo false)::Zad (i64 0)::bds 81 []
theorem CCx9 (t s:TabT):wpFn prog ⟨[], [],wlSm,y,false⟩ 100 f15 [tabA t,tabA s] b R=(BIf (((Zaa (rowsU (Zbv t)):Nat):Int) !=((Zaa (rowsU (Zbv s)):Nat):Int)) (R (.d (bo false)) b) (BIf (((Zaa (rowsG (Zbx t)):Nat):Int) !=((Zaa (rowsG (Zbx s)):Nat):Int)) (R (.d (bo false)) b) (BIf (((Zaa (rowsA (Zck t)):Nat):Int) !=((Zaa (rowsA (Zck s)):Nat):Int)) (R (.d (bo false)) b) (∃(t0:TabT) (s1:TabT) (q2:Bool),Zaq lpSm0=Zaq lpSm0∧Qz81=Qz81∧ [bk (Qz1 t),bk (Qz1 s)]= [bk (Qz1 t0),bk (Qz1 s1)]∧(Zaa (Zbv t0)=Zaa (Zbv s1)∧Zaa (Zbv t0)<1000000∧q2=Zcp (List.zip (Zbv t0) (Zbv s1)) fun (p3:UseT×UseT)=> !smU (Prod.fst p3) (Prod.snd p3))∧BIf q2 (∀(i:Int),R (.d (bo false)) b) (∀(i:Int),∃(t4:TabT) (s5:TabT) (q6:Bool),Zaq lpSm1=Zaq lpSm1∧Qz78=Qz78∧ [bk (Qz1 t0),bk (Qz1 s1)]= [bk (Qz1 t4),bk (Qz1 s5)]∧(Zaa (Zbx t4)=Zaa (Zbx s5)∧Zaa (Zbx t4)<1000000∧q6=Zcp (List.zip (Zbx t4) (Zbx s5)) fun (p7:GraT×GraT)=> !smG (Prod.fst p7) (Prod.snd p7))∧BIf q6 (∀(i:Int),R (.d (bo false)) b) (∀(i:Int),∃(t8:TabT) (s9:TabT) (q10:Bool),Zaq lpSm2=Zaq lpSm2∧Qz71=Qz71∧ [bk (Qz1 t4),bk (Qz1 s5)]= [bk (Qz1 t8),bk (Qz1 s9)]∧(Zaa (Zck t8)=Zaa (Zck s9)∧Zaa (Zck t8)<1000000∧q10=Zcp (List.zip (Zck t8) (Zck s9)) fun (p11:AskT×AskT)=> !smA (Prod.fst p11) (Prod.snd p11))∧BIf q10 (∀(i:Int),R (.d (bo false)) b) (∀(i:Int),R (.d (bo true)) b))))))):=by kernel_rfl
def TabLq (t:TabT):Prop:=t.us.length<1000000∧t.gs.length<1000000∧t.ak.length<1000000
theorem ALe9 {α:Type} {f:α→α→Bool} {l m:List α} (h:l.length≠m.length):AHk9 f l m=false:=by rw [AJj9,decide_eq_false h];rfl
theorem AJk9 {α:Type} {f:α→α→Bool} {l m:List α} (h:l.length=m.length):AHk9 f l m= !(l.zip m).any fun p=> !f p.1 p.2:=by rw [AJj9,decide_eq_true h];rfl
theorem APi9 {a b:Nat} (h:((a:Int) !=(b:Int))=true):a≠b:=by
 intro e;rw [e] at h;simp at h
theorem APu9 {a b:Nat} (h:((a:Int) !=(b:Int))=false):a=b:=by
 have h2:(a:Int)=(b:Int):=by simpa using h
 omega
def cSame:CF:=fun args K=>∃(t s:TabT) (q:Bool),args= [tabA t,tabA s]∧(TabLq t∧q=sameS t s)∧K (.d (bo q))
theorem BIg9:COk 15 cSame:=by
 rintro _ K ⟨t,s,_,rfl,⟨h,rfl⟩,hk⟩;refine ⟨_, ?_,hk⟩;refine pcW @wlSm Zai CBe9 func15 fun Ev bb=> ?_;rw [CCx9];rw [AAe9,AAe9,AAd9,AAd9,AAi9,AAi9];refine Zax (fun h1=> ?_) fun h1=> ?_
 ·rw [sameS,ALe9 (APi9 h1)];rfl
 have e1:t.us.length=s.us.length:=APu9 h1;refine Zax (fun h2=> ?_) fun h2=> ?_
 ·rw [sameS,ALe9 (f:=smG) (APi9 h2),Zdb,Zcn]
 have e2:t.gs.length=s.gs.length:=APu9 h2;refine Zax (fun h3=> ?_) fun h3=> ?_
 ·rw [sameS,ALe9 (f:=smA) (APi9 h3),Zcn,Zcn]
 have e3:t.ak.length=s.ak.length:=APu9 h3;rw [sameS,AJk9 e1,AJk9 e2,AJk9 e3];refine ⟨t,s,_,rfl,rfl,rfl,⟨e1,h.1,rfl⟩,Zax (fun h4 _=> ?_) fun h4 _=>⟨t,s,_,rfl,rfl,rfl,⟨e2,h.2.1,rfl⟩,Zax (fun h5 _=> ?_) fun h5 _=>⟨t,s,_,rfl,rfl,rfl,⟨e3,h.2.2,rfl⟩,Zax (fun h6 _=> ?_) fun h6 _=> ?_⟩⟩⟩
 ·rw [h4];rfl
 ·rw [h4,h5];rfl
 ·rw [h4,h5,h6];rfl
 ·rw [h4,h5,h6];rfl
theorem CCn9 {x y:UseT}:smU x y=true↔x=y:=by cases x;cases y;simp [smU,and_assoc]
theorem CCo9 {x y:GraT}:smG x y=true↔x=y:=by cases x;cases y;simp [smG,and_assoc]
theorem CCp9 {x y:AskT}:smA x y=true↔x=y:=by cases x;cases y;simp [smA,and_assoc]
theorem AFg9 {α:Type} {f:α→α→Bool} (hf:∀x,f x x=true):∀l:List α,AHk9 f l l=true
 | []=>rfl
 |x::r=>by rw [AHk9,hf,AFg9 hf r];rfl
theorem AEw9 (t:TabT):sameS t t=true:=by
 rw [sameS,AFg9 (fun x=>CCn9.2 rfl),AFg9 (fun x=>CCo9.2 rfl),AFg9 (fun x=>CCp9.2 rfl)];rfl
noncomputable def lpVr0:Code:=sub [1,1,1,0,1,2,3] (code f20)
noncomputable def lpVr1:Code:=sub [1,1,1,1,0,1,2,3] (code f20)
noncomputable def lpVr2:Code:=sub [1,1,1,1,1,0,1,2,3] (code f20)
noncomputable def lpVr3:Code:=sub [1,1,1,1,1,1,0,1,2,3] (code f20)
def tmVr0 (n:Nat) (z:Bool) (i:Int):List AV:= [.bad, .bad, .ptr 0 0, .ptr 1 0, .d (bo z), .gref 2 0 n 1, .d (i64 i)]++Zam 190 .bad
def tmVr1 (n:Nat) (z:Bool) (i:Int):List AV:= [.bad, .bad, .ptr 0 0, .ptr 1 0, .d (bo z), .gref 2 0 n 1, .bad, .d (i64 i)]++Zam 189 .bad
def tmVr2 (n:Nat) (z:Bool) (i:Int):List AV:= [.bad, .bad, .ptr 0 0, .ptr 1 0, .d (bo z), .gref 2 0 n 1, .bad, .bad, .d (i64 i)]++Zam 188 .bad
def tmVr3 (n:Nat) (z:Bool) (i:Int):List AV:= [.bad, .bad, .ptr 0 0, .ptr 1 0, .d (bo z), .gref 2 0 n 1, .bad, .bad, .bad, .d (i64 i)]++Zam 187 .bad
abbrev Qz19 (v0:TabT) (v1:LayT) (v2:List AV):= [bk (Qz1 v0),bk (Qz3 v1),Blk.mk v2 false true 0]
theorem rVr0 (t:TabT) (ly:LayT) (n:Nat) (cs:List AV) (i:Int):wpc prog ⟨TV12, [],wl,y,false⟩ 100 lpVr0 (tmVr0 n false i) [tabB t,layB ly,growB 0 cs] b (maskK 3 [2,3,4,5,6] K)=(BIf (decide (i<((Zaa (rowsU (Zbv t)):Nat):Int))) (BIf (true&&decide (0≤i)) (∃(x0:Int) (x1:Int) (x2:Int) (x3:Int),(rowsU (Zbv t))[Zak i]? =some [i64 x0,i64 x1,i64 x2,i64 x3]∧∃(u6:UseT) (l7:LayT) (z8:Bool), [Zan (Qz30 x0 x1 x2 x3),Zan (Qz3 ly)]= [Zan (Qz6 u6),Zan (Qz3 l7)]∧z8=useOk u6 l7∧BIf (!z8) (BIf (Zbl (Qz19 t ly cs) fun (blk9:Blk)=>lows 3 blk9.1) (K .ret (Zab::Zab::Zae 0 0::Zae 1 0::Zad (bo false)::Zbh 2 0 n 1::Zad (i64 i)::bds 190 []) (Qz19 t ly cs) b) False) (BIf (decide (i>(0:Int))) (BIf (true&&decide ((0:Int)≤Zac .i64 (i - 1))) (∃(x10:Int) (x11:Int) (x12:Int) (x13:Int),(rowsU (Zbv t))[Zak (Zac .i64 (i - 1))]? =some [i64 x10,i64 x11,i64 x12,i64 x13]∧BIf (true&&decide (0≤i)) (∃(x16:Int) (x17:Int) (x18:Int) (x19:Int),(rowsU (Zbv t))[Zak i]? =some [i64 x16,i64 x17,i64 x18,i64 x19]∧BIf (decide (x10≥x16)) (BIf (Zbl (Qz19 t ly cs) fun (blk22:Blk)=>lows 3 blk22.1) (K .ret (Zab::Zab::Zae 0 0::Zae 1 0::Zad (bo false)::Zbh 2 0 n 1::Zad (i64 i)::bds 190 []) (Qz19 t ly cs) b) False) (BIf (true&&decide (0≤i)) (∃(x23:Int) (x24:Int) (x25:Int) (x26:Int),(rowsU (Zbv t))[Zak i]? =some [i64 x23,i64 x24,i64 x25,i64 x26]∧0=0∧BIf (decide (0≤x23)&&decide (x23<(n:Int))) (0=0∧∃(x29:Int),Zbq 1 (Zcg (Zak x23*1) cs)= [Zad (i64 x29)]∧0=0∧BIf (decide (0≤x23)&&decide (x23<(n:Int))) (0=0∧BIf (decide (Zak x23*1+1≤Zaa cs)) (BIf (Zbl [bk (Qz1 t),bk (Qz3 ly),Blk.mk (Zbq (Zak x23*1) cs++ [Zad (i64 (Zac .i64 (x29+1)))]++Zcg (Zak x23*1+1) cs) false true 0] fun (blk30:Blk)=>lows 3 blk30.1) (K .normal (Zab::Zab::Zae 0 0::Zae 1 0::Zad (bo false)::Zbh 2 0 n 1::Zad (i64 (Zac .i64 (i+1)))::bds 190 []) [bk (Qz1 t),bk (Qz3 ly),Blk.mk (Zbq (Zak x23*1) cs++ [Zad (i64 (Zac .i64 (x29+1)))]++Zcg (Zak x23*1+1) cs) false true 0] b) False) False) False) False) False)) False) False) (BIf (true&&decide (0≤i)) (∃(x31:Int) (x32:Int) (x33:Int) (x34:Int),(rowsU (Zbv t))[Zak i]? =some [i64 x31,i64 x32,i64 x33,i64 x34]∧0=0∧BIf (decide (0≤x31)&&decide (x31<(n:Int))) (0=0∧∃(x37:Int),Zbq 1 (Zcg (Zak x31*1) cs)= [Zad (i64 x37)]∧0=0∧BIf (decide (0≤x31)&&decide (x31<(n:Int))) (0=0∧BIf (decide (Zak x31*1+1≤Zaa cs)) (BIf (Zbl [bk (Qz1 t),bk (Qz3 ly),Blk.mk (Zbq (Zak x31*1) cs++ [Zad (i64 (Zac .i64 (x37+1)))]++Zcg (Zak x31*1+1) cs) false true 0] fun (blk38:Blk)=>lows 3 blk38.1) (K .normal (Zab::Zab::Zae 0 0::Zae 1 0::Zad (bo false)::Zbh 2 0 n 1::Zad (i64 (Zac .i64 (i+1)))::bds 190 []) [bk (Qz1 t),bk (Qz3 ly),Blk.mk (Zbq (Zak x31*1) cs++ [Zad (i64 (Zac .i64 (x37+1)))]++Zcg (Zak x31*1+1) cs) false true 0] b) False) False) False) False) False))) False) (BIf (Zbl (Qz19 t ly cs) fun (blk39:Blk)=>lows 3 blk39.1) (K (Zba 0) (Zab::Zab::Zae 0 0::Zae 1 0::Zad (bo false)::Zbh 2 0 n 1::Zad (i64 i)::bds 190 []) (Qz19 t ly cs) b) False)):=by kernel_rfl
theorem rVr1 (t:TabT) (ly:LayT) (n:Nat) (cs:List AV) (i:Int):wpc prog ⟨TV12, [],wl,y,false⟩ 100 lpVr1 (tmVr1 n false i) [tabB t,layB ly,growB 0 cs] b (maskK 3 [2,3,4,5,7] K)=(BIf (decide (i<((Zaa (rowsG (Zbx t)):Nat):Int))) (BIf (true&&decide (0≤i)) (∃(x0:Int) (x1:Int) (x2:Int) (x3:Int) (x4:Int),(rowsG (Zbx t))[Zak i]? =some (Qz27 x0 x1 x2 x3 x4)∧∃(u7:GraT) (l8:LayT) (z9:Bool), [Zan (Qz15 x0 x1 x2 x3 x4),Zan (Qz3 ly)]= [Zan (Qz5 u7),Zan (Qz3 l8)]∧z9=graOk u7 l8∧BIf (!z9) (BIf (Zbl (Qz19 t ly cs) fun (blk10:Blk)=>lows 3 blk10.1) (K .ret (Zab::Zab::Zae 0 0::Zae 1 0::Zad (bo false)::Zbh 2 0 n 1::Zab::Zad (i64 i)::bds 189 []) (Qz19 t ly cs) b) False) (BIf (decide (i>(0:Int))) (BIf (true&&decide ((0:Int)≤Zac .i64 (i - 1))) (∃(x11:Int) (x12:Int) (x13:Int) (x14:Int) (x15:Int),(rowsG (Zbx t))[Zak (Zac .i64 (i - 1))]? =some (Qz27 x11 x12 x13 x14 x15)∧BIf (true&&decide (0≤i)) (∃(x18:Int) (x19:Int) (x20:Int) (x21:Int) (x22:Int),(rowsG (Zbx t))[Zak i]? =some (Qz27 x18 x19 x20 x21 x22)∧BIf (decide (x11≥x18)) (BIf (Zbl (Qz19 t ly cs) fun (blk25:Blk)=>lows 3 blk25.1) (K .ret (Zab::Zab::Zae 0 0::Zae 1 0::Zad (bo false)::Zbh 2 0 n 1::Zab::Zad (i64 i)::bds 189 []) (Qz19 t ly cs) b) False) (BIf (true&&decide (0≤i)) (∃(x26:Int) (x27:Int) (x28:Int) (x29:Int) (x30:Int),(rowsG (Zbx t))[Zak i]? =some (Qz27 x26 x27 x28 x29 x30)∧0=0∧BIf (decide (0≤x26)&&decide (x26<(n:Int))) (0=0∧∃(x33:Int),Zbq 1 (Zcg (Zak x26*1) cs)= [Zad (i64 x33)]∧0=0∧BIf (decide (0≤x26)&&decide (x26<(n:Int))) (0=0∧BIf (decide (Zak x26*1+1≤Zaa cs)) (BIf (Zbl [bk (Qz1 t),bk (Qz3 ly),Blk.mk (Zbq (Zak x26*1) cs++ [Zad (i64 (Zac .i64 (x33+1)))]++Zcg (Zak x26*1+1) cs) false true 0] fun (blk34:Blk)=>lows 3 blk34.1) (K .normal (Zab::Zab::Zae 0 0::Zae 1 0::Zad (bo false)::Zbh 2 0 n 1::Zab::Zad (i64 (Zac .i64 (i+1)))::bds 189 []) [bk (Qz1 t),bk (Qz3 ly),Blk.mk (Zbq (Zak x26*1) cs++ [Zad (i64 (Zac .i64 (x33+1)))]++Zcg (Zak x26*1+1) cs) false true 0] b) False) False) False) False) False)) False) False) (BIf (true&&decide (0≤i)) (∃(x35:Int) (x36:Int) (x37:Int) (x38:Int) (x39:Int),(rowsG (Zbx t))[Zak i]? =some (Qz27 x35 x36 x37 x38 x39)∧0=0∧BIf (decide (0≤x35)&&decide (x35<(n:Int))) (0=0∧∃(x42:Int),Zbq 1 (Zcg (Zak x35*1) cs)= [Zad (i64 x42)]∧0=0∧BIf (decide (0≤x35)&&decide (x35<(n:Int))) (0=0∧BIf (decide (Zak x35*1+1≤Zaa cs)) (BIf (Zbl [bk (Qz1 t),bk (Qz3 ly),Blk.mk (Zbq (Zak x35*1) cs++ [Zad (i64 (Zac .i64 (x42+1)))]++Zcg (Zak x35*1+1) cs) false true 0] fun (blk43:Blk)=>lows 3 blk43.1) (K .normal (Zab::Zab::Zae 0 0::Zae 1 0::Zad (bo false)::Zbh 2 0 n 1::Zab::Zad (i64 (Zac .i64 (i+1)))::bds 189 []) [bk (Qz1 t),bk (Qz3 ly),Blk.mk (Zbq (Zak x35*1) cs++ [Zad (i64 (Zac .i64 (x42+1)))]++Zcg (Zak x35*1+1) cs) false true 0] b) False) False) False) False) False))) False) (BIf (Zbl (Qz19 t ly cs) fun (blk44:Blk)=>lows 3 blk44.1) (K (Zba 2) (Zab::Zab::Zae 0 0::Zae 1 0::Zad (bo false)::Zbh 2 0 n 1::Zab::Zad (i64 i)::bds 189 []) (Qz19 t ly cs) b) False)):=by kernel_rfl
theorem rVr2 (t:TabT) (ly:LayT) (n:Nat) (cs:List AV) (i:Int):wpc prog ⟨TV12, [],wl,y,false⟩ 100 lpVr2 (tmVr2 n false i) [tabB t,layB ly,growB 0 cs] b (maskK 3 [2,3,4,5,8] K)=(BIf (decide (i<((Zaa (rowsA (Zck t)):Nat):Int))) (BIf (true&&decide (0≤i)) (∃(x0:Int) (x1:Int) (x2:Int),(rowsA (Zck t))[Zak i]? =some [i64 x0,i64 x1,i64 x2]∧BIf (true&&decide (0≤i)) (∃(x5:Int) (x6:Int) (x7:Int),(rowsA (Zck t))[Zak i]? =some [i64 x5,i64 x6,i64 x7]∧∃(sl10:Int) (of11:Int) (pe12:Int) (l13:LayT) (z14:Bool),(Qz28 x0 x1 x7 ly)=(Qz28 sl10 of11 pe12 l13)∧z14=ABc9 sl10 of11 pe12 l13∧BIf (!z14) (BIf (Zbl (Qz19 t ly cs) fun (blk15:Blk)=>lows 3 blk15.1) (K .ret (Zab::Zab::Zae 0 0::Zae 1 0::Zad (bo false)::Zbh 2 0 n 1::Zab::Zab::Zad (i64 i)::bds 188 []) (Qz19 t ly cs) b) False) (BIf (decide (i>(0:Int))) (BIf (true&&decide ((0:Int)≤Zac .i64 (i - 1))) (∃(x16:Int) (x17:Int) (x18:Int),(rowsA (Zck t))[Zak (Zac .i64 (i - 1))]? =some [i64 x16,i64 x17,i64 x18]∧BIf (true&&decide (0≤i)) (∃(x21:Int) (x22:Int) (x23:Int),(rowsA (Zck t))[Zak i]? =some [i64 x21,i64 x22,i64 x23]∧BIf (decide (x16≥x21)) (BIf (Zbl (Qz19 t ly cs) fun (blk26:Blk)=>lows 3 blk26.1) (K .ret (Zab::Zab::Zae 0 0::Zae 1 0::Zad (bo false)::Zbh 2 0 n 1::Zab::Zab::Zad (i64 i)::bds 188 []) (Qz19 t ly cs) b) False) (BIf (true&&decide (0≤i)) (∃(x27:Int) (x28:Int) (x29:Int),(rowsA (Zck t))[Zak i]? =some [i64 x27,i64 x28,i64 x29]∧0=0∧BIf (decide (0≤x27)&&decide (x27<(n:Int))) (0=0∧∃(x32:Int),Zbq 1 (Zcg (Zak x27*1) cs)= [Zad (i64 x32)]∧0=0∧BIf (decide (0≤x27)&&decide (x27<(n:Int))) (0=0∧BIf (decide (Zak x27*1+1≤Zaa cs)) (BIf (Zbl [bk (Qz1 t),bk (Qz3 ly),Blk.mk (Zbq (Zak x27*1) cs++ [Zad (i64 (Zac .i64 (x32+1)))]++Zcg (Zak x27*1+1) cs) false true 0] fun (blk33:Blk)=>lows 3 blk33.1) (K .normal (Zab::Zab::Zae 0 0::Zae 1 0::Zad (bo false)::Zbh 2 0 n 1::Zab::Zab::Zad (i64 (Zac .i64 (i+1)))::bds 188 []) [bk (Qz1 t),bk (Qz3 ly),Blk.mk (Zbq (Zak x27*1) cs++ [Zad (i64 (Zac .i64 (x32+1)))]++Zcg (Zak x27*1+1) cs) false true 0] b) False) False) False) False) False)) False) False) (BIf (true&&decide (0≤i)) (∃(x34:Int) (x35:Int) (x36:Int),(rowsA (Zck t))[Zak i]? =some [i64 x34,i64 x35,i64 x36]∧0=0∧BIf (decide (0≤x34)&&decide (x34<(n:Int))) (0=0∧∃(x39:Int),Zbq 1 (Zcg (Zak x34*1) cs)= [Zad (i64 x39)]∧0=0∧BIf (decide (0≤x34)&&decide (x34<(n:Int))) (0=0∧BIf (decide (Zak x34*1+1≤Zaa cs)) (BIf (Zbl [bk (Qz1 t),bk (Qz3 ly),Blk.mk (Zbq (Zak x34*1) cs++ [Zad (i64 (Zac .i64 (x39+1)))]++Zcg (Zak x34*1+1) cs) false true 0] fun (blk40:Blk)=>lows 3 blk40.1) (K .normal (Zab::Zab::Zae 0 0::Zae 1 0::Zad (bo false)::Zbh 2 0 n 1::Zab::Zab::Zad (i64 (Zac .i64 (i+1)))::bds 188 []) [bk (Qz1 t),bk (Qz3 ly),Blk.mk (Zbq (Zak x34*1) cs++ [Zad (i64 (Zac .i64 (x39+1)))]++Zcg (Zak x34*1+1) cs) false true 0] b) False) False) False) False) False))) False) False) (BIf (Zbl (Qz19 t ly cs) fun (blk41:Blk)=>lows 3 blk41.1) (K (Zba 4) (Zab::Zab::Zae 0 0::Zae 1 0::Zad (bo false)::Zbh 2 0 n 1::Zab::Zab::Zad (i64 i)::bds 188 []) (Qz19 t ly cs) b) False)):=by kernel_rfl
theorem rVr3 (t:TabT) (ly:LayT) (n:Nat) (cs:List AV) (i:Int):wpc prog ⟨TV12, [],wl,y,false⟩ 100 lpVr3 (tmVr3 n false i) [tabB t,layB ly,growB 0 cs] b (maskK 3 [2,3,4,5,9] K)=(0=0∧BIf (decide (i<(n:Int))) (0=0∧BIf (decide (0≤i)&&decide (i<(n:Int))) (0=0∧∃(x0:Int),Zbq 1 (Zcg (Zak i*1) cs)= [Zad (i64 x0)]∧BIf (decide (x0>(1:Int))) (BIf (Zbl (Qz19 t ly cs) fun (blk1:Blk)=>lows 3 blk1.1) (K .ret (Zab::Zab::Zae 0 0::Zae 1 0::Zad (bo false)::Zbh 2 0 n 1::bds 3 (Zad (i64 i)::bds 187 [])) (Qz19 t ly cs) b) False) (BIf (Zbl (Qz19 t ly cs) fun (blk2:Blk)=>lows 3 blk2.1) (K .normal (Zab::Zab::Zae 0 0::Zae 1 0::Zad (bo false)::Zbh 2 0 n 1::bds 3 (Zad (i64 (Zac .i64 (i+1)))::bds 187 [])) (Qz19 t ly cs) b) False)) False) (BIf (Zbl (Qz19 t ly cs) fun (blk3:Blk)=>lows 3 blk3.1) (K (Zba 6) (Zab::Zab::Zae 0 0::Zae 1 0::Zad (bo false)::Zbh 2 0 n 1::bds 3 (Zad (i64 i)::bds 187 [])) (Qz19 t ly cs) b) False)):=by kernel_rfl
variable {Ev:Env prog} {b0:Ev.β} {Q:Exit→St Ev.β→Prop}
def cntS (l:List Int) (s:Int):Int:=((l.filter fun x=>x==s).length:Nat)
def cntC (l:List Int) (n:Nat):List AV:=(List.range n).map fun s:Nat=>Zad (i64 (cntS l (s:Int)))
theorem AFy9 (l:List Int) (n:Nat):(cntC l n).length=n:=by simp [cntC]
theorem AMs9 {l:List Int} {n:Nat} {x:Int} (h:0≤x∧x<(n:Int)):Zbq 1 (Zcg (x.toNat*1) (cntC l n))= [Zad (i64 (cntS l x))]:=by
 obtain ⟨k,rfl⟩:=Int.eq_ofNat_of_zero_le h.1;have hk:k<(cntC l n).length:=by rw [AFy9];omega
 rw [Int.toNat_natCast,Nat.mul_one,List.drop_eq_getElem_cons hk];simp [cntC]
theorem AVg9 (l:List Int) (x s:Int):cntS (l++ [x]) s=if x=s then cntS l s+1 else cntS l s:=by
 unfold cntS;rw [List.filter_append,Zbi];by_cases h:x=s
 ·simp [h]
 ·simp [h]
theorem BRs9 (l:List Int) (s:Int):0≤cntS l s∧cntS l s≤l.length:=by
 unfold cntS;have:=Zcd (fun x=>x==s) l;omega
theorem ADr9 {l:List Int} {n:Nat} {x:Int} (h:0≤x∧x<(n:Int)) (hl:l.length<1000000):
 Zbq (x.toNat*1) (cntC l n)++ [Zad (i64 (Zac Zbb (cntS l x+1)))]++Zcg (x.toNat*1+1) (cntC l n)=cntC (l++ [x]) n:=by
 obtain ⟨k,rfl⟩:=Int.eq_ofNat_of_zero_le h.1;have hk:k<(cntC l n).length:=by rw [AFy9];omega
 have hc:=BRs9 l (k:Int);rw [AAw9 (by omega) (by omega),Int.toNat_natCast,Nat.mul_one,Zbm,List.singleton_append];have hset:Zbq k (cntC l n)++Zad (i64 (cntS l (k:Int)+1))::Zcg (k+1) (cntC l n)=(cntC l n).set k (Zad (i64 (cntS l (k:Int)+1))):=by rw [List.set_eq_take_append_cons_drop,if_pos hk]
 rw [hset];apply List.ext_getElem
 ·simp [cntC]
 ·intro j h1 h2;simp only [List.length_set,AFy9] at h1;by_cases hj:k=j
  ·subst hj;rw [List.getElem_set_self];simp only [cntC,List.getElem_map,List.getElem_range,AVg9,if_pos]
  ·rw [List.getElem_set_ne hj];simp only [cntC,List.getElem_map,List.getElem_range,AVg9];rw [if_neg (by omega)]
theorem BXy9 (l:List Int) (n:Nat) (k:Nat):lows k (cntC l n)=true:=BRj9 fun i c h=>by
 simp only [cntC,Zbp,Option.map_eq_some_iff] at h;obtain ⟨_,_,rfl⟩:=h;rfl
theorem BXx9 (n:Nat):flatA (Zam n [i64 0])=cntC [] n:=by
 have e:∀(m s:Nat),(List.range' s m).map (fun s:Nat=>Zad (i64 (cntS [] (s:Int))))=flatA (Zam m [i64 0]):=by
  intro m;induction m with
  |zero=>intro s;rfl
  |succ m ih=>intro s;rw [List.range'_succ,List.map_cons,ih];rfl
 rw [cntC,List.range_eq_range',e]
theorem AGb9 (t:TabT) (ly:LayT) (l:List Int) (n:Nat):Zbl [tabB t,layB ly,growB 0 (cntC l n)] (fun blk=>lows 3 blk.1)=true:=by
 simp only [List.all_cons,List.all_nil,Bool.and_true,Zal];exact ⟨rfl,rfl,BXy9 l n 3⟩
theorem WR.scanG2 {α:Type} {P:Program} {Ev:Env P} {X:CX Ev.β} {lp:Code} {b:Ev.β} {Q:Exit→St Ev.β→Prop} {k L:Nat} (keep:List Nat) (hm:P.follows .mixedOrders=true) (hX:X.Ok) (xs:List α) (p:α→Bool) (tmOf:Nat→List AV) (hpOf:Nat→List Blk) (hL:∀i,(hpOf i).length=L) (id:Nat)
 (hr:∀(i:Nat) (x:α),i<xs.length→xs[i]? =some x→(xs.take i).any p=false→∀K:Exit→List AV→List Blk→Ev.β→Prop,(p x=true→K .ret (tmOf i) (hpOf i) b)→(p x=false→K .normal (tmOf (i+1)) (hpOf (i+1)) b)→wpc P X k lp (tmOf i) (hpOf i) b (maskK L keep K))
 (he:∀K:Exit→List AV→List Blk→Ev.β→Prop,K (.exit id) (tmOf xs.length) (hpOf xs.length) b→wpc P X k lp (tmOf xs.length) (hpOf xs.length) b (maskK L keep K))
 (h1:xs.any p=false→Q (.exit id) ⟨tmOf xs.length,hpOf xs.length,b⟩) (h2:xs.any p=true→∀i,Q .ret ⟨tmOf i,hpOf i,b⟩):
 ∀(m i:Nat),i+m=xs.length→(xs.take i).any p=false→WR Ev lp (m+1) ⟨tmOf i,hpOf i,b⟩ Q
 | 0,i,hi,hj=>by
  have e:i=xs.length:=by omega
  subst e;rw [Zdc] at hj;refine WR.ofMask keep hm hX (k:=k) (by rw [hL];exact he _ (h1 hj))
 | m+1,i,hi,hj=>by
  have hlt:i<xs.length:=by omega
  have hx:xs[i]? =some xs[i]:=Zbc hlt;refine WR.ofMask keep hm hX (k:=k) (by
   rw [hL];refine hr i xs[i] hlt hx hj _ (fun hp=>h2 (List.any_eq_true.2 ⟨xs[i],List.getElem_mem hlt,hp⟩) i) fun hp=> ?_;refine WR.scanG2 keep hm hX xs p tmOf hpOf hL id hr he h1 h2 m (i+1) (by omega) ?_;rw [List.take_succ_eq_append_getElem hlt,List.any_append,hj,List.any_cons,hp];rfl)
theorem AEk9 {α:Type}:∀(l:List α) (o:Option α) (i:Nat),(AAg9 o l).take i=AAg9 o (l.take i)
 | [],o,i=>by simp [AAg9]
 |x::r,o,0=>by simp [AAg9]
 |x::r,o,i+1=>by rw [AAg9,List.take_succ_cons,List.take_succ_cons,AAg9,AEk9 r (some x) i]
theorem AGc9 {α:Type} {ok:α→Bool} {sl:α→Int} {bad:Option α×α→Bool} (hb:∀p,bad p=(!ok p.2||(match p.1 with|some w=>decide (sl w≥sl p.2)|none=>false))):∀(l:List α) (o:Option α),
 (AAg9 o l).any bad=false↔(∀x∈l,ok x=true)∧(∀w,o=some w→∀x∈l,sl w<sl x)∧l.Pairwise (fun a b=>sl a<sl b)
 | [],o=>by simp [AAg9]
 | x::r,o=>by
  rw [AAg9,List.any_cons,Bool.or_eq_false_iff,AGc9 hb r (some x),hb];constructor
  ·rintro ⟨h1,h2,h3,h4⟩;rw [Bool.or_eq_false_iff] at h1;refine ⟨fun y hy=> ?_,fun w hw y hy=> ?_,Zdh.2 ⟨h3 x rfl,h4⟩⟩
   ·rcases Zbu.1 hy with rfl|hy
    ·simpa using h1.1
    ·exact h2 y hy
   ·subst hw;have h5:¬sl w≥sl x:=of_decide_eq_false h1.2;rcases Zbu.1 hy with rfl|hy
    ·omega
    ·have:=h3 x rfl y hy;omega
  ·rintro ⟨h1,h2,h3⟩;obtain ⟨h4,h5⟩:=Zdh.1 h3;refine ⟨?_,fun y hy=>h1 y (Zch _ hy),fun w hw=> ?_,h5⟩
   ·rw [h1 x (Zby)];cases o with
    |none=>rfl
    | some w=>
     have:=h2 w rfl x (Zby);exact decide_eq_false (show ¬sl w≥sl x by omega)
   ·cases hw;exact h4
theorem AJg9 {α:Type} {sl:α→Int} {da:Int} (hd:da≤60):∀ {l:List α} (c:Int),0≤c→l.Pairwise (fun a b=>sl a<sl b)→(∀x∈l,c≤sl x∧sl x<da)→(l.length:Int)≤60 - c∨l= []
 | [],c,_,_,_=> .inr rfl
 | x::r,c,hc,hp,hin=>by
  obtain ⟨h1,h2⟩:=Zdh.1 hp;have hx:=hin x (Zby);left;rcases AJg9 hd (sl x+1) (by omega) h2 (fun y hy=>⟨by have:=h1 y hy;omega,(hin y (Zch _ hy)).2⟩) with h3|h3
  ·simp only [Zfr];omega
  ·subst h3;simp only [Zfr,List.length_nil];omega
theorem APf9 {sl of pe:Int} {ly:LayT} (h:ABc9 sl of pe ly=true):0≤sl∧sl<ly.da:=by
 simp only [ABc9,Zal,decide_eq_true_eq] at h;omega
theorem BDy9 {x:UseT} {ly:LayT} (h:useOk x ly=true):0≤x.sl∧x.sl<ly.da:=by
 simp only [useOk,Zal] at h;exact APf9 h.1
theorem BGn9 {x:GraT} {ly:LayT} (h:graOk x ly=true):0≤x.sl∧x.sl<ly.da:=by
 simp only [graOk,Zal] at h;exact APf9 h.1
theorem BKk9 {x:AskT} {ly:LayT} (h:askOk x ly=true):0≤x.sl∧x.sl<ly.da:=APf9 h
def badUr (ly:LayT) (p:Option UseT×UseT):Bool:= !useOk p.2 ly||(match p.1 with|some w=>decide (w.sl≥p.2.sl)|none=>false)
theorem wrVr0 (t:TabT) (ly:LayT) (pre:List Int) (hpre:pre.length≤1000) (hl:t.us.length≤9223372036854775807) (hd:1≤ly.da∧ly.da≤60)
 (h1:(AAg9 none t.us).any (badUr ly)=false→∀i:Int,Q (.exit 0) ⟨tmVr0 ly.da.toNat false i, [tabB t,layB ly,growB 0 (cntC (pre++t.us.map (·.sl)) ly.da.toNat)],b0⟩)
 (h2:(AAg9 none t.us).any (badUr ly)=true→∀(i:Int) (cs:List AV),Q .ret ⟨tmVr0 ly.da.toNat false i, [tabB t,layB ly,growB 0 cs],b0⟩):
 WR Ev lpVr0 (t.us.length+1) ⟨tmVr0 ly.da.toNat false (0:Nat), [tabB t,layB ly,growB 0 (cntC pre ly.da.toNat)],b0⟩ Q:=by
 have e:=AEc9 t.us none;have hfin:cntC (pre++(t.us.map (·.sl)).take (AAg9 none t.us).length) ly.da.toNat=cntC (pre++t.us.map (·.sl)) ly.da.toNat:=by rw [List.take_of_length_le (by simp [e])]
 have h0:cntC pre ly.da.toNat=cntC (pre++(t.us.map (·.sl)).take 0) ly.da.toNat:=by rw [List.take_zero,Zco]
 rw [←e,h0];refine WR.scanG2 (X:=⟨TV12, [],wlW Ev,Ev.Y,false⟩) (k:=100) (L:=3) [2,3,4,5,6] mixed (CX.Ok.of AGw9 Zar) (AAg9 none t.us) (badUr ly) (fun i=>tmVr0 ly.da.toNat false (i:Nat)) (fun i=> [tabB t,layB ly,growB 0 (cntC (pre++(t.us.map (·.sl)).take i) ly.da.toNat)]) (fun _=>rfl) 0 (fun i x hi hx hpf K k1 k2=> ?_) (fun K k1=> ?_) (fun h=>by have h3:=h1 h ((AAg9 none t.us).length:Nat);rw [←hfin] at h3;exact h3) (fun h i=>h2 h _ _) _ 0 (by simp) rfl
 ·obtain ⟨g1,g2,g3⟩:=AEu9 t.us none i x hx;obtain ⟨o,x⟩:=x;simp only at g1 g2 g3;have hit:i<t.us.length:=by omega
  have hi60:i≤60:=by
   rw [AEk9] at hpf;have hc:=(AGc9 (ok:=fun x:UseT=>useOk x ly) (sl:=fun x=>x.sl) (bad:=badUr ly) (fun p=>by obtain ⟨o,x⟩:=p;cases o<;>rfl) _ _).1 hpf;have h5:=AJg9 (sl:=fun x:UseT=>x.sl) (da:=ly.da) hd.2 0 (by omega) hc.2.2 (fun x hx=>by have:=BDy9 (hc.1 x hx);omega);have h6:(t.us.take i).length=i:=by rw [Zcj];omega
   rcases h5 with h5|h5
   ·omega
   ·rw [h5] at h6;simp at h6;omega
  have hpl:(pre++(t.us.map (·.sl)).take i).length<1000000:=by rw [Zbi,Zcj,List.length_map];omega
  refine Eq.mpr (rVr0 _ _ _ K t ly ly.da.toNat _ i) ?_;rw [AAe9];refine Zas (by simp;omega) (Zas (natI i) ⟨_,_,_,_,ABl9 g1,x,ly,_,rfl,rfl,Zax (fun c1=>Zas (AGb9 t ly _ _) (k1 (by rw [badUr,c1];rfl))) fun c1=> ?_⟩);have c1':useOk x ly=true:=by simpa [useOk] using c1
  have hx2:0≤x.sl∧x.sl<(ly.da.toNat:Int):=by have:=BDy9 c1';omega
  have hin:(decide (0≤x.sl)&&decide (x.sl<(ly.da.toNat:Int)))=true:=by simp only [Zal,decide_eq_true_eq];exact hx2
  have hnx:pre++(t.us.map (·.sl)).take i++ [x.sl]=pre++(t.us.map (·.sl)).take (i+1):=by
   rw [Zbm,List.take_add_one,Zbp,g1];rfl
  cases i with
  | zero=>
   refine Zci (by decide) (Zas (natI 0) ⟨_,_,_,_,ABl9 g1,rfl,Zas hin ⟨rfl,_,AMs9 hx2,rfl,Zas hin ⟨rfl,Zas (by rw [AFy9];exact decide_eq_true (by omega)) (Zas (by rw [ADr9 hx2 hpl];exact AGb9 t ly _ _) ?_)⟩⟩⟩);rw [ADr9 hx2 hpl,hnx,wrapN (by omega)];exact k2 (by rw [badUr,g2 rfl,c1'];rfl)
  | succ j=>
   obtain ⟨w,hw,hj⟩:=g3 j rfl;subst hw;refine Zas (by simp) ?_;rw [show Zac Zbb (((j+1:Nat):Int) - 1)=((j:Nat):Int) by rw [AAw9 (by omega) (by omega)];omega];refine Zas (natI j) ⟨_,_,_,_,ABl9 hj,Zas (natI (j+1)) ⟨_,_,_,_,ABl9 g1,Zax (fun c2=>Zas (AGb9 t ly _ _) (k1 (by rw [badUr,c1'];exact c2))) fun c2=>(Zas (natI (j+1)) ⟨_,_,_,_,ABl9 g1,rfl,Zas hin ⟨rfl,_,AMs9 hx2,rfl,Zas hin ⟨rfl,Zas (by rw [AFy9];exact decide_eq_true (by omega)) (Zas (by rw [ADr9 hx2 hpl];exact AGb9 t ly _ _) ?_)⟩⟩⟩)⟩⟩;rw [ADr9 hx2 hpl,hnx,wrapN (by omega)];exact k2 (by rw [badUr,c1'];exact c2)
 ·refine Eq.mpr (rVr0 _ _ _ K t ly ly.da.toNat _ _) ?_;rw [AAe9];exact Zci (by simp [e]) (Zas (AGb9 t ly _ _) k1)
def badGr (ly:LayT) (p:Option GraT×GraT):Bool:= !graOk p.2 ly||(match p.1 with|some w=>decide (w.sl≥p.2.sl)|none=>false)
theorem wrVr1 (t:TabT) (ly:LayT) (pre:List Int) (hpre:pre.length≤1000) (hl:t.gs.length≤9223372036854775807) (hd:1≤ly.da∧ly.da≤60)
 (h1:(AAg9 none t.gs).any (badGr ly)=false→∀i:Int,Q (.exit 2) ⟨tmVr1 ly.da.toNat false i, [tabB t,layB ly,growB 0 (cntC (pre++t.gs.map (·.sl)) ly.da.toNat)],b0⟩)
 (h2:(AAg9 none t.gs).any (badGr ly)=true→∀(i:Int) (cs:List AV),Q .ret ⟨tmVr1 ly.da.toNat false i, [tabB t,layB ly,growB 0 cs],b0⟩):
 WR Ev lpVr1 (t.gs.length+1) ⟨tmVr1 ly.da.toNat false (0:Nat), [tabB t,layB ly,growB 0 (cntC pre ly.da.toNat)],b0⟩ Q:=by
 have e:=AEc9 t.gs none;have hfin:cntC (pre++(t.gs.map (·.sl)).take (AAg9 none t.gs).length) ly.da.toNat=cntC (pre++t.gs.map (·.sl)) ly.da.toNat:=by rw [List.take_of_length_le (by simp [e])]
 have h0:cntC pre ly.da.toNat=cntC (pre++(t.gs.map (·.sl)).take 0) ly.da.toNat:=by rw [List.take_zero,Zco]
 rw [←e,h0];refine WR.scanG2 (X:=⟨TV12, [],wlW Ev,Ev.Y,false⟩) (k:=100) (L:=3) [2,3,4,5,7] mixed (CX.Ok.of AGw9 Zar) (AAg9 none t.gs) (badGr ly) (fun i=>tmVr1 ly.da.toNat false (i:Nat)) (fun i=> [tabB t,layB ly,growB 0 (cntC (pre++(t.gs.map (·.sl)).take i) ly.da.toNat)]) (fun _=>rfl) 2 (fun i x hi hx hpf K k1 k2=> ?_) (fun K k1=> ?_) (fun h=>by have h3:=h1 h ((AAg9 none t.gs).length:Nat);rw [←hfin] at h3;exact h3) (fun h i=>h2 h _ _) _ 0 (by simp) rfl
 ·obtain ⟨g1,g2,g3⟩:=AEu9 t.gs none i x hx;obtain ⟨o,x⟩:=x;simp only at g1 g2 g3;have hit:i<t.gs.length:=by omega
  have hi60:i≤60:=by
   rw [AEk9] at hpf;have hc:=(AGc9 (ok:=fun x:GraT=>graOk x ly) (sl:=fun x=>x.sl) (bad:=badGr ly) (fun p=>by obtain ⟨o,x⟩:=p;cases o<;>rfl) _ _).1 hpf;have h5:=AJg9 (sl:=fun x:GraT=>x.sl) (da:=ly.da) hd.2 0 (by omega) hc.2.2 (fun x hx=>by have:=BGn9 (hc.1 x hx);omega);have h6:(t.gs.take i).length=i:=by rw [Zcj];omega
   rcases h5 with h5|h5
   ·omega
   ·rw [h5] at h6;simp at h6;omega
  have hpl:(pre++(t.gs.map (·.sl)).take i).length<1000000:=by rw [Zbi,Zcj,List.length_map];omega
  refine Eq.mpr (rVr1 _ _ _ K t ly ly.da.toNat _ i) ?_;rw [AAd9];refine Zas (by simp;omega) (Zas (natI i) ⟨_,_,_,_,_,ABb9 g1,x,ly,_,rfl,rfl,Zax (fun c1=>Zas (AGb9 t ly _ _) (k1 (by rw [badGr,c1];rfl))) fun c1=> ?_⟩);have c1':graOk x ly=true:=by simpa [graOk] using c1
  have hx2:0≤x.sl∧x.sl<(ly.da.toNat:Int):=by have:=BGn9 c1';omega
  have hin:(decide (0≤x.sl)&&decide (x.sl<(ly.da.toNat:Int)))=true:=by simp only [Zal,decide_eq_true_eq];exact hx2
  have hnx:pre++(t.gs.map (·.sl)).take i++ [x.sl]=pre++(t.gs.map (·.sl)).take (i+1):=by
   rw [Zbm,List.take_add_one,Zbp,g1];rfl
  cases i with
  | zero=>
   refine Zci (by decide) (Zas (natI 0) ⟨_,_,_,_,_,ABb9 g1,rfl,Zas hin ⟨rfl,_,AMs9 hx2,rfl,Zas hin ⟨rfl,Zas (by rw [AFy9];exact decide_eq_true (by omega)) (Zas (by rw [ADr9 hx2 hpl];exact AGb9 t ly _ _) ?_)⟩⟩⟩);rw [ADr9 hx2 hpl,hnx,wrapN (by omega)];exact k2 (by rw [badGr,g2 rfl,c1'];rfl)
  | succ j=>
   obtain ⟨w,hw,hj⟩:=g3 j rfl;subst hw;refine Zas (by simp) ?_;rw [show Zac Zbb (((j+1:Nat):Int) - 1)=((j:Nat):Int) by rw [AAw9 (by omega) (by omega)];omega];refine Zas (natI j) ⟨_,_,_,_,_,ABb9 hj,Zas (natI (j+1)) ⟨_,_,_,_,_,ABb9 g1,Zax (fun c2=>Zas (AGb9 t ly _ _) (k1 (by rw [badGr,c1'];exact c2))) fun c2=>(Zas (natI (j+1)) ⟨_,_,_,_,_,ABb9 g1,rfl,Zas hin ⟨rfl,_,AMs9 hx2,rfl,Zas hin ⟨rfl,Zas (by rw [AFy9];exact decide_eq_true (by omega)) (Zas (by rw [ADr9 hx2 hpl];exact AGb9 t ly _ _) ?_)⟩⟩⟩)⟩⟩;rw [ADr9 hx2 hpl,hnx,wrapN (by omega)];exact k2 (by rw [badGr,c1'];exact c2)
 ·refine Eq.mpr (rVr1 _ _ _ K t ly ly.da.toNat _ _) ?_;rw [AAd9];exact Zci (by simp [e]) (Zas (AGb9 t ly _ _) k1)
def badAr (ly:LayT) (p:Option AskT×AskT):Bool:= !askOk p.2 ly||(match p.1 with|some w=>decide (w.sl≥p.2.sl)|none=>false)
theorem wrVr2 (t:TabT) (ly:LayT) (pre:List Int) (hpre:pre.length≤1000) (hl:t.ak.length≤9223372036854775807) (hd:1≤ly.da∧ly.da≤60)
 (h1:(AAg9 none t.ak).any (badAr ly)=false→∀i:Int,Q (.exit 4) ⟨tmVr2 ly.da.toNat false i, [tabB t,layB ly,growB 0 (cntC (pre++t.ak.map (·.sl)) ly.da.toNat)],b0⟩)
 (h2:(AAg9 none t.ak).any (badAr ly)=true→∀(i:Int) (cs:List AV),Q .ret ⟨tmVr2 ly.da.toNat false i, [tabB t,layB ly,growB 0 cs],b0⟩):
 WR Ev lpVr2 (t.ak.length+1) ⟨tmVr2 ly.da.toNat false (0:Nat), [tabB t,layB ly,growB 0 (cntC pre ly.da.toNat)],b0⟩ Q:=by
 have e:=AEc9 t.ak none;have hfin:cntC (pre++(t.ak.map (·.sl)).take (AAg9 none t.ak).length) ly.da.toNat=cntC (pre++t.ak.map (·.sl)) ly.da.toNat:=by rw [List.take_of_length_le (by simp [e])]
 have h0:cntC pre ly.da.toNat=cntC (pre++(t.ak.map (·.sl)).take 0) ly.da.toNat:=by rw [List.take_zero,Zco]
 rw [←e,h0];refine WR.scanG2 (X:=⟨TV12, [],wlW Ev,Ev.Y,false⟩) (k:=100) (L:=3) [2,3,4,5,8] mixed (CX.Ok.of AGw9 Zar) (AAg9 none t.ak) (badAr ly) (fun i=>tmVr2 ly.da.toNat false (i:Nat)) (fun i=> [tabB t,layB ly,growB 0 (cntC (pre++(t.ak.map (·.sl)).take i) ly.da.toNat)]) (fun _=>rfl) 4 (fun i x hi hx hpf K k1 k2=> ?_) (fun K k1=> ?_) (fun h=>by have h3:=h1 h ((AAg9 none t.ak).length:Nat);rw [←hfin] at h3;exact h3) (fun h i=>h2 h _ _) _ 0 (by simp) rfl
 ·obtain ⟨g1,g2,g3⟩:=AEu9 t.ak none i x hx;obtain ⟨o,x⟩:=x;simp only at g1 g2 g3;have hit:i<t.ak.length:=by omega
  have hi60:i≤60:=by
   rw [AEk9] at hpf;have hc:=(AGc9 (ok:=fun x:AskT=>askOk x ly) (sl:=fun x=>x.sl) (bad:=badAr ly) (fun p=>by obtain ⟨o,x⟩:=p;cases o<;>rfl) _ _).1 hpf;have h5:=AJg9 (sl:=fun x:AskT=>x.sl) (da:=ly.da) hd.2 0 (by omega) hc.2.2 (fun x hx=>by have:=BKk9 (hc.1 x hx);omega);have h6:(t.ak.take i).length=i:=by rw [Zcj];omega
   rcases h5 with h5|h5
   ·omega
   ·rw [h5] at h6;simp at h6;omega
  have hpl:(pre++(t.ak.map (·.sl)).take i).length<1000000:=by rw [Zbi,Zcj,List.length_map];omega
  refine Eq.mpr (rVr2 _ _ _ K t ly ly.da.toNat _ i) ?_;rw [AAi9];refine Zas (by simp;omega) (Zas (natI i) ⟨_,_,_,ABd9 g1,Zas (natI i) ⟨_,_,_,ABd9 g1,x.sl,x.of,x.pe,ly,_,rfl,rfl,Zax (fun c1=>Zas (AGb9 t ly _ _) (k1 (by rw [badAr,show askOk x ly=ABc9 x.sl x.of x.pe ly from rfl,c1];rfl))) fun c1=> ?_⟩⟩);have c1':askOk x ly=true:=by simpa [askOk] using c1
  have hx2:0≤x.sl∧x.sl<(ly.da.toNat:Int):=by have:=BKk9 c1';omega
  have hin:(decide (0≤x.sl)&&decide (x.sl<(ly.da.toNat:Int)))=true:=by simp only [Zal,decide_eq_true_eq];exact hx2
  have hnx:pre++(t.ak.map (·.sl)).take i++ [x.sl]=pre++(t.ak.map (·.sl)).take (i+1):=by
   rw [Zbm,List.take_add_one,Zbp,g1];rfl
  cases i with
  | zero=>
   refine Zci (by decide) (Zas (natI 0) ⟨_,_,_,ABd9 g1,rfl,Zas hin ⟨rfl,_,AMs9 hx2,rfl,Zas hin ⟨rfl,Zas (by rw [AFy9];exact decide_eq_true (by omega)) (Zas (by rw [ADr9 hx2 hpl];exact AGb9 t ly _ _) ?_)⟩⟩⟩);rw [ADr9 hx2 hpl,hnx,wrapN (by omega)];exact k2 (by rw [badAr,g2 rfl,c1'];rfl)
  | succ j=>
   obtain ⟨w,hw,hj⟩:=g3 j rfl;subst hw;refine Zas (by simp) ?_;rw [show Zac Zbb (((j+1:Nat):Int) - 1)=((j:Nat):Int) by rw [AAw9 (by omega) (by omega)];omega];refine Zas (natI j) ⟨_,_,_,ABd9 hj,Zas (natI (j+1)) ⟨_,_,_,ABd9 g1,Zax (fun c2=>Zas (AGb9 t ly _ _) (k1 (by rw [badAr,c1'];exact c2))) fun c2=>(Zas (natI (j+1)) ⟨_,_,_,ABd9 g1,rfl,Zas hin ⟨rfl,_,AMs9 hx2,rfl,Zas hin ⟨rfl,Zas (by rw [AFy9];exact decide_eq_true (by omega)) (Zas (by rw [ADr9 hx2 hpl];exact AGb9 t ly _ _) ?_)⟩⟩⟩)⟩⟩;rw [ADr9 hx2 hpl,hnx,wrapN (by omega)];exact k2 (by rw [badAr,c1'];exact c2)
 ·refine Eq.mpr (rVr2 _ _ _ K t ly ly.da.toNat _ _) ?_;rw [AAi9];exact Zci (by simp [e]) (Zas (AGb9 t ly _ _) k1)
variable {Ev:Env prog} {b0:Ev.β} {Q:Exit→St Ev.β→Prop}
def cntL (l:List Int) (n:Nat):List Int:=(List.range n).map fun s:Nat=>cntS l (s:Int)
theorem wrVr3 (t:TabT) (ly:LayT) (l:List Int) (n:Nat) (hn:n<1000)
 (h1:(cntL l n).any (fun c=>decide (c>1))=false→∀i:Int,Q (.exit 6) ⟨tmVr3 n false i, [tabB t,layB ly,growB 0 (cntC l n)],b0⟩)
 (h2:(cntL l n).any (fun c=>decide (c>1))=true→∀(i:Int) (cs:List AV),Q .ret ⟨tmVr3 n false i, [tabB t,layB ly,growB 0 (cntC l n)],b0⟩):
 WR Ev lpVr3 (n+1) ⟨tmVr3 n false (0:Nat), [tabB t,layB ly,growB 0 (cntC l n)],b0⟩ Q:=by
 have e:(cntL l n).length=n:=by simp [cntL]
 have e2:n+1=(cntL l n).length+1:=by rw [e]
 rw [e2];refine WR.scanL (X:=⟨TV12, [],wlW Ev,Ev.Y,false⟩) (k:=100) [2,3,4,5,9] mixed (CX.Ok.of AGw9 Zar) (cntL l n) (fun c=>decide (c>1)) (fun i=>tmVr3 n false (i:Nat)) (fun i=>tmVr3 n false (i:Nat)) [tabB t,layB ly,growB 0 (cntC l n)] 6 (fun i x hi hx K k1 k2=> ?_) (fun K k1=> ?_) (fun h=>h1 h _) fun h i=>h2 h _ []
 ·rw [e] at hi;refine Eq.mpr (rVr3 _ _ _ K t ly n _ i) ?_;have hx0:cntS l (i:Int)=x:=by
   simp only [cntL,Zbp] at hx;rw [List.getElem?_range hi] at hx;simpa using hx
  refine ⟨rfl,Zas (by simp;omega) ⟨rfl,Zas (by simp;omega) ⟨rfl,_,AMs9 ⟨by omega,by omega⟩,Zax (fun c=>Zas (AGb9 t ly _ _) (k1 (by rw [←hx0];exact c))) fun c=>Zas (AGb9 t ly _ _) ?_⟩⟩⟩;rw [wrapN (by omega)];exact k2 (by rw [←hx0];exact c)
 ·refine Eq.mpr (rVr3 _ _ _ K t ly n _ _) ?_;exact ⟨rfl,Zci (by simp [e]) (Zas (AGb9 t ly _ _) k1)⟩
def wlVr {β:Type}:WLT β:=fun cd tm hp b K=>match cidO cd with
 |6=>∃(t:TabT) (ly:LayT) (pre:List Int) (n:Nat) (q:Bool),cd= .loop lpVr0∧AAn9 [2,3,4,5,6] 0 tm=tmVr0 n false 0∧hp= [tabB t,layB ly,growB 0 (cntC pre n)]∧(n=ly.da.toNat∧pre.length≤1000∧t.us.length≤9223372036854775807∧(1≤ly.da∧ly.da≤60)∧q=(AAg9 none t.us).any (badUr ly))∧BIf q (∀(i:Int) (cs:List AV),K .ret (tmVr0 n false i) [tabB t,layB ly,growB 0 cs] b) (∀i:Int,K (.exit 0) (tmVr0 n false i) [tabB t,layB ly,growB 0 (cntC (pre++t.us.map (·.sl)) n)] b)
 |12=>∃(t:TabT) (ly:LayT) (pre:List Int) (n:Nat) (q:Bool),cd= .loop lpVr1∧AAn9 [2,3,4,5,7] 0 tm=tmVr1 n false 0∧hp= [tabB t,layB ly,growB 0 (cntC pre n)]∧(n=ly.da.toNat∧pre.length≤1000∧t.gs.length≤9223372036854775807∧(1≤ly.da∧ly.da≤60)∧q=(AAg9 none t.gs).any (badGr ly))∧BIf q (∀(i:Int) (cs:List AV),K .ret (tmVr1 n false i) [tabB t,layB ly,growB 0 cs] b) (∀i:Int,K (.exit 2) (tmVr1 n false i) [tabB t,layB ly,growB 0 (cntC (pre++t.gs.map (·.sl)) n)] b)
 |18=>∃(t:TabT) (ly:LayT) (pre:List Int) (n:Nat) (q:Bool),cd= .loop lpVr2∧AAn9 [2,3,4,5,8] 0 tm=tmVr2 n false 0∧hp= [tabB t,layB ly,growB 0 (cntC pre n)]∧(n=ly.da.toNat∧pre.length≤1000∧t.ak.length≤9223372036854775807∧(1≤ly.da∧ly.da≤60)∧q=(AAg9 none t.ak).any (badAr ly))∧BIf q (∀(i:Int) (cs:List AV),K .ret (tmVr2 n false i) [tabB t,layB ly,growB 0 cs] b) (∀i:Int,K (.exit 4) (tmVr2 n false i) [tabB t,layB ly,growB 0 (cntC (pre++t.ak.map (·.sl)) n)] b)
 |24=>∃(t:TabT) (ly:LayT) (l:List Int) (n:Nat) (q:Bool),cd= .loop lpVr3∧AAn9 [2,3,4,5,9] 0 tm=tmVr3 n false 0∧hp= [tabB t,layB ly,growB 0 (cntC l n)]∧(n<1000∧q=(cntL l n).any fun c=>decide (c>1))∧BIf q (∀(i:Int) (cs:List AV),K .ret (tmVr3 n false i) [tabB t,layB ly,growB 0 (cntC l n)] b) (∀i:Int,K (.exit 6) (tmVr3 n false i) [tabB t,layB ly,growB 0 (cntC l n)] b)
 |_=>False
theorem CAw9:WlOk Ev wlVr:=by
 intro c tm hp b K h;unfold wlVr at h;split at h
 ·obtain ⟨t,ly,pre,n,q,rfl,htm,rfl,⟨rfl,hp1,hl,hd,hz⟩,hK⟩:=h;refine W.cast (htm▸AAc9 _ tm 0) (Zbg _) ?_;exact W.rounds (wrVr0 (Q:=fun e s=>K e s.tm s.hp s.b) t ly pre hp1 hl hd (fun h=>by rw [hz,h] at hK;exact hK) fun h=>by rw [hz,h] at hK;exact hK)
 ·obtain ⟨t,ly,pre,n,q,rfl,htm,rfl,⟨rfl,hp1,hl,hd,hz⟩,hK⟩:=h;refine W.cast (htm▸AAc9 _ tm 0) (Zbg _) ?_;exact W.rounds (wrVr1 (Q:=fun e s=>K e s.tm s.hp s.b) t ly pre hp1 hl hd (fun h=>by rw [hz,h] at hK;exact hK) fun h=>by rw [hz,h] at hK;exact hK)
 ·obtain ⟨t,ly,pre,n,q,rfl,htm,rfl,⟨rfl,hp1,hl,hd,hz⟩,hK⟩:=h;refine W.cast (htm▸AAc9 _ tm 0) (Zbg _) ?_;exact W.rounds (wrVr2 (Q:=fun e s=>K e s.tm s.hp s.b) t ly pre hp1 hl hd (fun h=>by rw [hz,h] at hK;exact hK) fun h=>by rw [hz,h] at hK;exact hK)
 ·obtain ⟨t,ly,l,n,q,rfl,htm,rfl,⟨hn,hz⟩,hK⟩:=h;refine W.cast (htm▸AAc9 _ tm 0) (Zbg _) ?_;exact W.rounds (wrVr3 (Q:=fun e s=>K e s.tm s.hp s.b) t ly l n hn (fun h=>by rw [hz,h] at hK;exact hK) fun h=>by rw [hz,h] at hK;exact hK)
 ·exact h.elim
def TVr:CT:= [(70,BRy9)]
theorem CJt9:AAb9 prog TVr:=Zag BIn9 Zai
abbrev Qz70 (v0:Nat):=Zab::Zab::Zae 0 0::Zae 1 0::Zad (bo false)::Zbh 2 0 v0 1::Zab::Zab::Zad (i64 0)::bds 188 []
abbrev Qz72 (v0:Nat):=Zab::Zab::Zae 0 0::Zae 1 0::Zad (bo false)::Zbh 2 0 v0 1::Zab::Zad (i64 0)::bds 189 []
abbrev Qz77 (v0:Nat):=Zab::Zab::Zae 0 0::Zae 1 0::Zad (bo false)::Zbh 2 0 v0 1::bds 3 (Zad (i64 0)::bds 187 [])
theorem BMd9 (t:TabT) (ly:LayT):wpFn prog ⟨TVr, [],wlVr,y,false⟩ 100 f20 [tabA t,layA ly] b R=(∃(l0:LayT) (z1:Bool), [Zan (Qz3 ly)]= [Zan (Qz3 l0)]∧z1=layOk l0∧BIf (!z1) (R (.d (bo false)) b) (BIf (decide (Zac .i64 (((Zaa (rowsU (Zbv t)):Nat):Int)+((Zaa (rowsG (Zbx t)):Nat):Int))>(24:Int))) (R (.d (bo false)) b) (BIf (decide (((Zaa (rowsA (Zck t)):Nat):Int)>(24:Int))) (R (.d (bo false)) b) (BIf (decide ((0:Int)≤Zbr ly)&&decide (Zbr ly≤Zbr ly)&&decide ((8:Int)*Zbr ly≤(281474976710656:Int))&&decide (Zbr ly≤(9223372036854775807:Int))&&true&&true&&true) (∃(t2:TabT) (ly3:LayT) (pre4:List Int) (n5:Nat) (q6:Bool),Zaq lpVr0=Zaq lpVr0∧(Zab::Zab::Zae 0 0::Zae 1 0::Zad (bo false)::Zbh 2 0 (Zak (Zbr ly)) 1::Zad (i64 0)::bds 190 [])=(Zab::Zab::Zae 0 0::Zae 1 0::Zad (bo false)::Zbh 2 0 n5 1::Zad (i64 0)::bds 190 [])∧ [bk (Qz1 t),bk (Qz3 ly),Blk.mk (flatA (Zam (Zak (Zbr ly)) [i64 0])) false true 0]= [bk (Qz1 t2),bk (Qz3 ly3),Blk.mk (cntC pre4 n5) false true 0]∧(n5=Zak (Zbr ly3)∧Zaa pre4≤1000∧Zaa (Zbv t2)≤9223372036854775807∧((1:Int)≤Zbr ly3∧Zbr ly3≤(60:Int))∧q6=Zcp (AAg9 none (Zbv t2)) (badUr ly3))∧BIf q6 (∀(i:Int) (cs:List AV),R (.d (bo false)) b) (∀(i:Int),∃(t7:TabT) (ly8:LayT) (pre9:List Int) (n10:Nat) (q11:Bool),Zaq lpVr1=Zaq lpVr1∧(Qz72 n5)=(Qz72 n10)∧ [bk (Qz1 t2),bk (Qz3 ly3),Blk.mk (cntC (pre4++List.map (fun (x12:UseT)=>UseT.sl x12) (Zbv t2)) n5) false true 0]= [bk (Qz1 t7),bk (Qz3 ly8),Blk.mk (cntC pre9 n10) false true 0]∧(n10=Zak (Zbr ly8)∧Zaa pre9≤1000∧Zaa (Zbx t7)≤9223372036854775807∧((1:Int)≤Zbr ly8∧Zbr ly8≤(60:Int))∧q11=Zcp (AAg9 none (Zbx t7)) (badGr ly8))∧BIf q11 (∀(i:Int) (cs:List AV),R (.d (bo false)) b) (∀(i:Int),∃(t13:TabT) (ly14:LayT) (pre15:List Int) (n16:Nat) (q17:Bool),Zaq lpVr2=Zaq lpVr2∧(Qz70 n10)=(Qz70 n16)∧ [bk (Qz1 t7),bk (Qz3 ly8),Blk.mk (cntC (pre9++List.map (fun (x18:GraT)=>GraT.sl x18) (Zbx t7)) n10) false true 0]= [bk (Qz1 t13),bk (Qz3 ly14),Blk.mk (cntC pre15 n16) false true 0]∧(n16=Zak (Zbr ly14)∧Zaa pre15≤1000∧Zaa (Zck t13)≤9223372036854775807∧((1:Int)≤Zbr ly14∧Zbr ly14≤(60:Int))∧q17=Zcp (AAg9 none (Zck t13)) (badAr ly14))∧BIf q17 (∀(i:Int) (cs:List AV),R (.d (bo false)) b) (∀(i:Int),∃(t19:TabT) (ly20:LayT) (l21:List Int) (n22:Nat) (q23:Bool),Zaq lpVr3=Zaq lpVr3∧(Qz77 n16)=(Qz77 n22)∧ [bk (Qz1 t13),bk (Qz3 ly14),Blk.mk (cntC (pre15++List.map (fun (x24:AskT)=>Zde x24) (Zck t13)) n16) false true 0]= [bk (Qz1 t19),bk (Qz3 ly20),Blk.mk (cntC l21 n22) false true 0]∧(n22<1000∧q23=Zcp (cntL l21 n22) fun (c25:Int)=>decide (c25>(1:Int)))∧BIf q23 (∀(i:Int) (cs:List AV),R (.d (bo false)) b) (∀(i:Int),R (.d (bo true)) b))))) False)))):=by kernel_rfl
def AOy9 (t:TabT):List Int:=t.us.map (·.sl)++t.gs.map (·.sl)++t.ak.map (·.sl)
def AKo9 (t:TabT) (ly:LayT):Bool:=layOk ly&&(decide (t.us.length+t.gs.length≤24)&&(decide (t.ak.length≤24)&&(!(AAg9 none t.us).any (badUr ly)&&(!(AAg9 none t.gs).any (badGr ly)&&(!(AAg9 none t.ak).any (badAr ly)&& !(cntL (AOy9 t) ly.da.toNat).any (fun c=>decide (c>1)))))))
def TabMx (t:TabT):Prop:=t.us.length≤9223372036854775807∧t.gs.length≤9223372036854775807∧t.ak.length≤9223372036854775807
theorem BSy9 {α:Type} {ok:α→Bool} {sl:α→Int} {bad:Option α×α→Bool} {da:Int} (hd:da≤60) (hb:∀p,bad p=(!ok p.2||(match p.1 with|some w=>decide (sl w≥sl p.2)|none=>false))) (hs:∀x,ok x=true→0≤sl x∧sl x<da) {l:List α} (h:(AAg9 none l).any bad=false):l.length≤60:=by
 have hc:=(AGc9 hb _ _).1 h;rcases AJg9 (sl:=sl) hd 0 (by omega) hc.2.2 (fun x hx=>by have:=hs x (hc.1 x hx);omega) with h5|h5
 ·omega
 ·subst h5;simp
theorem BTt9 {a b:Int} (h:Zac Zbb (a+b)>24) (h1:0≤a) (h2:0≤b):a+b>24:=by
 simp [Zac,IntKind.bits,IntKind.signed] at h;omega
def BHx9:CF:=fun args K=>∃(t:TabT) (ly:LayT) (q:Bool),args= [tabA t,layA ly]∧(TabMx t∧q=AKo9 t ly)∧K (.d (bo q))
theorem ATa9:COk 20 BHx9:=by
 rintro _ K ⟨t,ly,_,rfl,⟨h,rfl⟩,hk⟩;refine ⟨_, ?_,hk⟩;refine pcW @wlVr CJt9 CAw9 func20 fun Ev bb=> ?_;rw [BMd9,AAe9,AAd9,AAi9];obtain ⟨t1,t2,t3⟩:=h;refine ⟨ly,_,rfl,rfl,Zax (fun c1=> ?_) fun c1=>Zax (fun c2=> ?_) fun c2=>Zax (fun c3=> ?_) fun c3=> ?_⟩
 ·rw [AKo9,show layOk ly=false by simpa using c1];rfl
 ·rw [AKo9,show decide (t.us.length+t.gs.length≤24)=false from decide_eq_false (by have:=BTt9 (of_decide_eq_true c2) (by omega) (by omega);omega),Zdb,Zcn]
 ·rw [AKo9,show decide (t.ak.length≤24)=false from decide_eq_false (by have:=of_decide_eq_true c3;omega),Zdb,Zcn,Zcn]
 have d1:layOk ly=true:=by simpa using c1
 have hly:1≤ly.da∧ly.da≤60:=by simp only [layOk,Zal,decide_eq_true_eq] at d1;omega
 have d3:t.ak.length≤24:=by have:=of_decide_eq_false c3;omega
 have e:AKo9 t ly=(decide (t.us.length+t.gs.length≤24)&&(!(AAg9 none t.us).any (badUr ly)&&(!(AAg9 none t.gs).any (badGr ly)&&(!(AAg9 none t.ak).any (badAr ly)&& !(cntL (AOy9 t) ly.da.toNat).any (fun c=>decide (c>1)))))):=by
  rw [AKo9,d1,decide_eq_true d3,Bool.true_and,Bool.true_and]
 rw [e];refine Zas (by simp only [Bool.and_true,Zal,decide_eq_true_eq];omega) ⟨t,ly, [],ly.da.toNat,_,rfl,rfl, ?_,⟨rfl,by simp,t1,hly,rfl⟩,Zax (fun c4 _ _=> ?_) fun c4 _=> ?_⟩
 ·rw [BXx9]
 ·rw [c4,Bool.not_true,Zdb,Zcn]
 have l1:=BSy9 (ok:=fun x:UseT=>useOk x ly) (sl:=fun x:UseT=>x.sl) hly.2 (fun p=>by obtain ⟨o,x⟩:=p;cases o<;>rfl) (fun x h=>BDy9 h) c4;refine ⟨t,ly,_,ly.da.toNat,_,rfl,rfl,rfl,⟨rfl, ?_,t2,hly,rfl⟩,Zax (fun c5 _ _=> ?_) fun c5 _=> ?_⟩
 ·simp;omega
 ·rw [c4,c5,Bool.not_true,Zdb,Zcn,Zcn]
 have l2:=BSy9 (ok:=fun x:GraT=>graOk x ly) (sl:=fun x:GraT=>x.sl) hly.2 (fun p=>by obtain ⟨o,x⟩:=p;cases o<;>rfl) (fun x h=>BGn9 h) c5;have d2:t.us.length+t.gs.length≤24:=by
  have:=of_decide_eq_false c2;rw [show Zac Zbb ((t.us.length:Int)+(t.gs.length:Int))=(t.us.length:Int)+(t.gs.length:Int) from AAw9 (by omega) (by omega)] at this;omega
 rw [decide_eq_true d2];refine ⟨t,ly,_,ly.da.toNat,_,rfl,rfl,rfl,⟨rfl, ?_,by omega,hly,rfl⟩,Zax (fun c6 _ _=> ?_) fun c6 _=>⟨t,ly,AOy9 t,ly.da.toNat,_,rfl,rfl,rfl,⟨by omega,rfl⟩,Zax (fun c7 _ _=> ?_) fun c7 _=> ?_⟩⟩
 ·simp;omega
 ·rw [c4,c5,c6];rfl
 ·rw [c4,c5,c6,c7];rfl
 ·rw [c4,c5,c6,c7];rfl
def ACh9 (t:TabT) (ly:LayT):Prop:=layOk ly=true∧(t.us.length+t.gs.length≤24∧t.ak.length≤24)∧((∀x∈t.us,useOk x ly=true)∧t.us.Pairwise (fun a b=>a.sl<b.sl))∧((∀x∈t.gs,graOk x ly=true)∧t.gs.Pairwise (fun a b=>a.sl<b.sl))∧((∀x∈t.ak,askOk x ly=true)∧t.ak.Pairwise (fun a b=>a.sl<b.sl))∧(AOy9 t).Nodup
theorem ASy9 (l:List Int) (k:Int):cntS l k=(l.count k:Nat):=by
 rw [cntS,List.count,List.countP_eq_length_filter]
theorem APh9 {l:List Int}:l.Nodup↔∀k,cntS l k≤1:=by
 rw [List.nodup_iff_count];constructor
 ·intro h k;rw [ASy9];have:=h k;omega
 ·intro h k;have:=h k;rw [ASy9] at this;omega
theorem BDx9 {t:TabT} {ly:LayT}:AKo9 t ly=true↔ACh9 t ly:=by
 unfold AKo9 ACh9;have w1:=AGc9 (ok:=fun x:UseT=>useOk x ly) (sl:=fun x=>x.sl) (bad:=badUr ly) (fun p=>by obtain ⟨o,x⟩:=p;cases o<;>rfl) t.us none;have w2:=AGc9 (ok:=fun x:GraT=>graOk x ly) (sl:=fun x=>x.sl) (bad:=badGr ly) (fun p=>by obtain ⟨o,x⟩:=p;cases o<;>rfl) t.gs none;have w3:=AGc9 (ok:=fun x:AskT=>askOk x ly) (sl:=fun x=>x.sl) (bad:=badAr ly) (fun p=>by obtain ⟨o,x⟩:=p;cases o<;>rfl) t.ak none;simp only [Zal,decide_eq_true_eq,Zcb,w1,w2,w3];constructor
 ·rintro ⟨h1,h2,h3,⟨u1,_,u2⟩,⟨g1,_,g2⟩,⟨a1,_,a2⟩,h4⟩;refine ⟨h1,⟨h2,h3⟩,⟨u1,u2⟩,⟨g1,g2⟩,⟨a1,a2⟩,APh9.2 fun k=> ?_⟩;have hin:∀x∈AOy9 t,0≤x∧x<ly.da:=fun x hx=>by
   simp only [AOy9,Zca,Zbf] at hx;rcases hx with (⟨y,hy,rfl⟩|⟨y,hy,rfl⟩)|⟨y,hy,rfl⟩
   ·exact BDy9 (u1 y hy)
   ·exact BGn9 (g1 y hy)
   ·exact BKk9 (a1 y hy)
  by_cases hk:0≤k∧k<ly.da
  ·rw [List.any_eq_false] at h4;have h5:=h4 (cntS (AOy9 t) k) (by
    rw [cntL,Zbf];exact ⟨k.toNat,List.mem_range.2 (by omega),by rw [Int.toNat_of_nonneg hk.1]⟩)
   simpa using h5
  ·have h5:(AOy9 t).filter (fun x=>x==k)= []:=by
    rw [List.filter_eq_nil_iff];intro x hx he;have h6:=hin x hx;have h7:x=k:=by simpa using he
    subst h7;exact hk h6
   rw [cntS,h5];decide
 ·rintro ⟨h1,⟨h2,h3⟩,⟨u1,u2⟩,⟨g1,g2⟩,⟨a1,a2⟩,h4⟩;refine ⟨h1,h2,h3,⟨u1,by simp,u2⟩,⟨g1,by simp,g2⟩,⟨a1,by simp,a2⟩, ?_⟩;rw [List.any_eq_false];intro c hc;rw [cntL,Zbf] at hc;obtain ⟨s,_,rfl⟩:=hc;have:=APh9.1 h4 (s:Int);simpa using this
theorem AXl9 {h:Int×Int} {k:Int}:∀ {l:Cnt},(∀p∈l,p.1≠h.1)→(insC h l).find? (fun p=>p.1==k)=if h.1=k then some h else l.find? (fun p=>p.1==k)
 | [],_=>by
  rw [insC,List.find?_cons];by_cases hk:h.1=k
  ·rw [if_pos hk,show (h.1==k)=true by simpa using hk]
  ·rw [if_neg hk,show (h.1==k)=false by simpa using hk]
 | x::r,hl=>by
  rw [insC];have ih:=AXl9 (h:=h) (k:=k) (l:=r) fun p hp=>hl p (Zch _ hp);have hx:=hl x (Zby);split
  ·rw [List.find?_cons];by_cases hk:h.1=k
   ·rw [if_pos hk,show (h.1==k)=true by simpa using hk]
   ·rw [if_neg hk,show (h.1==k)=false by simpa using hk]
  ·rw [List.find?_cons,List.find?_cons,ih];by_cases hk:h.1=k
   ·have:¬x.1=k:=fun e=>hx (e.trans hk.symm);rw [if_pos hk,if_pos hk,show (x.1==k)=false by simpa using this]
   ·rw [if_neg hk,if_neg hk]
theorem BVu9 (x v k:Int) (ts:Cnt):getC k (putC (x,v) ts)=if x=k then v else getC k ts:=by
 unfold getC putC;rw [AXl9 (fun p hp=>by
  have:=(Zeb.1 hp).2;simpa using this),List.find?_filter]
 by_cases hk:x=k
 ·simp [hk]
 ·rw [if_neg hk,if_neg hk];congr 2;congr 1;funext p;by_cases hp:p.1=k
  ·have:¬k=x:=fun e=>hk e.symm;simp [hp,this]
  ·simp [hp]
def CntIs (ts:Cnt) (l:List Int):Prop:=∀k,getC k ts=cntS l k
theorem CntIs.inc {ts:Cnt} {l:List Int} (h:CntIs ts l) (hl:l.length<1000000) (x:Int):CntIs (incC x ts) (l++ [x]):=fun k=>by
 have hb:=BRs9 l x;rw [incC,BVu9,AVg9,h x,h k,AAw9 (by omega) (by omega)];by_cases hk:x=k
 ·subst hk;simp
 ·simp [hk]
theorem ALr9 {α:Type} {ok:α→Bool} {sl:α→Int}:∀ {l:List α} {last:Int} {ts:Cnt},(ABg9 ok sl last l ts).1=true↔(∀x∈l,ok x=true)∧(∀x∈l,last<sl x)∧l.Pairwise (fun a b=>sl a<sl b):=by
 intro l;induction l with
 |nil=>intro last ts;simp [ABg9]
 | cons x r ih=>
  intro last ts;refine ⟨AGf9,fun ⟨h1,h2,h3⟩=> ?_⟩;obtain ⟨h4,h5⟩:=Zdh.1 h3;have hx:=h2 x (Zby);rw [ABg9,if_neg (by rw [h1 x (Zby)];decide),if_neg (by omega)];exact ih.2 ⟨fun y hy=>h1 y (Zch _ hy),h4,h5⟩
theorem AIp9 {α:Type} {ok:α→Bool} {sl:α→Int}:∀ {l:List α} {last:Int} {ts:Cnt} {pre:List Int},(ABg9 ok sl last l ts).1=true→CntIs ts pre→pre.length+l.length<1000000→CntIs (ABg9 ok sl last l ts).2 (pre++l.map sl)
 | [],last,ts,pre,_,h,_=>by simpa [ABg9] using h
 | x::r,last,ts,pre,h1,h,hl=>by
  unfold ABg9 at h1 ⊢;split at h1
  ·cases h1
  ·rename_i c1;rw [if_neg c1];split at h1
   ·cases h1
   ·rename_i c2;rw [if_neg c2];have h2:=AIp9 (pre:=pre++ [sl x]) h1 (h.inc (by simp at hl;omega) (sl x)) (by simp at hl ⊢;omega);rw [Zbm] at h2;exact h2
theorem CEk9 {ts:Cnt} {l:List Int} (h:CntIs ts l):okC ts=true↔l.Nodup:=by
 rw [APh9,okC,List.all_eq_true];constructor
 ·intro h1 k;rw [←h k];cases hf:ts.find? (fun p=>p.1==k) with
  |none=>rw [getC,hf];decide
  | some p=>
   have hm:=List.mem_of_find?_eq_some hf;have hk:p.1=k:=by simpa using List.find?_some hf
   have:=h1 p hm;rw [hk] at this;simpa using this
 ·intro h1 p _;have:=h1 p.1;rw [←h p.1] at this;simpa using this
theorem ADj9 {t:TabT} {ly:LayT}:ACq9 t ly=true↔ACh9 t ly:=by
 have key:layOk ly=true→t.us.length+t.gs.length≤24→t.ak.length≤24→((ABy9 ly t.us []).1=true)→((ADb9 ly t.gs (ABy9 ly t.us []).2).1=true)→((AEp9 ly t.ak (ADb9 ly t.gs (ABy9 ly t.us []).2).2).1=true)→
  (okC (AEp9 ly t.ak (ADb9 ly t.gs (ABy9 ly t.us []).2).2).2=true↔(AOy9 t).Nodup):=fun _ h1 h2 a b c=>by
  have c1:=AIp9 (pre:= []) (show (ABg9 _ _ _ _ _).1=true from a) (fun k=>rfl) (by simp;omega);have c2:=AIp9 (show (ABg9 _ _ _ _ _).1=true from b) c1 (by simp;omega);have c3:=AIp9 (show (ABg9 _ _ _ _ _).1=true from c) c2 (by simp;omega);exact CEk9 c3
 have ly':layOk ly=true↔(1≤ly.no∧ly.no≤60)∧(1≤ly.da∧ly.da≤60):=by
  simp only [layOk,Zal,decide_eq_true_eq];omega
 constructor
 ·intro h;have h1:=ABf9 h;have h2:=ALh9 h;have h3:=AIb9 h;have h5:(ABy9 ly t.us []).1=true∧(ADb9 ly t.gs (ABy9 ly t.us []).2).1=true∧(AEp9 ly t.ak (ADb9 ly t.gs (ABy9 ly t.us []).2).2).1=true:=by
   unfold ACq9 at h;split at h<;>try (cases h;done)
   split at h<;>try (cases h;done)
   split at h<;>try (cases h;done)
   split at h<;>try (cases h;done)
   split at h<;>try (cases h;done)
   split at h<;>try (cases h;done)
   split at h<;>try (cases h;done)
   rename_i h1;split at h<;>try (cases h;done)
   rename_i h2;split at h<;>try (cases h;done)
   rename_i h3;simp only [Zcb,Bool.not_eq_false] at h1 h2 h3;exact ⟨h1,h2,h3⟩
  exact ⟨ly'.2 h1,h2,h3.1,h3.2.1,h3.2.2.1,(key (ly'.2 h1) h2.1 h2.2 h5.1 h5.2.1 h5.2.2).1 h3.2.2.2⟩
 ·rintro ⟨h1,⟨h2,h3⟩,⟨u1,u2⟩,⟨g1,g2⟩,⟨a1,a2⟩,h4⟩;obtain ⟨l1,l2⟩:=ly'.1 h1;have s1:(ABy9 ly t.us []).1=true:=ALr9.2 ⟨u1,fun x hx=>by have:=BDy9 (u1 x hx);omega,u2⟩;have s2:(ADb9 ly t.gs (ABy9 ly t.us []).2).1=true:=ALr9.2 ⟨g1,fun x hx=>by have:=BGn9 (g1 x hx);omega,g2⟩;have s3:(AEp9 ly t.ak (ADb9 ly t.gs (ABy9 ly t.us []).2).2).1=true:=ALr9.2 ⟨a1,fun x hx=>by have:=BKk9 (a1 x hx);omega,a2⟩;have s4:=(key h1 h2 h3 s1 s2 s3).2 h4;unfold ACq9;rw [if_neg (by omega),if_neg (by omega),if_neg (by omega),if_neg (by omega),if_neg (by omega),if_neg (by omega),s1,s2,s3,s4];rfl
theorem AOq9 (t:TabT) (ly:LayT):AKo9 t ly=ACq9 t ly:=Bool.eq_iff_iff.2 (BDx9.trans ADj9.symm)
def TRv:CT:= [(20,BHx9),(69,cNb)]
theorem CKd9:AAb9 prog TRv:=Zag ATa9 (Zag CJm9 Zai)
theorem BMv9 (ly:LayT) (t:TabT) (me:Int) (l:List NearT) (fr:Int):wpFn prog ⟨TRv, [],wl,y,false⟩ 100 f19 [layA ly,tabA t, .d (i64 me), .d (.sl 31 (rowsN l)), .d (i64 fr)] b R=(∃(t0:TabT) (ly1:LayT) (q2:Bool), [Zan (Qz1 t),Zan (Qz3 ly)]= [Zan (Qz1 t0),Zan (Qz3 ly1)]∧(TabMx t0∧q2=AKo9 t0 ly1)∧BIf (!q2) (R (.d (bo false)) b) (BIf (decide (me<(0:Int))) (R (.d (bo false)) b) (BIf (decide (me≥LayT.no ly)) (R (.d (bo false)) b) (BIf (decide (fr<(0:Int))) (R (.d (bo false)) b) (BIf (decide (fr>(999999992:Int))) (R (.d (bo false)) b) (∃(ly3:LayT) (l4:List NearT) (me5:Int) (fr6:Int) (q7:Bool), [Zan (Qz3 ly),Zad (i64 me),Zad (Zaj 31 (rowsN l)),Zad (i64 fr)]= [Zan (Qz3 ly3),Zad (i64 me5),Zad (Zaj 31 (rowsN l4)),Zad (i64 fr6)]∧(Zaa l4≤9223372036854775807∧q7=nbS ly3 l4 me5 fr6)∧R (.d (bo q7)) b)))))):=by kernel_rfl
def AXx9:CF:=fun args K=>∃(ly:LayT) (t:TabT) (me:Int) (l:List NearT) (fr:Int) (q:Bool),args= [layA ly,tabA t, .d (i64 me), .d (.sl 31 (rowsN l)), .d (i64 fr)]∧(TabMx t∧l.length≤9223372036854775807∧q=newS ly t me l fr)∧K (.d (bo q))
theorem AMw9:COk 19 AXx9:=by
 rintro _ K ⟨ly,t,me,l,fr,_,rfl,⟨ht,hl,rfl⟩,hk⟩;refine ⟨_, ?_,hk⟩;refine pcO CKd9 func19 fun Ev bb=> ?_;rw [BMv9];refine ⟨t,ly,_,rfl,⟨ht,rfl⟩,Zax (fun c1=> ?_) fun c1=> ?_⟩
 ·have h1:ACq9 t ly=false:=by rw [←AOq9];simpa using c1
  rw [newS,h1];rfl
 have h1:ACq9 t ly=true:=by rw [←AOq9];simpa using c1
 have hv:=ABf9 h1;have ew:Zac Zbb (ly.no - 1)=ly.no - 1:=AAw9 (by omega) (by omega);have e:newS ly t me l fr=(inN me (ly.no - 1)&&(inN fr 999999992&&nbS ly l me fr)):=by rw [newS,h1,ew];rfl
 rw [e];refine Zax (fun c2=> ?_) fun c2=>Zax (fun c3=> ?_) fun c3=>Zax (fun c4=> ?_) fun c4=>Zax (fun c5=> ?_) fun c5=>⟨ly,l,me,fr,_,rfl,⟨hl,rfl⟩, ?_⟩
 ·have:=of_decide_eq_true c2;rw [show inN me (ly.no - 1)=false by rw [inN,decide_eq_false (by omega)];rfl];rfl
 ·have:=of_decide_eq_true c3;rw [show inN me (ly.no - 1)=false by rw [inN,decide_eq_false (p:=me≤ly.no - 1) (by omega),Zcn]];rfl
 ·have:=of_decide_eq_true c4;rw [show inN fr 999999992=false by rw [inN,decide_eq_false (by omega)];rfl,Zdb,Zcn]
 ·have:=of_decide_eq_true c5;rw [show inN fr 999999992=false by rw [inN,decide_eq_false (p:=fr≤999999992) (by omega),Zcn],Zdb,Zcn]
 ·have a2:=of_decide_eq_false c2;have a3:=of_decide_eq_false c3;have a4:=of_decide_eq_false c4;have a5:=of_decide_eq_false c5;rw [show inN me (ly.no - 1)=true by rw [inN,decide_eq_true (by omega),decide_eq_true (by omega)];rfl,show inN fr 999999992=true by rw [inN,decide_eq_true (by omega),decide_eq_true (by omega)];rfl];rfl
def h0:TabT:=⟨[], [], []⟩
def hb:TabT:=⟨[], [], [⟨1,4,0⟩,⟨2,4,0⟩]⟩
def ha:TabT:=⟨[], [⟨1,4,1,1,9⟩,⟨2,4,1,1,9⟩], []⟩
def hc:TabT:=⟨[⟨1,4,0,1⟩,⟨2,4,0,1⟩], [], []⟩
def hd:TabT:=⟨[], [⟨1,4,1,1,11⟩,⟨2,4,1,1,11⟩], []⟩
def hl:LayT:=⟨2,4⟩
theorem heB:askS hl h0 1 [toldN 0 h0 0] 0 2 0=hb:=by kernel_rfl
theorem heA:AEj9 hl h0 0 [toldN 1 hb 1] 1=ha:=by kernel_rfl
theorem heC:takeS hl hb 1 [toldN 0 ha 2] 2=hc:=by kernel_rfl
theorem heD:AEj9 hl ha 0 [toldN 1 hc 3] 3=hd:=by kernel_rfl
def CFx9:CF:=fun args K=>∃(t:TabT) (me fr:Int) (q:List NearT),LeVs args [.d (i64 me),tabA t, .d (i64 fr)]∧q= [toldN me t fr]∧K (.d (.sl 31 (rowsN q)))
theorem BPe9:COk 32 CFx9:=by
 rintro args K ⟨t,me,fr,_,hl,rfl,hk⟩;obtain ⟨x,hx,hk⟩:=BYf9 _ _ ⟨t,me,fr,_,rfl,rfl,hk⟩;exact ⟨x,hx.leArgsV hl,hk⟩
def cAskV:CF:=fun args K=>∃(ly:LayT) (t q:TabT) (me:Int) (l:List NearT) (pe many fr:Int),LeVs args [layA ly,tabA t, .d (i64 me), .d (.sl 31 (rowsN l)), .d (i64 pe), .d (i64 many), .d (i64 fr)]∧(TabOk t∧l.length<1000000∧(∀x∈l,ANb9 x)∧q=askS ly t me l pe many fr)∧K (tabA q)
theorem BYv9:COk 12 cAskV:=by
 rintro args K ⟨ly,t,q,me,l,pe,many,fr,hl,h,hk⟩;obtain ⟨x,hx,hk⟩:=BSv9 _ _ ⟨ly,t,q,me,l,pe,many,fr,rfl,h,hk⟩;exact ⟨x,hx.leArgsV hl,hk⟩
def BSd9:CF:=fun args K=>∃(ly:LayT) (t q:TabT) (me:Int) (l:List NearT) (fr:Int),LeVs args [layA ly,tabA t, .d (i64 me), .d (.sl 31 (rowsN l)), .d (i64 fr)]∧(TabOk t∧l.length<1000000∧(∀x∈l,ACi9 x)∧q=AEj9 ly t me l fr)∧K (tabA q)
theorem BJe9:COk 13 BSd9:=by
 rintro args K ⟨ly,t,q,me,l,fr,hl,h,hk⟩;obtain ⟨x,hx,hk⟩:=AYk9 _ _ ⟨ly,t,q,me,l,fr,rfl,h,hk⟩;exact ⟨x,hx.leArgsV hl,hk⟩
def CFz9:CF:=fun args K=>∃(ly:LayT) (t q:TabT) (me:Int) (l:List NearT) (fr:Int),LeVs args [layA ly,tabA t, .d (i64 me), .d (.sl 31 (rowsN l)), .d (i64 fr)]∧(TabOk t∧l.length<1000000∧(∀x∈l,ACi9 x)∧q=takeS ly t me l fr)∧K (tabA q)
theorem BPh9:COk 14 CFz9:=by
 rintro args K ⟨ly,t,q,me,l,fr,hl,h,hk⟩;obtain ⟨x,hx,hk⟩:=BIb9 _ _ ⟨ly,t,q,me,l,fr,rfl,h,hk⟩;exact ⟨x,hx.leArgsV hl,hk⟩
def CGc9:CF:=fun args K=>∃(t s:TabT) (q:Bool),LeVs args [tabA t,tabA s]∧(TabLq t∧q=sameS t s)∧K (.d (bo q))
theorem BPk9:COk 15 CGc9:=by
 rintro args K ⟨t,s,q,hl,h,hk⟩;obtain ⟨x,hx,hk⟩:=BIg9 _ _ ⟨t,s,q,rfl,h,hk⟩;exact ⟨x,hx.leArgsV hl,hk⟩
def THd:CT:= [(12,cAskV),(13,BSd9),(14,CFz9),(15,CGc9),(32,CFx9)]
theorem CKq9:AAb9 prog THd:=Zag BYv9 (Zag BJe9 (Zag BPh9 (Zag BPk9 (Zag BPe9 Zai))))
abbrev Qz25 (v0:TabT) (v1:List NearT):List AV:= [Zan [Zad (i64 2),Zad (i64 4)],Zan (Qz1 v0),Zad (i64 1),Zad (Zaj 31 (rowsN v1)),Zad (i64 10)]
abbrev Qz43 (v0:Int) (v1:TabT) (v2:Int):List AV:= [Zad (i64 v0),Zan (Qz1 v1),Zad (i64 v2)]
abbrev Qz52 (v0:TabT):List AV:= [Zad (i64 0),Zan (Qz1 v0),Zad (i64 9)]
theorem CEw9:wpFn prog ⟨THd, [],wl,y,false⟩ 100 f10 [] b R=(∃(t0:TabT) (me1:Int) (fr2:Int) (q3:List NearT),LeVs [Zad (i64 0),Zan Qz4,Zad (i64 0)] (Qz43 me1 t0 fr2)∧q3= [toldN me1 t0 fr2]∧∃(ly4:LayT) (t5:TabT) (q6:TabT) (me7:Int) (l8:List NearT) (pe9:Int) (many10:Int) (fr11:Int),LeVs [Zan [Zad (i64 2),Zad (i64 4)],Zan Qz4,Zad (i64 1),Zad (Zaj 31 (rowsN q3)),Zad (i64 0),Zad (i64 2),Zad (i64 0)] [Zan (Qz3 ly4),Zan (Qz1 t5),Zad (i64 me7),Zad (Zaj 31 (rowsN l8)),Zad (i64 pe9),Zad (i64 many10),Zad (i64 fr11)]∧(TabOk t5∧Zaa l8<1000000∧(∀(x:NearT),x∈l8→ANb9 x)∧q6=askS ly4 t5 me7 l8 pe9 many10 fr11)∧∃(t12:TabT) (me13:Int) (fr14:Int) (q15:List NearT),LeVs [Zad (i64 1),Zan (Qz1 q6),Zad (i64 1)] (Qz43 me13 t12 fr14)∧q15= [toldN me13 t12 fr14]∧∃(ly16:LayT) (t17:TabT) (q18:TabT) (me19:Int) (l20:List NearT) (fr21:Int),LeVs [Zan [Zad (i64 2),Zad (i64 4)],Zan Qz4,Zad (i64 0),Zad (Zaj 31 (rowsN q15)),Zad (i64 1)] (Qz8 ly16 t17 me19 l20 fr21)∧(TabOk t17∧Zaa l20<1000000∧(∀(x:NearT),x∈l20→ACi9 x)∧q18=AEj9 ly16 t17 me19 l20 fr21)∧∃(t22:TabT) (me23:Int) (fr24:Int) (q25:List NearT),LeVs [Zad (i64 0),Zan (Qz1 q18),Zad (i64 2)] (Qz43 me23 t22 fr24)∧q25= [toldN me23 t22 fr24]∧∃(ly26:LayT) (t27:TabT) (q28:TabT) (me29:Int) (l30:List NearT) (fr31:Int),LeVs [Zan [Zad (i64 2),Zad (i64 4)],Zan (Qz1 q6),Zad (i64 1),Zad (Zaj 31 (rowsN q25)),Zad (i64 2)] (Qz8 ly26 t27 me29 l30 fr31)∧(TabOk t27∧Zaa l30<1000000∧(∀(x:NearT),x∈l30→ACi9 x)∧q28=takeS ly26 t27 me29 l30 fr31)∧∃(t32:TabT) (me33:Int) (fr34:Int) (q35:List NearT),LeVs [Zad (i64 1),Zan (Qz1 q28),Zad (i64 3)] (Qz43 me33 t32 fr34)∧q35= [toldN me33 t32 fr34]∧∃(ly36:LayT) (t37:TabT) (q38:TabT) (me39:Int) (l40:List NearT) (fr41:Int),LeVs [Zan [Zad (i64 2),Zad (i64 4)],Zan (Qz1 q18),Zad (i64 0),Zad (Zaj 31 (rowsN q35)),Zad (i64 3)] (Qz8 ly36 t37 me39 l40 fr41)∧(TabOk t37∧Zaa l40<1000000∧(∀(x:NearT),x∈l40→ACi9 x)∧q38=AEj9 ly36 t37 me39 l40 fr41)∧∃(t42:TabT) (s43:TabT) (q44:Bool),LeVs [Zan (Qz1 q6),Zan [Zad (Zdk (.slice none 0 0)),Zad (Zdk (.slice none 0 0)),AV.full 3 [[i64 1,i64 4,i64 0], [i64 2,i64 4,i64 0]]]] [Zan (Qz1 t42),Zan (Qz1 s43)]∧(TabLt t42∧q44=sameS t42 s43)∧BIf q44 (∃(t45:TabT) (s46:TabT) (q47:Bool),LeVs [Zan (Qz1 q18),Zan [Zad (Zdk (.slice none 0 0)),AV.full 5 [[i64 1,i64 4,i64 1,i64 1,i64 9], [i64 2,i64 4,i64 1,i64 1,i64 9]],Zad (Zdk (.slice none 0 0))]] [Zan (Qz1 t45),Zan (Qz1 s46)]∧(TabLt t45∧q47=sameS t45 s46)∧BIf q47 (∃(t48:TabT) (s49:TabT) (q50:Bool),LeVs [Zan (Qz1 q28),Zan [AV.full 4 [[i64 1,i64 4,i64 0,i64 1], [i64 2,i64 4,i64 0,i64 1]],Zad (Zdk (.slice none 0 0)),Zad (Zdk (.slice none 0 0))]] [Zan (Qz1 t48),Zan (Qz1 s49)]∧(TabLt t48∧q50=sameS t48 s49)∧BIf q50 (BIf (((Zaa (rowsG (Zbx q38)):Nat):Int)==(2:Int)) (∃(x51:Int) (x52:Int) (x53:Int) (x54:Int) (x55:Int),(rowsG (Zbx q38))[0]? =some (Qz27 x51 x52 x53 x54 x55)∧BIf (x55==(11:Int)) (∃(x58:Int) (x59:Int) (x60:Int) (x61:Int) (x62:Int),(rowsG (Zbx q38))[0]? =some (Qz27 x58 x59 x60 x61 x62)∧∃(t65:TabT) (me66:Int) (fr67:Int) (q68:List NearT),LeVs (Qz52 q18) (Qz43 me66 t65 fr67)∧q68= [toldN me66 t65 fr67]∧∃(ly69:LayT) (t70:TabT) (q71:TabT) (me72:Int) (l73:List NearT) (fr74:Int),LeVs (Qz25 q28 q68) (Qz8 ly69 t70 me72 l73 fr74)∧(TabOk t70∧Zaa l73<1000000∧(∀(x:NearT),x∈l73→ACi9 x)∧q71=takeS ly69 t70 me72 l73 fr74)∧BIf (x61==(1:Int)) (BIf (((Zaa (rowsU (Zbv q71)):Nat):Int)==(0:Int)) (∃(ly75:LayT) (t76:TabT) (q77:TabT) (me78:Int) (l79:List NearT) (pe80:Int) (many81:Int) (fr82:Int),LeVs [Zan [Zad (i64 2),Zad (i64 4)],Zan (Qz1 q6),Zad (i64 1),Zad (Zdk (.slice none 0 0)),Zad (i64 0),Zad (i64 2),Zad (i64 0)] [Zan (Qz3 ly75),Zan (Qz1 t76),Zad (i64 me78),Zad (Zaj 31 (rowsN l79)),Zad (i64 pe80),Zad (i64 many81),Zad (i64 fr82)]∧(TabOk t76∧Zaa l79<1000000∧(∀(x:NearT),x∈l79→ANb9 x)∧q77=askS ly75 t76 me78 l79 pe80 many81 fr82)∧R (.d (bo (((Zaa (rowsA (Zck q77)):Nat):Int)==(0:Int)))) b) (R (.d (bo false)) b)) (R (.d (bo false)) b)) (∃(t83:TabT) (me84:Int) (fr85:Int) (q86:List NearT),LeVs (Qz52 q18) (Qz43 me84 t83 fr85)∧q86= [toldN me84 t83 fr85]∧∃(ly87:LayT) (t88:TabT) (q89:TabT) (me90:Int) (l91:List NearT) (fr92:Int),LeVs (Qz25 q28 q86) (Qz8 ly87 t88 me90 l91 fr92)∧(TabOk t88∧Zaa l91<1000000∧(∀(x:NearT),x∈l91→ACi9 x)∧q89=takeS ly87 t88 me90 l91 fr92)∧R (.d (bo false)) b)) (∃(t93:TabT) (me94:Int) (fr95:Int) (q96:List NearT),LeVs (Qz52 q18) (Qz43 me94 t93 fr95)∧q96= [toldN me94 t93 fr95]∧∃(ly97:LayT) (t98:TabT) (q99:TabT) (me100:Int) (l101:List NearT) (fr102:Int),LeVs (Qz25 q28 q96) (Qz8 ly97 t98 me100 l101 fr102)∧(TabOk t98∧Zaa l101<1000000∧(∀(x:NearT),x∈l101→ACi9 x)∧q99=takeS ly97 t98 me100 l101 fr102)∧R (.d (bo false)) b)) (∃(t103:TabT) (me104:Int) (fr105:Int) (q106:List NearT),LeVs (Qz52 q18) (Qz43 me104 t103 fr105)∧q106= [toldN me104 t103 fr105]∧∃(ly107:LayT) (t108:TabT) (q109:TabT) (me110:Int) (l111:List NearT) (fr112:Int),LeVs (Qz25 q28 q106) (Qz8 ly107 t108 me110 l111 fr112)∧(TabOk t108∧Zaa l111<1000000∧(∀(x:NearT),x∈l111→ACi9 x)∧q109=takeS ly107 t108 me110 l111 fr112)∧R (.d (bo false)) b)) (∃(t113:TabT) (me114:Int) (fr115:Int) (q116:List NearT),LeVs (Qz52 q18) (Qz43 me114 t113 fr115)∧q116= [toldN me114 t113 fr115]∧∃(ly117:LayT) (t118:TabT) (q119:TabT) (me120:Int) (l121:List NearT) (fr122:Int),LeVs (Qz25 q28 q116) (Qz8 ly117 t118 me120 l121 fr122)∧(TabOk t118∧Zaa l121<1000000∧(∀(x:NearT),x∈l121→ACi9 x)∧q119=takeS ly117 t118 me120 l121 fr122)∧R (.d (bo false)) b)) (∃(t123:TabT) (me124:Int) (fr125:Int) (q126:List NearT),LeVs (Qz52 q18) (Qz43 me124 t123 fr125)∧q126= [toldN me124 t123 fr125]∧∃(ly127:LayT) (t128:TabT) (q129:TabT) (me130:Int) (l131:List NearT) (fr132:Int),LeVs (Qz25 q28 q126) (Qz8 ly127 t128 me130 l131 fr132)∧(TabOk t128∧Zaa l131<1000000∧(∀(x:NearT),x∈l131→ACi9 x)∧q129=takeS ly127 t128 me130 l131 fr132)∧R (.d (bo false)) b)):=by kernel_rfl
theorem lv0:LeV (.agg [.d (.s (.slice none 0 0)), .d (.s (.slice none 0 0)), .d (.s (.slice none 0 0))]) (tabA h0):=LeV.aggs (.cons (.nil rfl) (.cons (.nil rfl) (.cons (.nil rfl) .nil)))
theorem okH {t:TabT} (h1:t.us.length<10) (h2:t.gs.length<10) (h3:t.ak.length<10):TabOk t:=⟨by omega,by omega,by omega⟩
theorem lqH {t:TabT} (h1:t.us.length<10) (h2:t.gs.length<10) (h3:t.ak.length<10):TabLq t:=⟨by omega,by omega,by omega⟩
theorem nearH {t:TabT} (h1:t.us.length<10) (h2:t.gs.length<10) (h3:t.ak.length<10) (me fr:Int):∀x∈ [toldN me t fr],ACi9 x:=fun x hx=>by
 rw [List.mem_singleton] at hx;subst hx;exact ⟨by simp only [toldN];omega,by simp only [toldN];omega,by simp only [toldN];omega⟩
theorem CJb9 {t:TabT} (h1:t.us.length<10) (h2:t.gs.length<10) (h3:t.ak.length<10) (me fr:Int):∀x∈ [toldN me t fr],ANb9 x:=fun x hx=>by
 rw [List.mem_singleton] at hx;subst hx;exact ⟨by simp only [toldN];omega,by simp only [toldN];omega,by simp only [toldN];omega⟩
theorem heE2:takeS hl hc 1 [toldN 0 ha 9] 10=h0:=by kernel_rfl
theorem heF2:askS hl hb 1 [] 0 2 0=h0:=by kernel_rfl
def cHead (args:List AV) (K:AV→Prop):Prop:=args= []∧K (.d (bo true))
theorem BYq9:COk 10 cHead:=by
 rintro _ K ⟨rfl,hk⟩;refine ⟨_, ?_,hk⟩;refine pcO CKq9 func10 fun Ev bb=> ?_;rw [CEw9];refine ⟨h0,0,0, [toldN 0 h0 0], .cons .rfl (.cons lv0 (.cons .rfl .nil)),rfl, ?_⟩;refine ⟨hl,h0,hb,1, [toldN 0 h0 0],0,2,0, .cons .rfl (.cons lv0 (Zga _)),⟨okH (by decide) (by decide) (by decide),by decide,CJb9 (by decide) (by decide) (by decide) _ _,heB.symm⟩, ?_⟩;refine ⟨hb,1,1, [toldN 1 hb 1],Zga _,rfl, ?_⟩;refine ⟨hl,h0,ha,0, [toldN 1 hb 1],1, .cons .rfl (.cons lv0 (Zga _)),⟨okH (by decide) (by decide) (by decide),by decide,nearH (by decide) (by decide) (by decide) _ _,heA.symm⟩, ?_⟩;refine ⟨ha,0,2, [toldN 0 ha 2],Zga _,rfl, ?_⟩;refine ⟨hl,hb,hc,1, [toldN 0 ha 2],2,Zga _,⟨okH (by decide) (by decide) (by decide),by decide,nearH (by decide) (by decide) (by decide) _ _,heC.symm⟩, ?_⟩;refine ⟨hc,1,3, [toldN 1 hc 3],Zga _,rfl, ?_⟩;refine ⟨hl,ha,hd,0, [toldN 1 hc 3],3,Zga _,⟨okH (by decide) (by decide) (by decide),by decide,nearH (by decide) (by decide) (by decide) _ _,heD.symm⟩, ?_⟩;refine ⟨hb,hb,true, .cons .rfl (.cons (LeV.aggs (.cons (.nil rfl) (.cons (.nil rfl) (.cons .full .nil)))) .nil),⟨lqH (by decide) (by decide) (by decide),(AEw9 hb).symm⟩,Zas rfl ?_⟩;refine ⟨ha,ha,true, .cons .rfl (.cons (LeV.aggs (.cons (.nil rfl) (.cons .full (.cons (.nil rfl) .nil)))) .nil),⟨lqH (by decide) (by decide) (by decide),(AEw9 ha).symm⟩,Zas rfl ?_⟩;refine ⟨hc,hc,true, .cons .rfl (.cons (LeV.aggs (.cons .full (.cons (.nil rfl) (.cons (.nil rfl) .nil)))) .nil),⟨lqH (by decide) (by decide) (by decide),(AEw9 hc).symm⟩,Zas rfl ?_⟩;refine Zas (by decide) ⟨1,4,1,1,11,rfl,Zas (by decide) ⟨1,4,1,1,11,rfl, ?_⟩⟩;refine ⟨ha,0,9, [toldN 0 ha 9],Zga _,rfl, ?_⟩;refine ⟨hl,hc,h0,1, [toldN 0 ha 9],10,Zga _,⟨okH (by decide) (by decide) (by decide),by decide,nearH (by decide) (by decide) (by decide) _ _,heE2.symm⟩,Zas (by decide) (Zas rfl ?_)⟩;exact ⟨hl,hb,h0,1, [],0,2,0, .cons .rfl (.cons .rfl (.cons .rfl (.cons (.nil rfl) (Zga _)))),⟨okH (by decide) (by decide) (by decide),by decide,by simp,heF2.symm⟩,rfl⟩
theorem AFs9 {α:Type} (p:α→Bool) (g:α):∀l:List α,(insP p g l).Perm (g::l)
 | []=> .refl _
 | x::r=>by
  rw [insP];split
  ·exact .refl _
  ·exact ((AFs9 p g r).cons x).trans (List.Perm.swap g x r)
theorem AJz9 {α:Type} {sl:α→Int} {g:α}:∀ {l:List α},l.Pairwise (fun a b=>sl a<sl b)→(∀x∈l,sl x≠sl g)→(insP (fun x=>decide (sl x>sl g)) g l).Pairwise (fun a b=>sl a<sl b)
 | [],_,_=>List.pairwise_singleton _ _
 | x::r,h,hn=>by
  obtain ⟨h1,h2⟩:=Zdh.1 h;have hx:=hn x (Zby);rw [insP];split
  ·rename_i c;have c':=of_decide_eq_true c;refine Zdh.2 ⟨fun y hy=> ?_,h⟩;rcases Zbu.1 hy with rfl|hy
   ·exact c'
   ·have:=h1 y hy;omega
  ·rename_i c;have c':¬sl x>sl g:=fun e=>c (decide_eq_true e);refine Zdh.2 ⟨fun y hy=> ?_,AJz9 h2 fun y hy=>hn y (Zch _ hy)⟩;rcases Zbu.1 ((AFs9 _ g r).mem_iff.1 hy) with rfl|hy
   ·omega
   ·exact h1 y hy
theorem ATj9 {t:TabT} {s:Int} (h:busyT t s=false):(∀x∈t.us,x.sl≠s)∧∀x∈t.gs,x.sl≠s:=by
 rw [busyT,Bool.or_eq_false_iff,List.any_eq_false,List.any_eq_false] at h;exact ⟨fun x hx e=>h.1 x hx (by simpa using e),fun x hx e=>h.2 x hx (by simpa using e)⟩
theorem ANo9 (t:TabT) (s:Int):((AJp9 t s).map (·.sl))=(t.ak.map (·.sl)).filter (fun x=> !(x==s)):=by
 rw [AJp9,List.filter_map];rfl
theorem AWt9 {u g a:List Int} {s:Int} (h:(u++g++a).Nodup) (hu:s∉u) (hg:s∉g):(s::(u++g++a.filter fun x=> !(x==s))).Nodup:=by
 refine List.nodup_cons.2 ⟨fun hm=> ?_, ?_⟩
 ·rw [Zca,Zca] at hm;rcases hm with (hm|hm)|hm
  ·exact hu hm
  ·exact hg hm
  ·have:=(Zeb.1 hm).2;simp at this
 ·exact h.sublist (List.Sublist.append (List.Sublist.refl _) Zgh)
theorem ACh9.addG {t:TabT} {ly:LayT} {g:GraT} (h:ACh9 t ly) (hg:graOk g ly=true) (hb:busyT t g.sl=false) (hn:t.us.length+t.gs.length<24):ACh9 ⟨t.us,insSG g t.gs,AJp9 t g.sl⟩ ly:=by
 obtain ⟨h1,⟨h2,h3⟩,h4,⟨g1,g2⟩,⟨a1,a2⟩,h5⟩:=h;obtain ⟨b1,b2⟩:=ATj9 hb;have hp:=AFs9 (fun x:GraT=>decide (x.sl>g.sl)) g t.gs;refine ⟨h1,⟨?_, ?_⟩,h4,⟨fun x hx=> ?_,AJz9 (sl:=fun x:GraT=>x.sl) g2 b2⟩,⟨fun x hx=>a1 x (Zeb.1 hx).1,a2.sublist Zgh⟩, ?_⟩
 ·have:=hp.length_eq;simp only [Zfr] at this;show t.us.length+(insP _ g t.gs).length≤24;omega
 ·exact Nat.le_trans (Zcd _ _) h3
 ·rcases Zbu.1 (hp.mem_iff.1 hx) with rfl|hx
  ·exact hg
  ·exact g1 x hx
 ·have h6:=AWt9 (s:=g.sl) h5 (fun hm=>by obtain ⟨x,hx,he⟩:=Zbf.1 hm;exact b1 x hx he) (fun hm=>by obtain ⟨x,hx,he⟩:=Zbf.1 hm;exact b2 x hx he);refine List.Perm.nodup (List.Perm.symm ?_) h6;show (t.us.map (·.sl)++(insP _ g t.gs).map (·.sl)++(AJp9 t g.sl).map (·.sl)).Perm _;rw [ANo9];have h7:((insP (fun x:GraT=>decide (x.sl>g.sl)) g t.gs).map (·.sl)).Perm (g.sl::t.gs.map (·.sl)):=hp.map _;refine ((List.Perm.append_left _ h7).append_right _).trans ?_;rw [Zbm,Zbm];exact List.perm_middle
theorem ACh9.addU {t:TabT} {ly:LayT} {g:UseT} (h:ACh9 t ly) (hg:useOk g ly=true) (hb:busyT t g.sl=false) (hn:t.us.length+t.gs.length<24):ACh9 ⟨insSU g t.us,t.gs,AJp9 t g.sl⟩ ly:=by
 obtain ⟨h1,⟨h2,h3⟩,⟨u1,u2⟩,h4,⟨a1,a2⟩,h5⟩:=h;obtain ⟨b1,b2⟩:=ATj9 hb;have hp:=AFs9 (fun x:UseT=>decide (x.sl>g.sl)) g t.us;refine ⟨h1,⟨?_, ?_⟩,⟨fun x hx=> ?_,AJz9 (sl:=fun x:UseT=>x.sl) u2 b1⟩,h4,⟨fun x hx=>a1 x (Zeb.1 hx).1,a2.sublist Zgh⟩, ?_⟩
 ·have:=hp.length_eq;simp only [Zfr] at this;show (insP _ g t.us).length+t.gs.length≤24;omega
 ·exact Nat.le_trans (Zcd _ _) h3
 ·rcases Zbu.1 (hp.mem_iff.1 hx) with rfl|hx
  ·exact hg
  ·exact u1 x hx
 ·have h6:=AWt9 (s:=g.sl) h5 (fun hm=>by obtain ⟨x,hx,he⟩:=Zbf.1 hm;exact b1 x hx he) (fun hm=>by obtain ⟨x,hx,he⟩:=Zbf.1 hm;exact b2 x hx he);refine List.Perm.nodup (List.Perm.symm ?_) h6;show ((insP _ g t.us).map (·.sl)++t.gs.map (·.sl)++(AJp9 t g.sl).map (·.sl)).Perm _;rw [ANo9];have h7:((insP (fun x:UseT=>decide (x.sl>g.sl)) g t.us).map (·.sl)).Perm (g.sl::t.us.map (·.sl)):=hp.map _;exact (h7.append_right _).append_right _
theorem BCd9 {t:TabT} {ly:LayT} {g:GraT} (h:refEG t ly g=0):ACh9 (addSG t ly g) ly:=by
 obtain ⟨h1,h2,h3,h4⟩:=AHa9 h;rw [addSG,if_pos h];exact (ADj9.1 h1).addG h2 h3 h4
theorem BCc9 {t:TabT} {ly:LayT} {g:UseT} (h:refEU t ly g=0):ACh9 (addSU t ly g) ly:=by
 obtain ⟨h1,h2,h3,h4⟩:=AHa9 h;rw [addSU,if_pos h];exact (ADj9.1 h1).addU h2 h3 h4
theorem ABx9 {α β:Type} {P:β→Prop} {f:β→α→β} (hf:∀b a,P b→P (f b a)):∀(l:List α) {b:β},P b→P (l.foldl f b)
 | [],b,h=>h
 |x::r,b,h=>ABx9 hf r (hf b x h)
theorem APp9 {s:SideT} {ly:LayT} {me fr:Int} {n:NearT} (t:TabT) (a:AskT) (h:ACh9 t ly):ACh9 (AAs9 s ly me fr n t a) ly:=by
 unfold AAs9;split
 ·exact h
 ·split
  ·rename_i h1;exact BCd9 h1
  ·exact h
theorem APq9 {s:SideT} {ly:LayT} {me fr:Int} {t:TabT} (h:ACh9 t ly):ACh9 (AKa9 s ly me fr t) ly:=
 ABx9 (P:=fun t=>ACh9 t ly) (fun t n h=>by
  unfold AFu9;split
  ·exact ABx9 (P:=fun t=>ACh9 t ly) (fun t a h=>APp9 t a h) _ h
  ·exact h) _ h
theorem AQs9 {s:SideT} {ly:LayT} {ts:Prs} {t:TabT} (h:ACh9 t ly):ACh9 (s.ns.foldl (takeN s ly ts) t) ly:=
 ABx9 (P:=fun t=>ACh9 t ly) (fun t n h=>by
  unfold takeN;split
  ·refine ABx9 (P:=fun t=>ACh9 t ly) (fun t a h=> ?_) _ h;unfold AEd9;split
   ·rename_i h1;exact BCc9 h1
   ·exact h
  ·exact h) _ h
def LayIn (ly:LayT):Prop:=(1≤ly.no∧ly.no≤60)∧(1≤ly.da∧ly.da≤60)
theorem APx9 {ly:LayT} (h:LayIn ly) (sl of pe:Int):ACa9 sl of pe ly=ABc9 sl of pe ly:=by
 obtain ⟨h1,h2⟩:=h;rw [ACa9,AAw9 (by omega) (by omega),AAw9 (by omega) (by omega),Bool.eq_iff_iff];simp only [inN,ABc9,Zal,decide_eq_true_eq];omega
theorem BUq9 {ly:LayT} (h:LayIn ly) (x:UseT):useIs x ly=useOk x ly:=by
 rw [useIs,useOk,APx9 h];rfl
theorem BWz9 {ly:LayT} (h:LayIn ly) (x:GraT):graIs x ly=graOk x ly:=by
 rw [graIs,graOk,APx9 h,Bool.eq_iff_iff];simp only [inN,Zal,decide_eq_true_eq];constructor
 ·rintro ⟨h1,h2,⟨h3,h4⟩,h5⟩;exact ⟨h1,h2,h4,h5⟩
 ·rintro ⟨h1,h2,h4,h5⟩;exact ⟨h1,h2,⟨h2,h4⟩,h5⟩
theorem BXe9 {ly:LayT} (h:LayIn ly) (n:NearT):(filN ly n).us=n.us.filter fun x=>useOk x ly:=by
 show n.us.filter _=_;simp only [BUq9 h]
theorem BOd9 {ly:LayT} (h:LayIn ly) (n:NearT):(filN ly n).gs=n.gs.filter fun x=>graOk x ly:=by
 show n.gs.filter _=_;simp only [BWz9 h]
theorem CFe9 {ly:LayT} (h:LayIn ly) (n:NearT):(filN ly n).ak=n.ak.filter fun x=>ABc9 x.sl x.of x.pe ly:=by
 show n.ak.filter _=_;simp only [APx9 h]
theorem BWm9 {fr:Int} (h:0≤fr∧fr≤999999992) (g:GraT):BAf9 fr g=⟨g.sl,g.of,g.pe,g.st,if fr+8>g.un then fr+8 else g.un⟩:=by
 rw [BAf9,AAw9 (by omega) (by omega)]
theorem BVo9 {s:SideT} {ly:LayT} {fr:Int} (h:0≤fr∧fr≤999999992) {g:GraT} (hg:graOk g ly=true):graOk (AEg9 s fr g) ly=true:=by
 unfold AEg9;split
 ·rw [BWm9 h];simp only [graOk,Zal,decide_eq_true_eq] at hg ⊢;refine ⟨hg.1,hg.2.1, ?_, ?_⟩<;>split<;>omega
 ·exact hg
theorem AUr9 (s:SideT) (fr:Int) (g:GraT):(AEg9 s fr g).sl=g.sl∧(AEg9 s fr g).of=g.of∧(AEg9 s fr g).pe=g.pe∧(AEg9 s fr g).st=g.st:=by
 unfold AEg9;split<;>exact ⟨rfl,rfl,rfl,rfl⟩
theorem ACh9.expired {t:TabT} {ly:LayT} {s:SideT} {fr:Int} (h:ACh9 t ly) (hf:0≤fr∧fr≤999999992):ACh9 ⟨t.us,(ABv9 t fr).gs.map (AEg9 s fr),t.ak⟩ ly:=by
 obtain ⟨h1,⟨h2,h3⟩,h4,⟨g1,g2⟩,h5,h6⟩:=h;have hsub:(ABv9 t fr).gs.Sublist t.gs:=Zgh;refine ⟨h1,⟨?_,h3⟩,h4,⟨fun x hx=> ?_, ?_⟩,h5, ?_⟩
 ·have:=hsub.length_le;simp only [List.length_map];omega
 ·obtain ⟨y,hy,rfl⟩:=Zbf.1 hx;exact BVo9 hf (g1 y (hsub.subset hy))
 ·rw [List.pairwise_map];refine (g2.sublist hsub).imp fun {a b} hab=> ?_;rw [(AUr9 s fr a).1,(AUr9 s fr b).1];exact hab
 ·show (t.us.map (·.sl)++((ABv9 t fr).gs.map (AEg9 s fr)).map (·.sl)++t.ak.map (·.sl)).Nodup;have e:((ABv9 t fr).gs.map (AEg9 s fr)).map (·.sl)=(ABv9 t fr).gs.map (·.sl):=by
   rw [List.map_map];exact List.map_congr_left fun x _=>(AUr9 s fr x).1
  rw [e];exact h6.sublist (List.Sublist.append (List.Sublist.append (List.Sublist.refl _) (hsub.map _)) (List.Sublist.refl _))
theorem AUz9 {ly:LayT} {t:TabT} {me:Int} {l:List NearT} {fr:Int} (h:newS ly t me l fr=true):ACh9 (AEj9 ly t me l fr) ly:=by
 rw [AEj9,if_pos h];exact APq9 ((ADj9.1 (ACg9 h)).expired (ARu9 h).2)
theorem CCr9 {ly:LayT} {me:Int} {l:List NearT} {fr:Int} (h:LayIn ly):∀n∈(sideS ly me l fr).ns,∀g∈n.gs,graOk g ly=true:=by
 intro n hn g hg;simp only [sideS,Zbf] at hn;obtain ⟨x,_,rfl⟩:=hn;rw [BOd9 h] at hg;exact (Zeb.1 hg).2
theorem BEe9 {ly:LayT} {me:Int} {l:List NearT} {fr:Int} (h:LayIn ly) (u v:UseT) (hu:useOk u ly=true) (hv:v∈ACj9 (sideS ly me l fr) u):useOk v ly=true∧v.sl=u.sl:=by
 unfold ACj9 at hv;split at hv
 ·rename_i g hg;rw [List.mem_singleton] at hv;subst hv;have hm:=(Zeb.1 (List.mem_of_find?_eq_some hg)).1;have hg2:graOk g ly=true:=by
   cases hf:sFind (sideS ly me l fr) u.pe with
   |none=>rw [hf] at hm;simp [nearO,zeroN] at hm
   | some n=>
    rw [hf] at hm;exact CCr9 h n (List.mem_of_find?_eq_some hf) g hm
  simp only [useOk,graOk,Zal,decide_eq_true_eq] at hu hg2 ⊢;exact ⟨⟨hu.1,by omega,by omega⟩,trivial⟩
 ·cases hv
theorem AQr9 {s:SideT} (us:List UseT):((us.flatMap (ACj9 s)).map (·.sl)).Sublist (us.map (·.sl)):=by
 induction us with
 |nil=>exact List.Sublist.refl _
 | cons u r ih=>
  rw [List.flatMap_cons,List.map_append,List.map_cons];unfold ACj9;split
  ·exact ih.cons_cons _
  ·exact ih.cons _
theorem ACh9.taken {t:TabT} {ly:LayT} {me:Int} {l:List NearT} {fr:Int} (h:ACh9 t ly) (hl:LayIn ly):ACh9 ⟨t.us.flatMap (ACj9 (sideS ly me l fr)),t.gs,t.ak⟩ ly:=by
 obtain ⟨h1,⟨h2,h3⟩,⟨u1,u2⟩,h4,h5,h6⟩:=h;have hs:=AQr9 (s:=sideS ly me l fr) t.us;have hln:=hs.length_le;simp only [List.length_map] at hln;refine ⟨h1,⟨by show (t.us.flatMap _).length+t.gs.length≤24;omega,h3⟩,⟨fun x hx=> ?_, ?_⟩,h4,h5, ?_⟩
 ·obtain ⟨u,hu,hx⟩:=List.mem_flatMap.1 hx;exact (BEe9 hl u x (u1 u hu) hx).1
 ·have h7:(t.us.map (·.sl)).Pairwise (fun a b=>a<b):=List.pairwise_map.2 u2;exact List.pairwise_map.1 (h7.sublist hs)
 ·exact h6.sublist (List.Sublist.append (List.Sublist.append hs (List.Sublist.refl _)) (List.Sublist.refl _))
theorem AZo9 {ly:LayT} {t:TabT} {me:Int} {l:List NearT} {fr:Int} (h:newS ly t me l fr=true):ACh9 (takeS ly t me l fr) ly:=by
 rw [takeS,if_pos h];exact AQs9 ((ADj9.1 (ACg9 h)).taken (ABf9 (ACg9 h)))
theorem AQz9 {z:List AskT} (h0:∀a∈z,0≤a.sl):∀n:Nat,(sortA z n).Perm (z.filter fun x=>decide (x.sl<(n:Int)))
 | 0=>by
  have e:(z.filter fun x=>decide (x.sl<((0:Nat):Int)))= []:=by
   rw [List.filter_eq_nil_iff];intro x hx;have:=h0 x hx;simp;omega
  rw [e];exact .refl _
 | n+1=>by
  rw [sortA];refine ((AQz9 h0 n).append_right _).trans ?_;have e:∀l:List AskT,(l.filter (fun x=>decide (x.sl<(n:Int)))++l.filter (fun x=>x.sl==((n:Nat):Int))).Perm (l.filter fun x=>decide (x.sl<((n+1:Nat):Int))):=by
   intro l;induction l with
   |nil=>exact .refl _
   | cons a l ih=>
    simp only [List.filter_cons];by_cases c1:a.sl<(n:Int)
    ·have c2:a.sl<((n+1:Nat):Int):=by omega
     have c3:¬a.sl=(n:Int):=by omega
     simp only [c1,c2,decide_true,if_true,beq_iff_eq,c3,if_false,Zdv];exact ih.cons a
    ·by_cases c3:a.sl=(n:Int)
     ·have c2:a.sl<((n+1:Nat):Int):=by omega
      rw [if_neg (by simpa using c1),if_pos (by simpa using c3),if_pos (by simpa using c2)];exact List.perm_middle.trans (ih.cons a)
     ·have c2:¬a.sl<((n+1:Nat):Int):=by omega
      simp only [c1,c2,decide_false,Zcm,if_false,beq_iff_eq,c3];exact ih
  exact e z
theorem AZr9 {z:List AskT} {da:Int} (h:AKd9 da z):(sortA z da.toNat).Perm z:=by
 have h1:=AQz9 (fun a ha=>(h.1 a ha).1) da.toNat;rw [List.filter_eq_self.2 (fun a ha=>decide_eq_true (by have:=h.1 a ha;omega))] at h1;exact h1
theorem CIs9 {α:Type} {R:α→α→Prop}:∀ {l:List α},l.length≤1→l.Pairwise R
 | [],_=>List.Pairwise.nil
 | [x],_=>List.pairwise_singleton _ _
 |_::_::_,h=>absurd h (by simp)
theorem ALs9 {z:List AskT} (hd:z.Pairwise (fun a b=>a.sl≠b.sl)):∀n:Nat,(sortA z n).Pairwise (fun a b=>a.sl<b.sl)∧∀a∈sortA z n,a.sl<(n:Int)
 |0=>⟨List.Pairwise.nil,fun a ha=>by cases ha⟩
 | n+1=>by
  obtain ⟨h1,h2⟩:=ALs9 hd n;have h3:∀a∈z.filter (fun x=>x.sl==((n:Nat):Int)),a.sl=(n:Int):=fun a ha=>by
   have:=(Zeb.1 ha).2;simpa using this
  refine ⟨?_,fun a ha=> ?_⟩
  ·rw [sortA,List.pairwise_append];refine ⟨h1, ?_,fun a ha b hb=>by have:=h2 a ha;have:=h3 b hb;omega⟩;have h4:=AGt9 (n:Int) hd;exact CIs9 h4
  ·rw [sortA] at ha;rcases Zca.1 ha with ha|ha
   ·have:=h2 a ha;omega
   ·have:=h3 a ha;omega
theorem AYw9 {P:AskT→Prop} {s:SideT} {us:List UseT} {gs:List GraT} {n:NearT} {pe many:Int}:∀ {ks:List Nat} {z:List AskT},(∀a∈z,P a)→(∀k∈ks,possS s ⟨us,gs, []⟩ n (triSl s k) (triOf s k)=true→P ⟨triSl s k,triOf s k,pe⟩)→∀a∈askGo s us gs n pe many ks z,P a
 | [],z,h,_=>h
 | k::r,z,h,hk=>by
  rw [askGo];split
  ·exact h
  ·refine AYw9 (fun a ha=> ?_) fun k' h'=>hk k' (Zch _ h');unfold AHy9 at ha;split at ha
   ·rename_i h1;split at ha
    ·exact h a ha
    ·rcases Zca.1 ha with ha|ha
     ·exact h a ha
     ·rw [List.mem_singleton] at ha;subst ha;exact hk k (Zby) h1
   ·exact h a ha
theorem AYv9 {s:SideT} {us:List UseT} {gs:List GraT} {n:NearT} {pe many:Int}:∀ {ks:List Nat} {z:List AskT},(z.length:Int)≤many→((askGo s us gs n pe many ks z).length:Int)≤many
 | [],z,h=>h
 | k::r,z,h=>by
  rw [askGo];split
  ·exact h
  ·rename_i h1;refine AYv9 ?_;unfold AHy9;split
   ·split
    ·exact h
    ·simp only [Zbi,Zfr,List.length_nil];omega
   ·exact h
theorem BUt9 (s:SideT) (k:Nat) (hd:1≤s.lay.da∧s.lay.da≤60) (hc:0≤triC s k):0≤triOf s k∧triOf s k<16:=by
 have h1:triC s k<16*s.lay.da:=by
  unfold triC;rw [show Zac Zbb (16*s.lay.da)=16*s.lay.da from AAw9 (by omega) (by omega)];exact Int.tmod_lt_of_pos _ (by omega)
 have h2:Int.tdiv (triC s k) s.lay.da=triC s k / s.lay.da:=Int.tdiv_eq_ediv_of_nonneg hc;have h3:0≤triC s k / s.lay.da:=Int.ediv_nonneg hc (by omega);have h4:triC s k / s.lay.da<16:=by
  rw [Int.ediv_lt_iff_lt_mul (by omega)];exact h1
 unfold triOf;rw [h2,AAw9 (by omega) (by omega)];exact ⟨h3,h4⟩
structure AskIs (ly:LayT) (t:TabT) (s:SideT) (n:NearT) (pe many:Int) (q:List AskT):Prop where
 ok:∀a∈q,askOk a ly=true∧possS s ⟨t.us,t.gs, []⟩ n a.sl a.of=true∧a.pe=pe
 sorted:q.Pairwise (fun a b=>a.sl<b.sl)
 len:(q.length:Int)≤many
theorem CEm9 {ly:LayT} {t:TabT} {me:Int} {l:List NearT} {fr pe:Int} {n:NearT} (h:newS ly t me l fr=true) (hf:sFind (sideS ly me l fr) pe=some n):∃x∈l,n=filN ly x∧x.fm=pe∧(0≤pe∧pe<ly.no)∧pe≠me:=by
 have hv:=ABf9 (ACg9 h);have hbad:(AAg9 none l).any (badN ly me fr)=false:=by
  rw [newS,Zal,Zal,Zal,Zcb] at h;exact h.2.2.2
 have h1:=List.mem_of_find?_eq_some hf;have h2:(n.fm==pe)=true:=List.find?_some (p:=fun x:NearT=>x.fm==pe) hf;simp only [sideS,Zbf] at h1;obtain ⟨x,hx,rfl⟩:=h1;have h3:x.fm=pe:=by
  have h5:(filN ly x).fm=pe:=by simpa using h2
  exact h5
 have h4:=AXj9 hv.1.2 hbad x hx;rw [h3] at h4;exact ⟨x,hx,rfl,h3,⟨h4.1,h4.2.1⟩,h4.2.2.1⟩
theorem CGt9 {ly:LayT} {t:TabT} {me:Int} {l:List NearT} {pe many fr:Int} (h:newS ly t me l fr=true) (hm:0≤many∧many≤24):
 (sFind (sideS ly me l fr) pe=none∧askS ly t me l pe many fr=⟨t.us,t.gs, []⟩)∨∃n q,sFind (sideS ly me l fr) pe=some n∧askS ly t me l pe many fr=⟨t.us,t.gs,q⟩∧AskIs ly t (sideS ly me l fr) n pe many q∧q=sortA (askGo (sideS ly me l fr) t.us t.gs n pe many (triKs ly) (keptA (sideS ly me l fr) t n pe many)) ly.da.toNat:=by
 have hin:inN many 24=true:=by rw [inN,decide_eq_true hm.1,decide_eq_true hm.2];rfl
 have hvt:=ACg9 h;have hv:=ABf9 hvt;have hva:=AIb9 hvt;have hni:=ARu9 h;cases hf:sFind (sideS ly me l fr) pe with
 |none=>exact .inl ⟨rfl,by rw [askS,h,hin,Bool.and_self,if_pos rfl,hf]⟩
 | some n=>
  refine .inr ⟨n,_,rfl,by rw [askS,h,hin,Bool.and_self,if_pos rfl,hf], ?_,rfl⟩;obtain ⟨x,_,_,_,hpe,_⟩:=CEm9 h hf;have hset0:AKd9 ly.da t.ak:=⟨fun a ha=>BKk9 (hva.2.2.1.1 a ha),hva.2.2.1.2.imp fun h=>by omega⟩;have hk0:AKd9 ly.da (keptA (sideS ly me l fr) t n pe many):=
   ⟨fun a ha=>hset0.1 a (Zeb.1 (List.mem_of_mem_take ha)).1,(hset0.2.sublist Zgh).sublist (List.take_sublist _ _)⟩
  have htri:∀k∈triKs ly,(0≤triSl (sideS ly me l fr) k∧triSl (sideS ly me l fr) k<(sideS ly me l fr).lay.da)∧(0≤triOf (sideS ly me l fr) k∧triOf (sideS ly me l fr) k<16):=fun k hk=>by
   rw [triKs,List.mem_range'_1] at hk;have hd:(sideS ly me l fr).lay.da=ly.da:=rfl;have hn0:=BQw9 (s:=sideS ly me l fr) k (by omega) (by rw [hd];exact hv.2) ⟨hni.1.1,by have:=hni.1.2;show me<60;omega⟩ hni.2;exact ⟨BEb9 _ k (by rw [hd];exact hv.2) hn0,BUt9 _ k (by rw [hd];exact hv.2) hn0⟩
  have hgs:AKd9 ly.da _:=ALd9 (s:=sideS ly me l fr) (us:=t.us) (gs:=t.gs) (n:=n) (pe:=pe) (many:=many) hk0 fun k hk=>(htri k hk).1;have hp:=AZr9 hgs;refine ⟨fun a ha=> ?_,(ALs9 hgs.2 _).1, ?_⟩
  ·refine AYw9 (P:=fun a=>askOk a ly=true∧possS (sideS ly me l fr) ⟨t.us,t.gs, []⟩ n a.sl a.of=true∧a.pe=pe) (fun a ha=> ?_) (fun k hk hps=> ?_) a (hp.mem_iff.1 ha)
   ·have h1:=Zeb.1 (List.mem_of_mem_take ha);have h2:=h1.2;rw [keepA,Zal] at h2;exact ⟨hva.2.2.1.1 a h1.1,h2.2,by simpa using h2.1⟩
   ·obtain ⟨h1,h2⟩:=htri k hk;refine ⟨?_,hps,rfl⟩;show ABc9 _ _ pe ly=true;simp only [ABc9,Zal,decide_eq_true_eq];have hd:(sideS ly me l fr).lay.da=ly.da:=rfl;rw [hd] at h1;exact ⟨h1.1,h1.2,h2.1,h2.2,hpe.1,hpe.2⟩
  ·rw [hp.length_eq];refine AYv9 ?_;rw [keptA,Zcj];omega
theorem CDw9 {s:SideT} {t:TabT} {n:NearT} {sl of:Int} (h:possS s ⟨t.us,t.gs, []⟩ n sl of=true):busyT t sl=false∧busyT ⟨n.us,n.gs, []⟩ sl=false∧APs9 s.ns sl of s.me=false:=by
 unfold possS at h;split at h
 ·cases h
 ·rename_i h1;split at h
  ·cases h
  ·rename_i h2;refine ⟨?_,by simpa using h2,by simpa using h⟩;have h3:busyT t sl=busyT ⟨t.us,t.gs, []⟩ sl:=rfl;rw [h3];simpa using h1
theorem ACh9.asks {t:TabT} {ly:LayT} {q:List AskT} (h:ACh9 t ly) (hok:∀a∈q,askOk a ly=true) (hs:q.Pairwise (fun a b=>a.sl<b.sl)) (hl:q.length≤24) (hb:∀a∈q,busyT t a.sl=false):ACh9 ⟨t.us,t.gs,q⟩ ly:=by
 obtain ⟨h1,⟨h2,_⟩,h4,h5,_,h6⟩:=h;refine ⟨h1,⟨h2,hl⟩,h4,h5,⟨hok,hs⟩, ?_⟩;show (t.us.map (·.sl)++t.gs.map (·.sl)++q.map (·.sl)).Nodup;have h7:(t.us.map (·.sl)++t.gs.map (·.sl)).Nodup:=h6.sublist (List.sublist_append_left _ _);rw [List.nodup_append];refine ⟨h7, ?_,fun a ha b hb' hab=> ?_⟩
 ·rw [List.Nodup,List.pairwise_map];exact hs.imp fun h=>by omega
 ·obtain ⟨x,hx,rfl⟩:=Zbf.1 hb';obtain ⟨b1,b2⟩:=ATj9 (hb x hx);rcases Zca.1 ha with ha|ha
  ·obtain ⟨y,hy,rfl⟩:=Zbf.1 ha;exact b1 y hy hab
  ·obtain ⟨y,hy,rfl⟩:=Zbf.1 ha;exact b2 y hy hab
theorem BKl9 {ly:LayT} {t:TabT} {me:Int} {l:List NearT} {pe many fr:Int} (h:newS ly t me l fr=true):ACh9 (askS ly t me l pe many fr) ly:=by
 have hvt:=ADj9.1 (ACg9 h);by_cases hm:0≤many∧many≤24
 ·rcases CGt9 (pe:=pe) h hm with ⟨_,e⟩|⟨n,q,_,e,hq,_⟩
  ·rw [e];exact hvt.asks (by simp) .nil (by simp) (by simp)
  ·rw [e];exact hvt.asks (fun a ha=>(hq.ok a ha).1) hq.sorted (by have:=hq.len;omega) fun a ha=>(CDw9 (hq.ok a ha).2.1).1
 ·have hin:inN many 24=false:=by
   rw [inN];by_cases h1:0≤many
   ·rw [decide_eq_false (p:=many≤24) (by omega),Zcn]
   ·rw [decide_eq_false (p:=many≥0) (by omega),Zdb]
  rw [askS,hin,Zcn,if_neg (by decide)];exact hvt
theorem BVg9 {t:TabT} {l:List NearT} (h:AUn9 t l=true):TabOk t∧l.length<1000000∧(∀x∈l,ANb9 x)∧∀x∈l,ACi9 x:=by
 rw [AUn9,Zal,BGz9] at h;obtain ⟨h1,h2,h3,h4⟩:=h;rw [BAs9,Zal,Zcb,decide_eq_true_eq] at h1;have hl:l.length≤70:=by omega
 have h5:∀x∈l,x.us.length≤40∧x.gs.length≤40∧x.ak.length≤40:=fun x hx=>by
  have h6:=h1.1;rw [List.take_of_length_le hl,List.any_eq_false] at h6;have h7:=h6 x hx;simp only [manyN,Bool.or_eq_true,decide_eq_true_eq,not_or] at h7;omega
 refine ⟨⟨by omega,by omega,by omega⟩,by omega,fun x hx=> ?_,fun x hx=> ?_⟩
 ·have:=h5 x hx;exact ⟨by omega,by omega,by omega⟩
 ·have:=h5 x hx;exact ⟨by omega,by omega,by omega⟩
variable {Ev:Env prog} {b0:Ev.β} {Q:Exit→St Ev.β→Prop}
variable {Ev:Env prog} {b0:Ev.β} {Q:Exit→St Ev.β→Prop}
end Go.Proofs.YthcbbmnjikhihaaGreat.Am
namespace Go.Proofs.YthcbbmnjikhihaaGreat.Am
open Go Go.RowKit Go.Proofs Go.ChangeShapes Go.WideShapes Go.ChangeAt Tryz
open AV renaming agg → Zan, bad → Zab, d → Zad, fn → Zav, gref → Zbh, own → Zcc, ptr → Zae, rptr → Zah
open AskT renaming sl → Zde
open BIf renaming f → Zci, of → Zax, t → Zas
open Bool renaming and_eq_true → Zal, and_false → Zcn, false_and → Zdb, false_eq_true → Zcm, not_eq_true' → Zcb
open AAb9 renaming cons → Zag, nil → Zai
open Go.Code renaming loop → Zaq
open Dv renaming fn → Zcw, pt → Zdo, s → Zdk, sl → Zaj
open Go.Exit renaming exit → Zba, normal → Zfp
open Int renaming toNat → Zak
open Go.IntKind renaming i64 → Zbb, wrap → Zac
open LayT renaming da → Zbr
open LeH renaming refl → Zbg
open LeVs renaming refl → Zga
open List renaming all → Zbl, any → Zcp, append_assoc → Zbm, append_nil → Zco, cons_append → Zdv, drop → Zcg, filter_sublist → Zgh, getElem?_eq_getElem → Zbc, getElem?_map → Zbp, length → Zaa, length_append → Zbi, length_cons → Zfr, length_filter_le → Zcd, length_take → Zcj, mem_append → Zca, mem_cons → Zbu, mem_cons_of_mem → Zch, mem_cons_self → Zby, mem_filter → Zeb, mem_map → Zbf, pairwise_cons → Zdh, replicate → Zam, take → Zbq, take_length → Zdc
open Nat renaming le_refl → Zat
open NearT renaming gs → Zce, us → Zcl
open AAl9 renaming cons → Zbt, nil → Zar
open SideT renaming lay → Zct, ns → Zau
open TabT renaming ak → Zck, gs → Zbx, us → Zbv
open AV (bad)
set_option linter.unusedVariables false
set_option maxRecDepth 20000
theorem glob0 (S:Pr) (w:World):Glob S w:=fun g j v h=>by simp [AKz9] at h
theorem CHi9:ownKnob Tryz.prog.godebug=none:=by kernel_rfl
theorem BCe9:laidOutB prog=true:=by kernel_rfl
def AQm9:List Ty:= [.int .i64, .int .i64, .int .i64, .int .i64]
def AVa9:List Ty:= [.int .i64, .int .i64, .int .i64, .int .i64, .int .i64]
def AWc9:List Ty:= [.int .i64, .int .i64, .int .i64]
theorem CCj9 {row:List Dv} (h:AHj9 AQm9 row):∃x:UseT,row=useR x:=by
 unfold AQm9 at h;obtain _|⟨h0,h⟩:=h
 obtain _|⟨h1,h⟩:=h
 obtain _|⟨h2,h⟩:=h
 obtain _|⟨h3,h⟩:=h
 cases h;cases h0;cases h1;cases h2;cases h3;exact ⟨⟨_,_,_,_⟩,rfl⟩
theorem CEy9 {row:List Dv} (h:AHj9 AVa9 row):∃x:GraT,row=graR x:=by
 unfold AVa9 at h;obtain _|⟨h0,h⟩:=h
 obtain _|⟨h1,h⟩:=h
 obtain _|⟨h2,h⟩:=h
 obtain _|⟨h3,h⟩:=h
 obtain _|⟨h4,h⟩:=h
 cases h;cases h0;cases h1;cases h2;cases h3;cases h4;exact ⟨⟨_,_,_,_,_⟩,rfl⟩
theorem CGr9 {row:List Dv} (h:AHj9 AWc9 row):∃x:AskT,row=askR x:=by
 unfold AWc9 at h;obtain _|⟨h0,h⟩:=h
 obtain _|⟨h1,h⟩:=h
 obtain _|⟨h2,h⟩:=h
 cases h;cases h0;cases h1;cases h2;exact ⟨⟨_,_,_⟩,rfl⟩
theorem BQv9 {x:Dv} (h:HasTy (.sl AQm9) x):∃l:List UseT,x= .sl 4 (rowsU l)∧l.length≤maxLen∧True:=by
 cases h with
 | sl _ xs hl h=>
  have key:∀(xs:List (List Dv)),(∀row∈xs,AHj9 AQm9 row)→∃l:List UseT,xs=rowsU l:=by
   intro xs;induction xs with
   |nil=>exact fun _=>⟨[],rfl⟩
   | cons row xs ih=>
    intro h;obtain ⟨p,rfl⟩:=ih fun r hr=>h r (Zch _ hr);obtain ⟨x,rfl⟩:=CCj9 (h row (Zby ..));exact ⟨x::p,rfl⟩
  obtain ⟨p,rfl⟩:=key xs h;exact ⟨p,rfl,by simpa [rowsU] using hl,trivial⟩
theorem BRq9 {x:Dv} (h:HasTy (.sl AVa9) x):∃l:List GraT,x= .sl 5 (rowsG l)∧l.length≤maxLen∧True:=by
 cases h with
 | sl _ xs hl h=>
  have key:∀(xs:List (List Dv)),(∀row∈xs,AHj9 AVa9 row)→∃l:List GraT,xs=rowsG l:=by
   intro xs;induction xs with
   |nil=>exact fun _=>⟨[],rfl⟩
   | cons row xs ih=>
    intro h;obtain ⟨p,rfl⟩:=ih fun r hr=>h r (Zch _ hr);obtain ⟨x,rfl⟩:=CEy9 (h row (Zby ..));exact ⟨x::p,rfl⟩
  obtain ⟨p,rfl⟩:=key xs h;exact ⟨p,rfl,by simpa [rowsG] using hl,trivial⟩
theorem BSz9 {x:Dv} (h:HasTy (.sl AWc9) x):∃l:List AskT,x= .sl 3 (rowsA l)∧l.length≤maxLen∧True:=by
 cases h with
 | sl _ xs hl h=>
  have key:∀(xs:List (List Dv)),(∀row∈xs,AHj9 AWc9 row)→∃l:List AskT,xs=rowsA l:=by
   intro xs;induction xs with
   |nil=>exact fun _=>⟨[],rfl⟩
   | cons row xs ih=>
    intro h;obtain ⟨p,rfl⟩:=ih fun r hr=>h r (Zch _ hr);obtain ⟨x,rfl⟩:=CGr9 (h row (Zby ..));exact ⟨x::p,rfl⟩
  obtain ⟨p,rfl⟩:=key xs h;exact ⟨p,rfl,by simpa [rowsA] using hl,trivial⟩
def ARw9:List Ty:= [.int .i64, .int .i64, .int .i64, .int .i64, .int .i64, .int .i64, .int .i64, .int .i64, .int .i64, .int .i64, .int .i64, .int .i64, .sl AQm9, .sl AVa9, .sl AWc9, .sl AQm9, .bool, .sl [.int .i64, .int .i64, .int .i64, .int .i64, .int .i64, .int .i64, .int .i64, .int .i64], .sl [.int .i64, .int .i64, .int .i64, .int .i64, .int .i64, .int .i64, .int .i64, .int .i64], .sl [.int .i64], .int .i64, .int .i64, .int .u64, .int .i64, .int .i64, .int .i64, .int .i64, .int .i64, .sl [.int .u8], .sl [.int .u64], .bool]
theorem BWe9 {row:List Dv} (h:AHj9 ARw9 row):∃x:NearT,row=nearR x:=by
 unfold ARw9 at h;obtain _|⟨h0,h⟩:=h
 obtain _|⟨h1,h⟩:=h
 obtain _|⟨h2,h⟩:=h
 obtain _|⟨h3,h⟩:=h
 obtain _|⟨h4,h⟩:=h
 obtain _|⟨h5,h⟩:=h
 obtain _|⟨h6,h⟩:=h
 obtain _|⟨h7,h⟩:=h
 obtain _|⟨h8,h⟩:=h
 obtain _|⟨h9,h⟩:=h
 obtain _|⟨h10,h⟩:=h
 obtain _|⟨h11,h⟩:=h
 obtain _|⟨h12,h⟩:=h
 obtain _|⟨h13,h⟩:=h
 obtain _|⟨h14,h⟩:=h
 obtain _|⟨h15,h⟩:=h
 obtain _|⟨h16,h⟩:=h
 obtain _|⟨h17,h⟩:=h
 obtain _|⟨h18,h⟩:=h
 obtain _|⟨h19,h⟩:=h
 obtain _|⟨h20,h⟩:=h
 obtain _|⟨h21,h⟩:=h
 obtain _|⟨h22,h⟩:=h
 obtain _|⟨h23,h⟩:=h
 obtain _|⟨h24,h⟩:=h
 obtain _|⟨h25,h⟩:=h
 obtain _|⟨h26,h⟩:=h
 obtain _|⟨h27,h⟩:=h
 obtain _|⟨h28,h⟩:=h
 obtain _|⟨h29,h⟩:=h
 obtain _|⟨h30,h⟩:=h
 cases h;obtain ⟨us,rfl,_⟩:=BQv9 h12;obtain ⟨gs,rfl,_⟩:=BRq9 h13;obtain ⟨ak,rfl,_⟩:=BSz9 h14;cases h0;cases h1;cases h2;cases h3;cases h4;cases h5;cases h6;cases h7;cases h8;cases h9;cases h10;cases h11;cases h15;cases h16;cases h17;cases h18;cases h19;cases h20;cases h21;cases h22;cases h23;cases h24;cases h25;cases h26;cases h27;cases h28;cases h29;cases h30;exact ⟨⟨_,_,us,gs,ak,_,_,_,_,_,_,_,_,_,_,_,_,_,_,_,_,_,_,_,_,_,_,_,_,_,_⟩,rfl⟩
theorem BWd9 {x:Dv} (h:HasTy (.sl ARw9) x):∃l:List NearT,x= .sl 31 (rowsN l)∧l.length≤maxLen∧True:=by
 cases h with
 | sl _ xs hl h=>
  have key:∀(xs:List (List Dv)),(∀row∈xs,AHj9 ARw9 row)→∃l:List NearT,xs=rowsN l:=by
   intro xs;induction xs with
   |nil=>exact fun _=>⟨[],rfl⟩
   | cons row xs ih=>
    intro h;obtain ⟨p,rfl⟩:=ih fun r hr=>h r (Zch _ hr);obtain ⟨x,rfl⟩:=BWe9 (h row (Zby ..));exact ⟨x::p,rfl⟩
  obtain ⟨p,rfl⟩:=key xs h;exact ⟨p,rfl,by simpa [rowsN] using hl,trivial⟩
theorem CDb9 {row:List Dv} (h:AHj9 [.int .i64, .int .i64] row):∃ly:LayT,Zan (row.map .d)=layA ly∧True:=by
 obtain _|⟨h0,h⟩:=h
 obtain _|⟨h1,h⟩:=h
 cases h;cases h0;cases h1;exact ⟨⟨_,_⟩,rfl,trivial⟩
theorem CDa9 {row:List Dv} (h:AHj9 [.sl AQm9, .sl AVa9, .sl AWc9] row):∃t:TabT,Zan (row.map .d)=tabA t∧TabMx t:=by
 obtain _|⟨h0,h⟩:=h
 obtain _|⟨h1,h⟩:=h
 obtain _|⟨h2,h⟩:=h
 cases h;obtain ⟨us,rfl,l0,_⟩:=BQv9 h0;obtain ⟨gs,rfl,l1,_⟩:=BRq9 h1;obtain ⟨ak,rfl,l2,_⟩:=BSz9 h2;exact ⟨⟨us,gs,ak⟩,rfl,l0,l1,l2⟩
theorem CJh9:flat prog 20 23=some [.int .i64, .int .i64]:=by kernel_rfl
theorem CJg9:flat prog 20 28=some [.sl AQm9, .sl AVa9, .sl AWc9]:=by kernel_rfl
theorem CJf9:flat prog 20 29=some [.sl ARw9]:=by kernel_rfl
end Go.Proofs.YthcbbmnjikhihaaGreat.Am
namespace Go.Proofs.YthcbbmnjikhihaaGreat.Am
open Go Go.RowKit Go.Proofs Tryz
open AV renaming agg → Zan, bad → Zab, d → Zad, fn → Zav, gref → Zbh, own → Zcc, ptr → Zae, rptr → Zah
open AskT renaming sl → Zde
open BIf renaming f → Zci, of → Zax, t → Zas
open Bool renaming and_eq_true → Zal, and_false → Zcn, false_and → Zdb, false_eq_true → Zcm, not_eq_true' → Zcb
open AAb9 renaming cons → Zag, nil → Zai
open Go.Code renaming loop → Zaq
open Dv renaming fn → Zcw, pt → Zdo, s → Zdk, sl → Zaj
open Go.Exit renaming exit → Zba, normal → Zfp
open Int renaming toNat → Zak
open Go.IntKind renaming i64 → Zbb, wrap → Zac
open LayT renaming da → Zbr
open LeH renaming refl → Zbg
open LeVs renaming refl → Zga
open List renaming all → Zbl, any → Zcp, append_assoc → Zbm, append_nil → Zco, cons_append → Zdv, drop → Zcg, filter_sublist → Zgh, getElem?_eq_getElem → Zbc, getElem?_map → Zbp, length → Zaa, length_append → Zbi, length_cons → Zfr, length_filter_le → Zcd, length_take → Zcj, mem_append → Zca, mem_cons → Zbu, mem_cons_of_mem → Zch, mem_cons_self → Zby, mem_filter → Zeb, mem_map → Zbf, pairwise_cons → Zdh, replicate → Zam, take → Zbq, take_length → Zdc
open Nat renaming le_refl → Zat
open NearT renaming gs → Zce, us → Zcl
open AAl9 renaming cons → Zbt, nil → Zar
open SideT renaming lay → Zct, ns → Zau
open TabT renaming ak → Zck, gs → Zbx, us → Zbv
variable {β:Type} (wl:WLT β) (y:ADo9 β) (b:β) (R:AV→β→Prop) (K:Exit→List AV→List Blk→β→Prop) (Q:β→Prop)
open AV (bad)
set_option linter.unusedVariables false
set_option maxRecDepth 20000
set_option maxHeartbeats 1000000
variable {Ev:Env prog} {b0:Ev.β} {Q:Exit→St Ev.β→Prop}
noncomputable def lpUk:Code:=sub [1,1,0,1,2,3] (code f111)
def tmUk (l:List AskT) (s:Int) (acc:AV) (k:Int):List AV:= [.d (.sl 3 (rowsA l)), .d (i64 s), .bad, .bad, .bad,acc, .d (i64 k)]++Zam 22 .bad
theorem rUk (l:List AskT) (xs:List (List Dv)) (s k:Int):wpc prog ⟨[], [],wl,y,false⟩ 100 lpUk (tmUk l s (.own 63 3 xs) k) [] b (maskK 0 [0,1,5,6] K)=(BIf (decide (k<((Zaa (rowsA l):Nat):Int))) (BIf (true&&decide (0≤k)) (∃(x0:Int) (x1:Int) (x2:Int),(rowsA l)[Zak k]? =some [i64 x0,i64 x1,i64 x2]∧BIf (x0 !=s) (BIf (true&&decide (0≤k)) (∃(x5:Int) (x6:Int) (x7:Int),(rowsA l)[Zak k]? =some [i64 x5,i64 x6,i64 x7]∧BIf (true&&decide ((Zaa xs+1)*24≤140737488355328)) (K .normal (Zad (Zaj 3 (rowsA l))::Zad (i64 s)::bds 3 (Zcc 63 3 (xs++ [[i64 x5,i64 x6,i64 x7]])::Zad (i64 (Zac .i64 (k+1)))::bds 22 [])) [] b) False) False) (K .normal (Zad (Zaj 3 (rowsA l))::Zad (i64 s)::bds 3 (Zcc 63 3 xs::Zad (i64 (Zac .i64 (k+1)))::bds 22 [])) [] b)) False) (K (Zba 0) (Zad (Zaj 3 (rowsA l))::Zad (i64 s)::bds 3 (Zcc 63 3 xs::Zad (i64 k)::bds 22 [])) [] b)):=by kernel_rfl
theorem wrUk (l:List AskT) (s:Int) (hl:l.length<1000000) (hQ:∀k:Int,Q (.exit 0) ⟨tmUk l s (.own 63 3 (rowsA (l.filter fun x=> !(x.sl==s)))) k, [],b0⟩):
 WR Ev lpUk (l.length+1) ⟨tmUk l s (.own 63 3 (rowsA [])) (0:Nat), [],b0⟩ Q:=by
 refine WR.gathL (X:=⟨[], [],wlW Ev,Ev.Y,false⟩) (k:=100) [0,1,5,6] mixed (CX.Ok.of Zai Zar) l (AIx9 (fun x=> !(x.sl==s))) (AHd9 _) (fun acc k=>tmUk l s (.own 63 3 (rowsA acc)) (k:Nat)) [] 0 (fun k x acc hk hx ha K k1=> ?_) (fun acc K k1=> ?_) ?_
 ·refine Eq.mpr (rUk _ _ _ K l _ s k) ?_;rw [AAi9,ABd9 hx];refine Zas (by simp;omega) (Zas (natI k) ⟨_,_,_,rfl,Zax (fun g=>Zas (natI k) ⟨_,_,_,rfl,Zas (by simp [AAi9];omega) ?_⟩) fun g=> ?_⟩)
  ·rw [wrapN (by omega)];rw [AJv9 (p:=fun x:AskT=> !(x.sl==s)) (x:=x) g,AGz9] at k1;exact k1
  ·rw [wrapN (by omega)];rw [AJw9 (p:=fun x:AskT=> !(x.sl==s)) (x:=x) g,Zco] at k1;exact k1
 ·refine Eq.mpr (rUk _ _ _ K l _ s _) ?_;exact Zci (by rw [AAi9];simp) k1
 ·rw [ACp9];exact hQ _
def wlUk {β:Type}:WLT β:=fun cd tm hp b K=>∃(l:List AskT) (s:Int) (r:List AskT),cd= .loop lpUk∧AAn9 [0,1,5,6] 0 tm=tmUk l s nilA 0∧hp= []∧(l.length<1000000∧r=l.filter fun x=> !(x.sl==s))∧∀k:Int,K (.exit 0) (tmUk l s (.own 63 3 (rowsA r)) k) [] b
theorem CAx9:WlOk Ev wlUk:=by
 rintro c tm hp b K ⟨l,s,r,rfl,htm,rfl,⟨hl,rfl⟩,hK⟩;refine W.cast (htm▸AAc9 _ tm 0) (Zbg _) ?_;refine W.cast (tm':=tmUk l s (.own 63 3 (rowsA [])) (0:Nat)) (LeL.at [_,_,_,_,_] _ (LeA.nilOwn rfl)) (Zbg _) ?_;exact W.rounds (wrUk (Q:=fun e s=>K e s.tm s.hp s.b) (b0:=b) l s hl hK)
def TRfR:CT:= [(20,BHx9),(22,cBusy)]
theorem CHk9:AAb9 prog TRfR:=Zag ATa9 (Zag BKh9 Zai)
abbrev Qz95 (v0:List AskT) (v1:Int):=Zad (Zaj 3 (rowsA v0))::Zad (i64 v1)::bds 3 (Zad (Zdk (.slice none 0 0))::Zad (i64 0)::bds 22 [])
theorem BMg9 (l:List AskT) (s:Int):wpFn prog ⟨[], [],wlUk,y,false⟩ 100 f111 [.d (.sl 3 (rowsA l)), .d (i64 s)] b R=(∃(l0:List AskT) (s1:Int) (r2:List AskT),Zaq lpUk=Zaq lpUk∧(Qz95 l s)=(Qz95 l0 s1)∧([]:List Blk)= []∧(Zaa l0<1000000∧r2=List.filter (fun (x3:AskT)=> !AskT.sl x3==s1) l0)∧∀(k:Int),R (.d (Zaj 3 (rowsA r2))) b):=by kernel_rfl
theorem CDe9 (t:TabT) (ly:LayT) (s:Int) (z:Bool):wpFn prog ⟨TRfR, [],wl,y,false⟩ 100 f110 [tabA t,layA ly, .d (i64 s), .d (bo z)] b R=(∃(t0:TabT) (ly1:LayT) (q2:Bool), [Zan (Qz1 t),Zan (Qz3 ly)]= [Zan (Qz1 t0),Zan (Qz3 ly1)]∧(TabMx t0∧q2=AKo9 t0 ly1)∧BIf (!q2) (R (.d (i64 1)) b) (BIf (!z) (R (.d (i64 1)) b) (∃(t3:TabT) (s4:Int) (q5:Bool), [Zan (Qz1 t),Zad (i64 s)]= [Zan (Qz1 t3),Zad (i64 s4)]∧(Zaa (Zbv t3)≤9223372036854775807∧Zaa (Zbx t3)≤9223372036854775807∧q5=BusyS t3 s4)∧BIf q5 (R (.d (i64 5)) b) (BIf (decide (Zac .i64 (((Zaa (rowsU (Zbv t)):Nat):Int)+((Zaa (rowsG (Zbx t)):Nat):Int))≥(24:Int))) (R (.d (i64 10)) b) (R (.d (i64 0)) b))))):=by kernel_rfl
def BIa9:CF:=fun args K=>∃(l:List AskT) (s:Int) (q:List AskT),args= [.d (.sl 3 (rowsA l)), .d (i64 s)]∧(l.length<1000000∧q=l.filter fun x=> !(x.sl==s))∧K (.d (.sl 3 (rowsA q)))
theorem ATc9:COk 111 BIa9:=by
 rintro _ K ⟨l,s,_,rfl,⟨hl,rfl⟩,hk⟩;refine ⟨_, ?_,hk⟩;refine pcL @wlUk Zai CAx9 func111 fun Ev bb=> ?_;rw [BMg9];exact ⟨l,s,_,rfl,rfl,rfl,⟨hl,rfl⟩,fun i=> .base LeA.rfl⟩
def cRefR:CF:=fun args K=>∃(t:TabT) (ly:LayT) (s:Int) (z:Bool) (q:Int),args= [tabA t,layA ly, .d (i64 s), .d (bo z)]∧(TabOk t∧q=refS t ly s z)∧K (.d (i64 q))
theorem BIi9:COk 110 cRefR:=by
 rintro _ K ⟨t,ly,s,z,_,rfl,⟨ht,rfl⟩,hk⟩;refine ⟨_, ?_,hk⟩;refine pcO CHk9 func110 fun Ev bb=> ?_;rw [CDe9,AAe9,AAd9];obtain ⟨h1,h2,h3⟩:=ht;have hw:Zac Zbb ((t.us.length:Int)+(t.gs.length:Int))=(t.us.length:Int)+(t.gs.length:Int):=AAw9 (by omega) (by omega);rw [hw];refine ⟨t,ly,_,rfl,⟨⟨by omega,by omega,by omega⟩,rfl⟩, ?_⟩;have hv:=AOq9 t ly;have hb:BusyS t s=busyT t s:=rfl;generalize AKo9 t ly=v at hv ⊢;subst hv;refine Zax (fun c1=> ?_) fun c1=> ?_
 ·rw [Zcb] at c1;rw [refS,c1];rfl
 ·rw [Bool.not_eq_false'] at c1;cases z
  ·rw [refS,c1];rfl
  ·refine ⟨t,s,_,rfl,⟨by omega,by omega,rfl⟩,Zax (fun c2=> ?_) fun c2=>Zax (fun c3=> ?_) fun c3=> ?_⟩
   ·rw [refS,c1,←hb,c2];rfl
   ·rw [refS,c1,←hb,c2];show _=Zad (i64 (if (t.us.length:Int)+(t.gs.length:Int)≥24 then 10 else 0));rw [if_pos (of_decide_eq_true c3)]
   ·rw [refS,c1,←hb,c2];show _=Zad (i64 (if (t.us.length:Int)+(t.gs.length:Int)≥24 then 10 else 0));rw [if_neg (of_decide_eq_false c3)]
variable {Ev:Env prog} {b0:Ev.β} {Q:Exit→St Ev.β→Prop}
def bySl {α:Type} (sl:α→Int) (l:List α) (u:α):Nat→List α
 |0=> []
 |n+1=>bySl sl l u n++(l.filter (fun x=>sl x==((n:Nat):Int))++if (sl u==((n:Nat):Int))=true then [u] else [])
theorem AWb9 {α:Type} (sl:α→Int) (l:List α) (u:α):∀n,(bySl sl l u n).length≤n*(l.length+1)
 |0=>by simp [bySl]
 | n+1=>by
  have h1:=AWb9 sl l u n;have h2:=Zcd (fun x=>sl x==((n:Nat):Int)) l;have h3:(if (sl u==((n:Nat):Int))=true then [u] else []).length≤1:=by split<;>simp
  rw [bySl,Zbi,Zbi,Nat.succ_mul];omega
theorem ARt9 {α:Type} (sl:α→Int) (u:α) (n:Nat): [u].filter (fun x=>decide (sl x<((n+1:Nat):Int)))= [u].filter (fun x=>decide (sl x<(n:Int)))++if (sl u==((n:Nat):Int))=true then [u] else []:=by
 by_cases h1:sl u<(n:Int)
 ·have a1:sl u<(n:Int)+1:=by omega
  have a2:sl u≠(n:Int):=by omega
  simp [h1,a1,a2]
 ·by_cases h2:sl u=(n:Int)
  ·have a1:(n:Int)<(n:Int)+1:=by omega
   simp [h2,a1]
  ·have a1:¬sl u<(n:Int)+1:=by omega
   simp [h1,h2,a1]
theorem BFx9 {α:Type} {sl:α→Int} {u:α}:∀ {l:List α},l.Pairwise (fun a b=>sl a<sl b)→(∀x∈l,sl x≠sl u)→∀n:Nat,
 (insP (fun x=>decide (sl x>sl u)) u l).filter (fun x=>decide (sl x<((n+1:Nat):Int)))=(insP (fun x=>decide (sl x>sl u)) u l).filter (fun x=>decide (sl x<(n:Int)))++(l.filter (fun x=>sl x==((n:Nat):Int))++if (sl u==((n:Nat):Int))=true then [u] else [])
 | [],_,_,n=>by
  simp only [insP,List.filter_nil,List.nil_append];exact ARt9 sl u n
 | x::r,hp,hn,n=>by
  rw [Zdh] at hp;have hx:=hn x Zby;have key:∀(q:List α),(∀y∈q,sl x<sl y)→∀m:Nat,sl x≥(m:Int)→q.filter (fun y=>decide (sl y<(m:Int)))= []:=fun q hq m hm=>by
   rw [List.filter_eq_nil_iff];intro y hy;have:=hq y hy;simp;omega
  have key2:∀(q:List α),(∀y∈q,sl x<sl y)→sl x≥(n:Int)→q.filter (fun y=>sl y==(n:Int))= []:=fun q hq hm=>by
   rw [List.filter_eq_nil_iff];intro y hy;have:=hq y hy;simp;omega
  by_cases hgt:sl x>sl u
  ·have hall:∀y∈r,sl x<sl y:=hp.1;rw [insP,if_pos (decide_eq_true hgt)];by_cases h1:sl x<(n:Int)
   ·have ih:=BFx9 hp.2 (fun y hy=>hn y (Zch _ hy)) n;have e:insP (fun x=>decide (sl x>sl u)) u r=u::r:=by
     cases r with
     |nil=>rfl
     |cons y q=>rw [insP,if_pos (decide_eq_true (by have:=hall y Zby;omega))]
    rw [e] at ih;have hu1:sl u<(n:Int):=by omega
    have hne:(sl u==(n:Int))=false:=by simp;omega
    have hxe:(sl x==(n:Int))=false:=by simp;omega
    simp only [List.filter_cons,decide_eq_true (show sl u<((n+1:Nat):Int) by omega),decide_eq_true hu1,if_true,hne,Zcm,if_false,Zco,Zdv,List.cons.injEq,true_and] at ih;simp only [List.filter_cons,decide_eq_true (show sl u<((n+1:Nat):Int) by omega),decide_eq_true hu1,decide_eq_true h1,decide_eq_true (show sl x<((n+1:Nat):Int) by omega),if_true,hne,hxe,Zcm,if_false,Zco,Zdv,ih]
   ·have k1:=key r hall n (by omega);have hxu:sl u<sl x:=hgt;have hd:decide (sl x<(n:Int))=false:=decide_eq_false h1;by_cases h2:sl x=(n:Int)
    ·have k2:r.filter (fun y=>decide (sl y<((n+1:Nat):Int)))= []:=by
      rw [List.filter_eq_nil_iff];intro y hy;have:=hall y hy;simp;omega
     have k3:=key2 r hall (by omega);have hne:(sl u==(n:Int))=false:=by simp;omega
     simp only [List.filter_cons,decide_eq_true (show sl u<((n+1:Nat):Int) by omega),decide_eq_true (show sl u<(n:Int) by omega),hd,decide_eq_true (show sl x<((n+1:Nat):Int) by omega),if_true,hne,show (sl x==(n:Int))=true by simp [h2],Zcm,if_false,Zco,Zdv,k1,k2,k3];rfl
    ·have k2:=key r hall (n+1) (by omega);have k3:=key2 r hall (by omega);have hd2:decide (sl x<((n+1:Nat):Int))=false:=decide_eq_false (by omega);simp only [List.filter_cons,hd,hd2,show (sl x==(n:Int))=false by simpa using h2,Zcm,if_false,k1,k2,k3,List.nil_append];have h5:=ARt9 sl u n;simp only [List.filter_cons,List.filter_nil] at h5;exact h5
  ·have ih:=BFx9 hp.2 (fun y hy=>hn y (Zch _ hy)) n;rw [insP,if_neg (by simpa using hgt)];have hlt:sl x<sl u:=by omega
   have hgr:∀y∈insP (fun x=>decide (sl x>sl u)) u r,sl x<sl y:=fun y hy=>by
    rcases Zbu.1 ((AFs9 _ _ r).mem_iff.1 hy) with rfl|hy
    ·exact hlt
    ·exact hp.1 y hy
   by_cases h1:sl x<(n:Int)
   ·simp only [List.filter_cons,decide_eq_true h1,decide_eq_true (show sl x<((n+1:Nat):Int) by omega),if_true,show (sl x==(n:Int))=false by simp;omega,Zcm,if_false,ih,Zdv]
   ·have k1:=key _ hgr n (by omega);have k3:=key2 r hp.1 (by omega);have hnu:(sl u==(n:Int))=false:=by simp;omega
    by_cases h2:sl x=(n:Int)
    ·have k2:(insP (fun x=>decide (sl x>sl u)) u r).filter (fun y=>decide (sl y<((n+1:Nat):Int)))= []:=by
      rw [List.filter_eq_nil_iff];intro y hy;have:=hgr y hy;simp;omega
     simp only [List.filter_cons,decide_eq_false h1,decide_eq_true (show sl x<((n+1:Nat):Int) by omega),if_true,show (sl x==(n:Int))=true by simp [h2],hnu,Zcm,if_false,k1,k2,k3,List.nil_append,Zco]
    ·have k2:=key _ hgr (n+1) (by omega);simp only [List.filter_cons,decide_eq_false h1,decide_eq_false (show ¬sl x<((n+1:Nat):Int) by omega),show (sl x==(n:Int))=false by simpa using h2,hnu,Zcm,if_false,k1,k2,k3,List.nil_append]
theorem BSw9 {α:Type} {sl:α→Int} {u:α} {l:List α} (hp:l.Pairwise (fun a b=>sl a<sl b)) (hn:∀x∈l,sl x≠sl u) (h0:∀x∈l,0≤sl x) (hu:0≤sl u):∀n:Nat,bySl sl l u n=(insP (fun x=>decide (sl x>sl u)) u l).filter (fun x=>decide (sl x<(n:Int)))
 | 0=>by
  rw [bySl];symm;rw [List.filter_eq_nil_iff];intro y hy;rcases Zbu.1 ((AFs9 _ _ l).mem_iff.1 hy) with rfl|hy
  ·simp;omega
  ·have:=h0 y hy;simp;omega
 |n+1=>by rw [bySl,BSw9 hp hn h0 hu n,BFx9 hp hn n]
theorem BSx9 {α:Type} {sl:α→Int} {u:α} {l:List α} {da:Int} (hp:l.Pairwise (fun a b=>sl a<sl b)) (hn:∀x∈l,sl x≠sl u) (h0:∀x∈l,0≤sl x∧sl x<da) (hu:0≤sl u∧sl u<da):bySl sl l u da.toNat=insP (fun x=>decide (sl x>sl u)) u l:=by
 rw [BSw9 hp hn (fun x hx=>(h0 x hx).1) hu.1,List.filter_eq_self.2];intro y hy;rcases Zbu.1 ((AFs9 _ _ l).mem_iff.1 hy) with rfl|hy
 ·exact decide_eq_true (by omega)
 ·exact decide_eq_true (by have:=h0 y hy;omega)
theorem AJq9 {α:Type} (p:α→Bool) {l:List α} {i:Nat} {x:α} (h:l[i]? =some x):(l.take (i+1)).filter p=(l.take i).filter p++(if p x=true then [x] else []):=by
 rw [List.take_add_one,h,List.filter_append];simp only [Option.toList_some,List.filter_cons,List.filter_nil]
def nilB3:Blk:=⟨[nilA,nilA,nilA],false,false,0⟩
def tmAd (s:Int) (k:AV):List AV:= [.bad, .bad, .bad, .ptr 0 0, .ptr 1 0, .ptr 2 0, .ptr 3 0, .bad, .bad, .ptr 4 0, .d (i64 s),k]++Zam 70 .bad
def useB4 (u:UseT):Blk:=⟨[.d (i64 u.sl), .d (i64 u.of), .d (i64 u.pe), .d (i64 u.st)],false,false,0⟩
noncomputable def BFq9:Code:=sub [1,1,1,1,1,0,1,2,3,1,0,2,0,1,2,3] (code f68)
noncomputable def BFp9:Code:=sub [1,1,1,1,1,0,1,2,3] (code f68)
abbrev Qz73 (v0:Int) (v1:Int):List AV:=bds 3 (Zae 0 0::Zae 1 0::Zae 2 0::Zae 3 0::Zab::Zab::Zae 4 0::Zad (i64 v0)::Zad (i64 v1)::bds 70 [])
theorem rAdU0 (t:TabT) (ly:LayT) (u:UseT) (xs:List (List Dv)) (o:List GraT) (ak:List AskT) (s k:Int):wpc prog ⟨[], [],wl,y,false⟩ 100 BFq9 (tmAd s (.d (i64 k))) [tabB t,layB ly,useB4 u,nilB3,⟨[.own 61 4 xs, .own 59 5 (rowsG o), .d (.sl 3 (rowsA ak))],false,false,0⟩] b (maskK 5 [3,4,5,6,9,10,11] K)=(BIf (decide (k<((Zaa (rowsU (Zbv t)):Nat):Int))) (BIf (true&&decide (0≤k)) (∃(x0:Int) (x1:Int) (x2:Int) (x3:Int),(rowsU (Zbv t))[Zak k]? =some [i64 x0,i64 x1,i64 x2,i64 x3]∧BIf (x0==s) (BIf (true&&decide (0≤k)) (∃(x6:Int) (x7:Int) (x8:Int) (x9:Int),(rowsU (Zbv t))[Zak k]? =some [i64 x6,i64 x7,i64 x8,i64 x9]∧BIf (true&&decide ((Zaa xs+1)*32≤140737488355328)) (K .normal (bds 3 (Zae 0 0::Zae 1 0::Zae 2 0::Zae 3 0::Zab::Zab::Zae 4 0::Zad (i64 s)::Zad (i64 (Zac .i64 (k+1)))::bds 70 [])) [bk (Qz1 t),bk (Qz3 ly),bk (Qz6 u),bk Qz4,bk [Zcc 61 4 (xs++ [[i64 x6,i64 x7,i64 x8,i64 x9]]),Zcc 59 5 (rowsG o),Zad (Zaj 3 (rowsA ak))]] b) False) False) (K .normal (bds 3 (Zae 0 0::Zae 1 0::Zae 2 0::Zae 3 0::Zab::Zab::Zae 4 0::Zad (i64 s)::Zad (i64 (Zac .i64 (k+1)))::bds 70 [])) [bk (Qz1 t),bk (Qz3 ly),bk (Qz6 u),bk Qz4,bk [Zcc 61 4 xs,Zcc 59 5 (rowsG o),Zad (Zaj 3 (rowsA ak))]] b)) False) (K (Zba 2) (Qz73 s k) [bk (Qz1 t),bk (Qz3 ly),bk (Qz6 u),bk Qz4,bk [Zcc 61 4 xs,Zcc 59 5 (rowsG o),Zad (Zaj 3 (rowsA ak))]] b)):=by kernel_rfl
def adBU (t:TabT) (ly:LayT) (u:UseT) (o:List GraT) (ak:List AskT) (q:List UseT):List Blk:= [tabB t,layB ly,useB4 u,nilB3,⟨[.own 61 4 (rowsU q), .own 59 5 (rowsG o), .d (.sl 3 (rowsA ak))],false,false,0⟩]
theorem CIh9 (t:TabT) (ly:LayT) (u:UseT) (o:List GraT) (ak:List AskT) (s:Nat) (a0:List UseT) (hl:a0.length+t.us.length<1000000)
 (hQ:∀k:Int,Q (.exit 2) ⟨tmAd s (.d (i64 k)),adBU t ly u o ak (a0++t.us.filter (fun x=>x.sl==((s:Nat):Int))),b0⟩):
 WR Ev BFq9 (t.us.length+1) ⟨tmAd s (.d (i64 (0:Nat))),adBU t ly u o ak (a0++(t.us.take 0).filter (fun x=>x.sl==((s:Nat):Int))),b0⟩ Q:=by
 refine WR.scanG (X:=⟨[], [],wlW Ev,Ev.Y,false⟩) (k:=100) (L:=5) [3,4,5,6,9,10,11] mixed (CX.Ok.of Zai Zar) t.us (fun _=>false) (fun k=>tmAd s (.d (i64 (k:Nat)))) (fun k=>adBU t ly u o ak (a0++(t.us.take k).filter (fun x=>x.sl==((s:Nat):Int)))) (fun _=>rfl) 2 0 (fun k x _ hk hx K _ k2=> ?_) (fun K k1=> ?_) (fun _=>by rw [Zdc];exact hQ _) (fun h=>by simp at h) t.us.length 0 (by simp) (Zat _) rfl
 ·have k2:=k2 rfl;have hlen:((t.us.take k).filter (fun x=>x.sl==((s:Nat):Int))).length≤t.us.length:=Nat.le_trans (Zcd _ _) (List.length_take_le' _ _);rw [AJq9 _ hx] at k2;generalize (t.us.take k).filter (fun x=>x.sl==((s:Nat):Int))=ac at k2 hlen ⊢;refine Eq.mpr (rAdU0 _ _ _ K t ly u _ o ak s k) ?_;refine Zas (by rw [AAe9];simp;omega) (Zas (natI k) ⟨_,_,_,_,ABl9 hx,Zax (fun g=>Zas (natI k) ⟨_,_,_,_,ABl9 hx,Zas (by rw [AAe9,Zbi];simp;omega) ?_⟩) fun g=> ?_⟩)
  ·rw [wrapN (by omega)];rw [if_pos (show (x.sl==((s:Nat):Int))=true from g),←Zbm,adBU,AIr9] at k2;exact k2
  ·rw [wrapN (by omega)];rw [if_neg (by rw [show (x.sl==((s:Nat):Int))=false from g];decide),Zco] at k2;exact k2
 ·refine Eq.mpr (rAdU0 _ _ _ K t ly u _ o ak s _) ?_;exact Zci (by rw [AAe9];simp) k1
def BUm9 {β:Type}:WLT β:=fun cd tm hp b K=>∃(t:TabT) (ly:LayT) (u:UseT) (o:List GraT) (ak:List AskT) (s:Nat) (a0 q:List UseT),cd= .loop BFq9∧AAn9 [3,4,5,6,9,10,11] 0 tm=tmAd s (.d (i64 0))∧hp=adBU t ly u o ak a0∧(a0.length+t.us.length<1000000∧q=a0++t.us.filter (fun x=>x.sl==((s:Nat):Int)))∧∀k:Int,K (.exit 2) (tmAd s (.d (i64 k))) (adBU t ly u o ak q) b
theorem BMb9:WlOk Ev BUm9:=by
 rintro c tm hp b K ⟨t,ly,u,o,ak,s,a0,q,rfl,htm,rfl,⟨hl,rfl⟩,hK⟩;refine W.cast (htm▸AAc9 _ tm 0) (Zbg _) ?_;have h1:=CIh9 (Q:=fun e s=>K e s.tm s.hp s.b) (b0:=b) t ly u o ak s a0 hl hK;rw [List.take_zero,List.filter_nil,Zco] at h1;exact W.rounds h1
noncomputable def BFs9:Code:=sub [1,1,1,1,1,0,1,2,3,1,0,2,0,1,2,3] (code f64)
noncomputable def BFr9:Code:=sub [1,1,1,1,1,0,1,2,3] (code f64)
theorem rAdG0 (t:TabT) (ly:LayT) (u:GraT) (xs:List (List Dv)) (o:List UseT) (ak:List AskT) (s k:Int):wpc prog ⟨[], [],wl,y,false⟩ 100 BFs9 (tmAd s (.d (i64 k))) [tabB t,layB ly,graB u,nilB3,⟨[.own 61 4 (rowsU o), .own 59 5 xs, .d (.sl 3 (rowsA ak))],false,false,0⟩] b (maskK 5 [3,4,5,6,9,10,11] K)=(BIf (decide (k<((Zaa (rowsG (Zbx t)):Nat):Int))) (BIf (true&&decide (0≤k)) (∃(x0:Int) (x1:Int) (x2:Int) (x3:Int) (x4:Int),(rowsG (Zbx t))[Zak k]? =some (Qz27 x0 x1 x2 x3 x4)∧BIf (x0==s) (BIf (true&&decide (0≤k)) (∃(x7:Int) (x8:Int) (x9:Int) (x10:Int) (x11:Int),(rowsG (Zbx t))[Zak k]? =some (Qz27 x7 x8 x9 x10 x11)∧BIf (true&&decide ((Zaa xs+1)*40≤140737488355328)) (K .normal (bds 3 (Zae 0 0::Zae 1 0::Zae 2 0::Zae 3 0::Zab::Zab::Zae 4 0::Zad (i64 s)::Zad (i64 (Zac .i64 (k+1)))::bds 70 [])) [bk (Qz1 t),bk (Qz3 ly),bk (Qz5 u),bk Qz4,bk [Zcc 61 4 (rowsU o),Zcc 59 5 (xs++ [Qz27 x7 x8 x9 x10 x11]),Zad (Zaj 3 (rowsA ak))]] b) False) False) (K .normal (bds 3 (Zae 0 0::Zae 1 0::Zae 2 0::Zae 3 0::Zab::Zab::Zae 4 0::Zad (i64 s)::Zad (i64 (Zac .i64 (k+1)))::bds 70 [])) [bk (Qz1 t),bk (Qz3 ly),bk (Qz5 u),bk Qz4,bk [Zcc 61 4 (rowsU o),Zcc 59 5 xs,Zad (Zaj 3 (rowsA ak))]] b)) False) (K (Zba 2) (Qz73 s k) [bk (Qz1 t),bk (Qz3 ly),bk (Qz5 u),bk Qz4,bk [Zcc 61 4 (rowsU o),Zcc 59 5 xs,Zad (Zaj 3 (rowsA ak))]] b)):=by kernel_rfl
def adBG (t:TabT) (ly:LayT) (u:GraT) (o:List UseT) (ak:List AskT) (q:List GraT):List Blk:= [tabB t,layB ly,graB u,nilB3,⟨[.own 61 4 (rowsU o), .own 59 5 (rowsG q), .d (.sl 3 (rowsA ak))],false,false,0⟩]
theorem CIj9 (t:TabT) (ly:LayT) (u:GraT) (o:List UseT) (ak:List AskT) (s:Nat) (a0:List GraT) (hl:a0.length+t.gs.length<1000000)
 (hQ:∀k:Int,Q (.exit 2) ⟨tmAd s (.d (i64 k)),adBG t ly u o ak (a0++t.gs.filter (fun x=>x.sl==((s:Nat):Int))),b0⟩):
 WR Ev BFs9 (t.gs.length+1) ⟨tmAd s (.d (i64 (0:Nat))),adBG t ly u o ak (a0++(t.gs.take 0).filter (fun x=>x.sl==((s:Nat):Int))),b0⟩ Q:=by
 refine WR.scanG (X:=⟨[], [],wlW Ev,Ev.Y,false⟩) (k:=100) (L:=5) [3,4,5,6,9,10,11] mixed (CX.Ok.of Zai Zar) t.gs (fun _=>false) (fun k=>tmAd s (.d (i64 (k:Nat)))) (fun k=>adBG t ly u o ak (a0++(t.gs.take k).filter (fun x=>x.sl==((s:Nat):Int)))) (fun _=>rfl) 2 0 (fun k x _ hk hx K _ k2=> ?_) (fun K k1=> ?_) (fun _=>by rw [Zdc];exact hQ _) (fun h=>by simp at h) t.gs.length 0 (by simp) (Zat _) rfl
 ·have k2:=k2 rfl;have hlen:((t.gs.take k).filter (fun x=>x.sl==((s:Nat):Int))).length≤t.gs.length:=Nat.le_trans (Zcd _ _) (List.length_take_le' _ _);rw [AJq9 _ hx] at k2;generalize (t.gs.take k).filter (fun x=>x.sl==((s:Nat):Int))=ac at k2 hlen ⊢;refine Eq.mpr (rAdG0 _ _ _ K t ly u _ o ak s k) ?_;refine Zas (by rw [AAd9];simp;omega) (Zas (natI k) ⟨_,_,_,_,_,ABb9 hx,Zax (fun g=>Zas (natI k) ⟨_,_,_,_,_,ABb9 hx,Zas (by rw [AAd9,Zbi];simp;omega) ?_⟩) fun g=> ?_⟩)
  ·rw [wrapN (by omega)];rw [if_pos (show (x.sl==((s:Nat):Int))=true from g),←Zbm,adBG,AFq9] at k2;exact k2
  ·rw [wrapN (by omega)];rw [if_neg (by rw [show (x.sl==((s:Nat):Int))=false from g];decide),Zco] at k2;exact k2
 ·refine Eq.mpr (rAdG0 _ _ _ K t ly u _ o ak s _) ?_;exact Zci (by rw [AAd9];simp) k1
def BUo9 {β:Type}:WLT β:=fun cd tm hp b K=>∃(t:TabT) (ly:LayT) (u:GraT) (o:List UseT) (ak:List AskT) (s:Nat) (a0 q:List GraT),cd= .loop BFs9∧AAn9 [3,4,5,6,9,10,11] 0 tm=tmAd s (.d (i64 0))∧hp=adBG t ly u o ak a0∧(a0.length+t.gs.length<1000000∧q=a0++t.gs.filter (fun x=>x.sl==((s:Nat):Int)))∧∀k:Int,K (.exit 2) (tmAd s (.d (i64 k))) (adBG t ly u o ak q) b
theorem BMc9:WlOk Ev BUo9:=by
 rintro c tm hp b K ⟨t,ly,u,o,ak,s,a0,q,rfl,htm,rfl,⟨hl,rfl⟩,hK⟩;refine W.cast (htm▸AAc9 _ tm 0) (Zbg _) ?_;have h1:=CIj9 (Q:=fun e s=>K e s.tm s.hp s.b) (b0:=b) t ly u o ak s a0 hl hK;rw [List.take_zero,List.filter_nil,Zco] at h1;exact W.rounds h1
end Go.Proofs.YthcbbmnjikhihaaGreat.Am