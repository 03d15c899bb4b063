import Derived.Test.YthcbbmnjikhihaaGreatPmJ5
set_option linter.unusedSimpArgs false
set_option linter.unusedVariables false
namespace Go.Proofs.YthcbbmnjikhihaaGreat.Am
open Go Go.RowKit Go.Proofs Tryz
open AV renaming agg → Zan, bad → Zab, d → Zad, own → Zcc, ptr → Zae
open BIf renaming f → Zci, of → Zax, t → Zas
open Bool renaming and_comm → Zgc, and_eq_true → Zal, and_false → Zcn, and_self → Zfm, false_and → Zdb, not_eq_false' → Zcx, not_eq_true' → Zcb, true_and → Zec
open AAb9 renaming cons → Zag, nil → Zai
open Go.Code renaming loop → Zaq
open Dv renaming sl → Zaj
open Go.Exit renaming exit → Zba
open GraT renaming sl → Zds
open Int renaming toNat → Zak
open Go.IntKind renaming i64 → Zbb, wrap → Zac
open LayT renaming da → Zbr
open LeA renaming nilOwn → Zfj
open LeH renaming refl → Zbg
open List renaming any_filter → Zed, append_assoc → Zbm, append_nil → Zco, filter → Zcf, foldl_cons → Zef, length → Zaa, length_append → Zbi, length_filter_le → Zcd, length_singleton → Zgf, mem_of_getElem? → Zbj, range → Zbs, replicate → Zam, take_add_one → Zem, take_length → Zdc
open Nat renaming le_refl → Zat, le_trans → Zdq
open NearT renaming ak → Zdw, fm → Zcy, gs → Zce
open AAl9 renaming nil → Zar
open TabT renaming ak → Zck, gs → Zbx, us → Zbv
open UseT renaming sl → Zdl
variable {β:Type} (wl:WLT β) (y:ADo9 β) (b:β) (R:AV→β→Prop) (K:Exit→List AV→List Blk→β→Prop) (Q:β→Prop)
open AV (bad)
set_option linter.unusedVariables false
set_option maxRecDepth 20000
set_option maxHeartbeats 1000000
variable {Ev:Env prog} {b0:Ev.β} {Q:Exit→St Ev.β→Prop}
abbrev Qz35 (v0:List UseT) (v1:List GraT) (v2:List AskT):List AV:= [Zcc 61 4 (rowsU v0),Zcc 59 5 (rowsG v1),Zad (Zaj 3 (rowsA v2))]
theorem rAdU1 (t:TabT) (ly:LayT) (u:UseT) (q:List UseT) (o:List GraT) (ak:List AskT) (s:Nat):wpc prog ⟨[], [],BUm9,y,false⟩ 100 BFp9 (tmAd s .bad) (adBU t ly u o ak q) b (maskK 5 [3,4,5,6,9,10] K)=(BIf (decide ((s:Int)<Zbr ly)) (∃(t0:TabT) (ly1:LayT) (u2:UseT) (o3:List GraT) (ak4:List AskT) (s5:Nat) (a6:List UseT) (q7:List UseT),Zaq BFq9=Zaq BFq9∧(bds 3 (Zae 0 0::Zae 1 0::Zae 2 0::Zae 3 0::Zab::Zab::Zae 4 0::Zad (i64 (s:Int))::Zad (i64 0)::bds 70 []))=(bds 3 (Zae 0 0::Zae 1 0::Zae 2 0::Zae 3 0::Zab::Zab::Zae 4 0::Zad (i64 (s5:Int))::Zad (i64 0)::bds 70 []))∧ [bk (Qz1 t),bk (Qz3 ly),bk (Qz6 u),bk Qz4,bk (Qz35 q o ak)]= [bk (Qz1 t0),bk (Qz3 ly1),bk (Qz6 u2),bk Qz4,bk (Qz35 a6 o3 ak4)]∧(Zaa a6+Zaa (Zbv t0)<1000000∧q7=a6++Zcf (fun (x8:UseT)=>Zdl x8==(s5:Int)) (Zbv t0))∧∀(k:Int),BIf (Zdl u2==(s5:Int)) (BIf (true&&decide ((Zaa (rowsU q7)+1)*32≤140737488355328)) (K .normal (bds 3 (Zae 0 0::Zae 1 0::Zae 2 0::Zae 3 0::Zab::Zab::Zae 4 0::Zad (i64 (Zac .i64 ((s5:Int)+(1:Int))))::bds 71 [])) [bk (Qz1 t0),bk (Qz3 ly1),bk (Qz6 u2),bk Qz4,bk [Zcc 61 4 (rowsU q7++ [Qz13 u2]),Zcc 59 5 (rowsG o3),Zad (Zaj 3 (rowsA ak4))]] b) False) (K .normal (bds 3 (Zae 0 0::Zae 1 0::Zae 2 0::Zae 3 0::Zab::Zab::Zae 4 0::Zad (i64 (Zac .i64 ((s5:Int)+(1:Int))))::bds 71 [])) [bk (Qz1 t0),bk (Qz3 ly1),bk (Qz6 u2),bk Qz4,bk (Qz35 q7 o3 ak4)] b)) (K (Zba 0) (bds 3 (Zae 0 0::Zae 1 0::Zae 2 0::Zae 3 0::Zab::Zab::Zae 4 0::Zad (i64 (s:Int))::bds 71 [])) [bk (Qz1 t),bk (Qz3 ly),bk (Qz6 u),bk Qz4,bk (Qz35 q o ak)] b)):=by kernel_rfl
theorem CIg9 (t:TabT) (ly:LayT) (u:UseT) (o:List GraT) (ak:List AskT) (hd:0≤ly.da∧ly.da≤60) (hl:t.us.length<10000)
 (hQ:∀i:Int,Q (.exit 0) ⟨tmAd i .bad,adBU t ly u o ak (bySl (fun x:UseT=>x.sl) t.us u ly.da.toNat),b0⟩):
 WR Ev BFp9 ((Zbs ly.da.toNat).length+1) ⟨tmAd ((0:Nat):Int) .bad,adBU t ly u o ak (bySl (fun x:UseT=>x.sl) t.us u 0),b0⟩ Q:=by
 refine WR.scanG (X:=⟨[], [],BUm9,Ev.Y,false⟩) (k:=100) (L:=5) [3,4,5,6,9,10] mixed (CX.Ok.ofWl Zai Zar BMb9) (Zbs ly.da.toNat) (fun _=>false) (fun i=>tmAd (i:Nat) .bad) (fun i=>adBU t ly u o ak (bySl (fun x:UseT=>x.sl) t.us u i)) (fun _=>rfl) 0 0 (fun i x _ hi hx K _ k2=> ?_) (fun K k1=> ?_) (fun _=>by rw [List.length_range];exact hQ _) (fun h=>by simp at h) (Zbs ly.da.toNat).length 0 (by simp) (Zat _) rfl
 ·have k2:=k2 rfl;have hi':i<ly.da.toNat:=by simpa using hi
  have hb:=AWb9 (fun x:UseT=>x.sl) t.us u i;have hb2:i*(t.us.length+1)≤60*10000:=Nat.mul_le_mul (by omega) (by omega);have hf:=Zcd (fun x:UseT=>x.sl==((i:Nat):Int)) t.us;refine Eq.mpr (rAdU1 _ _ K t ly u _ o ak i) ?_;refine Zas (decide_eq_true (by omega)) ⟨t,ly,u,o,ak,i,bySl (fun x:UseT=>x.sl) t.us u i,_,rfl,rfl,rfl,⟨by omega,rfl⟩,fun k=>Zax (fun g=> ?_) fun g=> ?_⟩
  ·rw [wrapN (by omega)];refine Zas (by rw [AAe9,Zbi];simp;omega) ?_;rw [bySl,if_pos (show (u.sl==((i:Nat):Int))=true from g),←Zbm,adBU,AIr9] at k2;exact k2
  ·rw [wrapN (by omega)];rw [bySl,if_neg (by rw [show (u.sl==((i:Nat):Int))=false from g];decide),Zco] at k2;exact k2
 ·refine Eq.mpr (rAdU1 _ _ K t ly u _ o ak _) ?_;exact Zci (by simp;omega) k1
def wlAdU {β:Type}:WLT β:=fun cd tm hp b K=>∃(t:TabT) (ly:LayT) (u:UseT) (o:List GraT) (ak:List AskT) (q:List UseT),cd= .loop BFp9∧AAn9 [3,4,5,6,9,10] 0 tm=tmAd 0 .bad∧LeH hp (adBU t ly u o ak [])∧((0≤ly.da∧ly.da≤60)∧t.us.length<10000∧q=bySl (fun x:UseT=>x.sl) t.us u ly.da.toNat)∧∀i:Int,K (.exit 0) (tmAd i .bad) (adBU t ly u o ak q) b
theorem BUl9:WlOk Ev wlAdU:=by
 rintro c tm hp b K ⟨t,ly,u,o,ak,q,rfl,htm,hhp,⟨hd,hl,rfl⟩,hK⟩;refine W.cast (htm▸AAc9 _ tm 0) hhp ?_;exact W.rounds (CIg9 (Q:=fun e s=>K e s.tm s.hp s.b) (b0:=b) t ly u o ak hd hl hK)
def TAdRU:CT:= [(71,ATb9),(110,cRefR),(111,BIa9)]
theorem BZx9:AAb9 prog TAdRU:=Zag AXt9 (Zag BIi9 (Zag ATc9 Zai))
abbrev Qz34:List AV:=bds 3 (Zae 0 0::Zae 1 0::Zae 2 0::Zae 3 0::Zab::Zab::Zae 4 0::Zad (i64 0)::bds 71 [])
theorem BZa9 (t:TabT) (ly:LayT) (u:UseT):wpFn prog ⟨TAdRU, [],wlAdU,y,false⟩ 100 f68 [tabA t,layA ly,useA u] b R=(∃(u0:UseT) (l1:LayT) (z2:Bool), [Zan (Qz6 u),Zan (Qz3 ly)]= [Zan (Qz6 u0),Zan (Qz3 l1)]∧z2=useOk u0 l1∧∃(t3:TabT) (ly4:LayT) (s5:Int) (z6:Bool) (q7:Int), [Zan (Qz1 t),Zan (Qz3 ly),Zad (i64 (Zdl u)),Zad (bo z2)]= [Zan (Qz1 t3),Zan (Qz3 ly4),Zad (i64 s5),Zad (bo z6)]∧(TabOk t3∧q7=refS t3 ly4 s5 z6)∧BIf (q7 !=(0:Int)) (R (.tup [Zan Qz4,Zad (i64 q7)]) b) (∃(l8:List AskT) (s9:Int) (q10:List AskT), [Zad (Zaj 3 (rowsA (Zck t))),Zad (i64 (Zdl u))]= [Zad (Zaj 3 (rowsA l8)),Zad (i64 s9)]∧(Zaa l8<1000000∧q10=Zcf (fun (x11:AskT)=> !AskT.sl x11==s9) l8)∧BIf (decide (Zaa (rowsG (Zbx t))*40≤140737488355328)) (∃(t12:TabT) (ly13:LayT) (u14:UseT) (o15:List GraT) (ak16:List AskT) (q17:List UseT),Zaq BFp9=Zaq BFp9∧Qz34=Qz34∧LeH [bk (Qz1 t),bk (Qz3 ly),bk (Qz6 u),bk Qz4,bk [Zad (Dv.s (.slice none 0 0)),Zcc 59 5 (rowsG (Zbx t)),Zad (Zaj 3 (rowsA q10))]] [bk (Qz1 t12),bk (Qz3 ly13),bk (Qz6 u14),bk Qz4,bk [Zcc 61 4 (rowsU []),Zcc 59 5 (rowsG o15),Zad (Zaj 3 (rowsA ak16))]]∧(((0:Int)≤Zbr ly13∧Zbr ly13≤(60:Int))∧Zaa (Zbv t12)<10000∧q17=bySl (fun (x18:UseT)=>Zdl x18) (Zbv t12) u14 (Zak (Zbr ly13)))∧∀(i:Int),R (.tup [Zan (Qz41 q17 o15 ak16),Zad (i64 0)]) b) False)):=by kernel_rfl
theorem rAdG1 (t:TabT) (ly:LayT) (u:GraT) (q:List GraT) (o:List UseT) (ak:List AskT) (s:Nat):wpc prog ⟨[], [],BUo9,y,false⟩ 100 BFr9 (tmAd s .bad) (adBG t ly u o ak q) b (maskK 5 [3,4,5,6,9,10] K)=(BIf (decide ((s:Int)<Zbr ly)) (∃(t0:TabT) (ly1:LayT) (u2:GraT) (o3:List UseT) (ak4:List AskT) (s5:Nat) (a6:List GraT) (q7:List GraT),Zaq BFs9=Zaq BFs9∧(bds 3 (Zae 0 0::Zae 1 0::Zae 2 0::Zae 3 0::Zab::Zab::Zae 4 0::Zad (i64 (s:Int))::Zad (i64 0)::bds 70 []))=(bds 3 (Zae 0 0::Zae 1 0::Zae 2 0::Zae 3 0::Zab::Zab::Zae 4 0::Zad (i64 (s5:Int))::Zad (i64 0)::bds 70 []))∧ [bk (Qz1 t),bk (Qz3 ly),bk (Qz5 u),bk Qz4,bk (Qz35 o q ak)]= [bk (Qz1 t0),bk (Qz3 ly1),bk (Qz5 u2),bk Qz4,bk (Qz35 o3 a6 ak4)]∧(Zaa a6+Zaa (Zbx t0)<1000000∧q7=a6++Zcf (fun (x8:GraT)=>Zds x8==(s5:Int)) (Zbx t0))∧∀(k:Int),BIf (Zds u2==(s5:Int)) (BIf (true&&decide ((Zaa (rowsG q7)+1)*40≤140737488355328)) (K .normal (bds 3 (Zae 0 0::Zae 1 0::Zae 2 0::Zae 3 0::Zab::Zab::Zae 4 0::Zad (i64 (Zac .i64 ((s5:Int)+(1:Int))))::bds 71 [])) [bk (Qz1 t0),bk (Qz3 ly1),bk (Qz5 u2),bk Qz4,bk [Zcc 61 4 (rowsU o3),Zcc 59 5 (rowsG q7++ [Qz14 u2]),Zad (Zaj 3 (rowsA ak4))]] b) False) (K .normal (bds 3 (Zae 0 0::Zae 1 0::Zae 2 0::Zae 3 0::Zab::Zab::Zae 4 0::Zad (i64 (Zac .i64 ((s5:Int)+(1:Int))))::bds 71 [])) [bk (Qz1 t0),bk (Qz3 ly1),bk (Qz5 u2),bk Qz4,bk (Qz35 o3 q7 ak4)] b)) (K (Zba 0) (bds 3 (Zae 0 0::Zae 1 0::Zae 2 0::Zae 3 0::Zab::Zab::Zae 4 0::Zad (i64 (s:Int))::bds 71 [])) [bk (Qz1 t),bk (Qz3 ly),bk (Qz5 u),bk Qz4,bk (Qz35 o q ak)] b)):=by kernel_rfl
theorem CIi9 (t:TabT) (ly:LayT) (u:GraT) (o:List UseT) (ak:List AskT) (hd:0≤ly.da∧ly.da≤60) (hl:t.gs.length<10000)
 (hQ:∀i:Int,Q (.exit 0) ⟨tmAd i .bad,adBG t ly u o ak (bySl (fun x:GraT=>x.sl) t.gs u ly.da.toNat),b0⟩):
 WR Ev BFr9 ((Zbs ly.da.toNat).length+1) ⟨tmAd ((0:Nat):Int) .bad,adBG t ly u o ak (bySl (fun x:GraT=>x.sl) t.gs u 0),b0⟩ Q:=by
 refine WR.scanG (X:=⟨[], [],BUo9,Ev.Y,false⟩) (k:=100) (L:=5) [3,4,5,6,9,10] mixed (CX.Ok.ofWl Zai Zar BMc9) (Zbs ly.da.toNat) (fun _=>false) (fun i=>tmAd (i:Nat) .bad) (fun i=>adBG t ly u o ak (bySl (fun x:GraT=>x.sl) t.gs u i)) (fun _=>rfl) 0 0 (fun i x _ hi hx K _ k2=> ?_) (fun K k1=> ?_) (fun _=>by rw [List.length_range];exact hQ _) (fun h=>by simp at h) (Zbs ly.da.toNat).length 0 (by simp) (Zat _) rfl
 ·have k2:=k2 rfl;have hi':i<ly.da.toNat:=by simpa using hi
  have hb:=AWb9 (fun x:GraT=>x.sl) t.gs u i;have hb2:i*(t.gs.length+1)≤60*10000:=Nat.mul_le_mul (by omega) (by omega);have hf:=Zcd (fun x:GraT=>x.sl==((i:Nat):Int)) t.gs;refine Eq.mpr (rAdG1 _ _ K t ly u _ o ak i) ?_;refine Zas (decide_eq_true (by omega)) ⟨t,ly,u,o,ak,i,bySl (fun x:GraT=>x.sl) t.gs u i,_,rfl,rfl,rfl,⟨by omega,rfl⟩,fun k=>Zax (fun g=> ?_) fun g=> ?_⟩
  ·rw [wrapN (by omega)];refine Zas (by rw [AAd9,Zbi];simp;omega) ?_;rw [bySl,if_pos (show (u.sl==((i:Nat):Int))=true from g),←Zbm,adBG,AFq9] at k2;exact k2
  ·rw [wrapN (by omega)];rw [bySl,if_neg (by rw [show (u.sl==((i:Nat):Int))=false from g];decide),Zco] at k2;exact k2
 ·refine Eq.mpr (rAdG1 _ _ K t ly u _ o ak _) ?_;exact Zci (by simp;omega) k1
def wlAdG {β:Type}:WLT β:=fun cd tm hp b K=>∃(t:TabT) (ly:LayT) (u:GraT) (o:List UseT) (ak:List AskT) (q:List GraT),cd= .loop BFr9∧AAn9 [3,4,5,6,9,10] 0 tm=tmAd 0 .bad∧LeH hp (adBG t ly u o ak [])∧((0≤ly.da∧ly.da≤60)∧t.gs.length<10000∧q=bySl (fun x:GraT=>x.sl) t.gs u ly.da.toNat)∧∀i:Int,K (.exit 0) (tmAd i .bad) (adBG t ly u o ak q) b
theorem BUn9:WlOk Ev wlAdG:=by
 rintro c tm hp b K ⟨t,ly,u,o,ak,q,rfl,htm,hhp,⟨hd,hl,rfl⟩,hK⟩;refine W.cast (htm▸AAc9 _ tm 0) hhp ?_;exact W.rounds (CIi9 (Q:=fun e s=>K e s.tm s.hp s.b) (b0:=b) t ly u o ak hd hl hK)
def TAdRG:CT:= [(72,ATf9),(110,cRefR),(111,BIa9)]
theorem BZy9:AAb9 prog TAdRG:=Zag AYl9 (Zag BIi9 (Zag ATc9 Zai))
theorem BZb9 (t:TabT) (ly:LayT) (u:GraT):wpFn prog ⟨TAdRG, [],wlAdG,y,false⟩ 100 f64 [tabA t,layA ly,graA u] b R=(∃(u0:GraT) (l1:LayT) (z2:Bool), [Zan (Qz5 u),Zan (Qz3 ly)]= [Zan (Qz5 u0),Zan (Qz3 l1)]∧z2=graOk u0 l1∧∃(t3:TabT) (ly4:LayT) (s5:Int) (z6:Bool) (q7:Int), [Zan (Qz1 t),Zan (Qz3 ly),Zad (i64 (Zds u)),Zad (bo z2)]= [Zan (Qz1 t3),Zan (Qz3 ly4),Zad (i64 s5),Zad (bo z6)]∧(TabOk t3∧q7=refS t3 ly4 s5 z6)∧BIf (q7 !=(0:Int)) (R (.tup [Zan Qz4,Zad (i64 q7)]) b) (∃(l8:List AskT) (s9:Int) (q10:List AskT), [Zad (Zaj 3 (rowsA (Zck t))),Zad (i64 (Zds u))]= [Zad (Zaj 3 (rowsA l8)),Zad (i64 s9)]∧(Zaa l8<1000000∧q10=Zcf (fun (x11:AskT)=> !AskT.sl x11==s9) l8)∧BIf (decide (Zaa (rowsU (Zbv t))*32≤140737488355328)) (∃(t12:TabT) (ly13:LayT) (u14:GraT) (o15:List UseT) (ak16:List AskT) (q17:List GraT),Zaq BFr9=Zaq BFr9∧Qz34=Qz34∧LeH [bk (Qz1 t),bk (Qz3 ly),bk (Qz5 u),bk Qz4,bk [Zcc 61 4 (rowsU (Zbv t)),Zad (Dv.s (.slice none 0 0)),Zad (Zaj 3 (rowsA q10))]] [bk (Qz1 t12),bk (Qz3 ly13),bk (Qz5 u14),bk Qz4,bk [Zcc 61 4 (rowsU o15),Zcc 59 5 (rowsG []),Zad (Zaj 3 (rowsA ak16))]]∧(((0:Int)≤Zbr ly13∧Zbr ly13≤(60:Int))∧Zaa (Zbx t12)<10000∧q17=bySl (fun (x18:GraT)=>Zds x18) (Zbx t12) u14 (Zak (Zbr ly13)))∧∀(i:Int),R (.tup [Zan (Qz41 o15 q17 ak16),Zad (i64 0)]) b) False)):=by kernel_rfl
theorem CCk9 {u:UseT} {ly:LayT} (h:useOk u ly=true):0≤u.sl∧u.sl<ly.da:=by
 simp only [useOk,ABc9,Zal,decide_eq_true_eq] at h;exact ⟨h.1.1,h.1.2.1⟩
theorem CEz9 {u:GraT} {ly:LayT} (h:graOk u ly=true):0≤u.sl∧u.sl<ly.da:=by
 simp only [graOk,ABc9,Zal,decide_eq_true_eq] at h;exact ⟨h.1.1,h.1.2.1⟩
def CGn9:CF:=fun args K=>∃(t z:TabT) (ly:LayT) (u:UseT) (e:Int),args= [tabA t,layA ly,useA u]∧(TabOk t∧z=addSU t ly u∧e=refEU t ly u)∧K (.tup [tabA z, .d (i64 e)])
theorem BPy9:COk 68 CGn9:=by
 rintro _ K ⟨t,_,ly,u,_,rfl,⟨h,rfl,rfl⟩,hk⟩;refine ⟨_, ?_,hk⟩;refine pcV @wlAdU BZx9 BUl9 func68 fun Ev bb=> ?_;rw [BZa9,AAd9];refine ⟨u,ly,_,rfl,rfl,t,ly,u.sl,_,_,rfl,⟨h,rfl⟩,Zax (fun h1=> ?_) fun h1=>⟨t.ak,u.sl,_,rfl,⟨by have:=h.2.2;omega,rfl⟩,Zas (decide_eq_true (by have:=h.1;have:=h.2.1;omega)) ?_⟩⟩
 ·have h2:¬refEU t ly u=0:=by rw [refEU];simpa using h1
  rw [addSU,if_neg h2];exact AOv9 _
 ·have h2:refEU t ly u=0:=by rw [refEU];simpa using h1
  obtain ⟨v1,v2,v3,_⟩:=AHa9 h2;have hv:=ABf9 v1;have hp:=ADj9.1 v1;obtain ⟨b1,b2⟩:=ATj9 v3;refine ⟨t,ly,u,t.gs,_,_,rfl,rfl, .cons (.refl _) (.cons (.refl _) (.cons (.refl _) (.cons (.refl _) (.cons (.cons (Zfj rfl) (.cons .rfl (.cons .rfl .nil))) .nil)))),⟨⟨by omega,by omega⟩,h.1,rfl⟩,fun i=> ?_⟩;have e:bySl (fun x:UseT=>x.sl) t.us u ly.da.toNat=insSU u t.us:=BSx9 (hp.2.2.1.2) b1 (fun x hx=>CCk9 (hp.2.2.1.1 x hx)) (CCk9 v2);rw [e,addSU,if_pos h2,h2];exact .rfl
def CGo9:CF:=fun args K=>∃(t z:TabT) (ly:LayT) (u:GraT) (e:Int),args= [tabA t,layA ly,graA u]∧(TabOk t∧z=addSG t ly u∧e=refEG t ly u)∧K (.tup [tabA z, .d (i64 e)])
theorem BPz9:COk 64 CGo9:=by
 rintro _ K ⟨t,_,ly,u,_,rfl,⟨h,rfl,rfl⟩,hk⟩;refine ⟨_, ?_,hk⟩;refine pcV @wlAdG BZy9 BUn9 func64 fun Ev bb=> ?_;rw [BZb9,AAe9];refine ⟨u,ly,_,rfl,rfl,t,ly,u.sl,_,_,rfl,⟨h,rfl⟩,Zax (fun h1=> ?_) fun h1=>⟨t.ak,u.sl,_,rfl,⟨by have:=h.2.2;omega,rfl⟩,Zas (decide_eq_true (by have:=h.1;have:=h.2.1;omega)) ?_⟩⟩
 ·have h2:¬refEG t ly u=0:=by rw [refEG];simpa using h1
  rw [addSG,if_neg h2];exact AOv9 _
 ·have h2:refEG t ly u=0:=by rw [refEG];simpa using h1
  obtain ⟨v1,v2,v3,_⟩:=AHa9 h2;have hv:=ABf9 v1;have hp:=ADj9.1 v1;obtain ⟨b1,b2⟩:=ATj9 v3;refine ⟨t,ly,u,t.us,_,_,rfl,rfl, .cons (.refl _) (.cons (.refl _) (.cons (.refl _) (.cons (.refl _) (.cons (.cons .rfl (.cons (Zfj rfl) (.cons .rfl .nil))) .nil)))),⟨⟨by omega,by omega⟩,h.2.1,rfl⟩,fun i=> ?_⟩;have e:bySl (fun x:GraT=>x.sl) t.gs u ly.da.toNat=insSG u t.gs:=BSx9 (hp.2.2.2.1.2) b2 (fun x hx=>CEz9 (hp.2.2.2.1.1 x hx)) (CEz9 v2);rw [e,addSG,if_pos h2,h2];exact .rfl
variable {Ev:Env prog} {b0:Ev.β} {Q:Exit→St Ev.β→Prop}
noncomputable def lpXr:Code:=sub [1,1,1,1,0,1,2,3] (code f60)
def tmXr (fr k:Int):List AV:= [.bad, .d (i64 fr), .ptr 0 0, .bad, .ptr 1 0, .ptr 2 0, .d (i64 k)]++Zam 38 .bad
def xrB (t:TabT) (us:List UseT) (ak:List AskT) (q:List GraT):List Blk:= [tabB t,nilB3,⟨[.own 61 4 (rowsU us), .own 59 5 (rowsG q), .own 63 3 (rowsA ak)],false,false,0⟩]
theorem rXr (t:TabT) (us:List UseT) (ak:List AskT) (xs:List (List Dv)) (fr k:Int):wpc prog ⟨[], [],wl,y,false⟩ 100 lpXr (tmXr fr k) [tabB t,nilB3,⟨[.own 61 4 (rowsU us), .own 59 5 xs, .own 63 3 (rowsA ak)],false,false,0⟩] b (maskK 3 [1,2,4,5,6] K)=(BIf (decide (k<((Zaa (rowsG (Zbx t)):Nat):Int))) (BIf (true&&decide (0≤k)) (∃(x0:Int) (x1:Int) (x2:Int) (x3:Int) (x4:Int),(rowsG (Zbx t))[Zak k]? =some (Qz27 x0 x1 x2 x3 x4)∧BIf (decide (x4≥fr)) (BIf (true&&decide (0≤k)) (∃(x7:Int) (x8:Int) (x9:Int) (x10:Int) (x11:Int),(rowsG (Zbx t))[Zak k]? =some (Qz27 x7 x8 x9 x10 x11)∧BIf (true&&decide ((Zaa xs+1)*40≤140737488355328)) (K .normal (Zab::Zad (i64 fr)::Zae 0 0::Zab::Zae 1 0::Zae 2 0::Zad (i64 (Zac .i64 (k+1)))::bds 38 []) [bk (Qz1 t),bk Qz4,bk [Zcc 61 4 (rowsU us),Zcc 59 5 (xs++ [Qz27 x7 x8 x9 x10 x11]),Zcc 63 3 (rowsA ak)]] b) False) False) (K .normal (Zab::Zad (i64 fr)::Zae 0 0::Zab::Zae 1 0::Zae 2 0::Zad (i64 (Zac .i64 (k+1)))::bds 38 []) [bk (Qz1 t),bk Qz4,bk [Zcc 61 4 (rowsU us),Zcc 59 5 xs,Zcc 63 3 (rowsA ak)]] b)) False) (K (Zba 0) (Zab::Zad (i64 fr)::Zae 0 0::Zab::Zae 1 0::Zae 2 0::Zad (i64 k)::bds 38 []) [bk (Qz1 t),bk Qz4,bk [Zcc 61 4 (rowsU us),Zcc 59 5 xs,Zcc 63 3 (rowsA ak)]] b)):=by kernel_rfl
theorem wrXr (t:TabT) (us:List UseT) (ak:List AskT) (fr:Int) (hl:t.gs.length<1000000)
 (hQ:∀k:Int,Q (.exit 0) ⟨tmXr fr k,xrB t us ak (t.gs.filter fun x=>decide (x.un≥fr)),b0⟩):
 WR Ev lpXr (t.gs.length+1) ⟨tmXr fr (0:Nat),xrB t us ak ((t.gs.take 0).filter fun x=>decide (x.un≥fr)),b0⟩ Q:=by
 refine WR.scanG (X:=⟨[], [],wlW Ev,Ev.Y,false⟩) (k:=100) (L:=3) [1,2,4,5,6] mixed (CX.Ok.of Zai Zar) t.gs (fun _=>false) (fun k=>tmXr fr (k:Nat)) (fun k=>xrB t us ak ((t.gs.take k).filter fun x=>decide (x.un≥fr))) (fun _=>rfl) 0 0 (fun k x _ hk hx K _ k2=> ?_) (fun K k1=> ?_) (fun _=>by rw [Zdc];exact hQ _) (fun h=>by simp at h) t.gs.length 0 (by simp) (Zat _) rfl
 ·have k2:=k2 rfl;have hlen:((t.gs.take k).filter fun x=>decide (x.un≥fr)).length≤t.gs.length:=Zdq (Zcd _ _) (List.length_take_le' _ _);rw [AJq9 _ hx] at k2;generalize ((t.gs.take k).filter fun x=>decide (x.un≥fr))=ac at k2 hlen ⊢;refine Eq.mpr (rXr _ _ _ K t us ak _ fr k) ?_;refine Zas (by rw [AAd9];simp;omega) (Zas (natI k) ⟨_,_,_,_,_,ABb9 hx,Zax (fun g=>Zas (natI k) ⟨_,_,_,_,_,ABb9 hx,Zas (by rw [AAd9];simp;omega) ?_⟩) fun g=> ?_⟩)
  ·rw [wrapN (by omega)];rw [if_pos g,xrB,AFq9] at k2;exact k2
  ·rw [wrapN (by omega)];rw [if_neg (by rw [g];decide),Zco] at k2;exact k2
 ·refine Eq.mpr (rXr _ _ _ K t us ak _ fr _) ?_;exact Zci (by rw [AAd9];simp) k1
def wlXr {β:Type}:WLT β:=fun cd tm hp b K=>∃(t:TabT) (us:List UseT) (ak:List AskT) (fr:Int) (q:List GraT),cd= .loop lpXr∧AAn9 [1,2,4,5,6] 0 tm=tmXr fr 0∧LeH hp (xrB t us ak [])∧(t.gs.length<1000000∧q=t.gs.filter fun x=>decide (x.un≥fr))∧∀k:Int,K (.exit 0) (tmXr fr k) (xrB t us ak q) b
theorem CAv9:WlOk Ev wlXr:=by
 rintro c tm hp b K ⟨t,us,ak,fr,q,rfl,htm,hhp,⟨hl,rfl⟩,hK⟩;refine W.cast (htm▸AAc9 _ tm 0) hhp ?_;exact W.rounds (wrXr (Q:=fun e s=>K e s.tm s.hp s.b) (b0:=b) t us ak fr hl hK)
abbrev Qz84 (v0:Int):=Zab::Zad (i64 v0)::Zae 0 0::Zab::Zae 1 0::Zae 2 0::Zad (i64 0)::bds 38 []
theorem CFi9 (t:TabT) (fr:Int):wpFn prog ⟨[], [],wlXr,y,false⟩ 100 f60 [tabA t, .d (i64 fr)] b R=(BIf (decide (Zaa (rowsU (Zbv t))*32≤140737488355328)) (BIf (decide (Zaa (rowsA (Zck t))*24≤140737488355328)) (∃(t0:TabT) (us1:List UseT) (ak2:List AskT) (fr3:Int) (q4:List GraT),Zaq lpXr=Zaq lpXr∧(Qz84 fr)=(Qz84 fr3)∧LeH [bk (Qz1 t),bk Qz4,bk [Zcc 61 4 (rowsU (Zbv t)),Zad (Dv.s (.slice none 0 0)),Zcc 63 3 (rowsA (Zck t))]] [bk (Qz1 t0),bk Qz4,bk [Zcc 61 4 (rowsU us1),Zcc 59 5 (rowsG []),Zcc 63 3 (rowsA ak2)]]∧(Zaa (Zbx t0)<1000000∧q4=Zcf (fun (x5:GraT)=>decide (GraT.un x5≥fr3)) (Zbx t0))∧∀(k:Int),R (.agg (Qz41 us1 q4 ak2)) b) False) False):=by kernel_rfl
theorem CIx9 (t:TabT) (fr:Int) (ht:TabOk t):PCall prog 60 [tabA t, .d (i64 fr)] (tabA (ABv9 t fr)):=by
 refine pcV @wlXr Zai CAv9 func60 fun Ev bb=> ?_;rw [CFi9,AAe9,AAi9];have e:(t.gs.filter fun x=>decide (x.un≥fr))=t.gs.filter fun x=> !decide (x.un<fr):=by
  congr 1;funext x;by_cases h:x.un<fr
  ·rw [decide_eq_true h,decide_eq_false (by omega)];rfl
  ·rw [decide_eq_false h,decide_eq_true (by omega)];rfl
 refine Zas (decide_eq_true (by have:=ht.1;omega)) (Zas (decide_eq_true (by have:=ht.2.2;omega)) ⟨t,t.us,t.ak,fr,_,rfl,rfl, .cons (.refl _) (.cons (.refl _) (.cons (.cons .rfl (.cons (Zfj rfl) (.cons .rfl .nil))) .nil)),⟨by have:=ht.2.1;omega,rfl⟩,fun k=> ?_⟩);rw [e];exact .rfl
def cExpR:CF:=fun args K=>∃(t:TabT) (fr:Int) (q:TabT),args= [tabA t, .d (i64 fr)]∧(TabOk t∧q=ABv9 t fr)∧K (tabA q)
theorem BYr9:COk 60 cExpR:=by
 rintro _ K ⟨t,fr,_,rfl,⟨h,rfl⟩,hk⟩;exact ⟨_,CIx9 t fr h,hk⟩
noncomputable def lpKr:Code:=sub [1,1,1,1,0,1,2,3] (code f16)
noncomputable def lpKs:Code:=sub [1,1,1,1,1,0,1,2,3] (code f16)
def tmKr (me pe many fr:Int) (l:List NearT) (x:AV) (i:Int):List AV:= [.bad, .bad, .d (i64 me), .d (.sl 31 (rowsN l)), .d (i64 pe), .d (i64 many), .d (i64 fr), .ptr 0 0, .ptr 1 0, .bad, .bad, .bad, .bad, .bad, .ptr 2 0, .bad,x, .d (i64 i)]++Zam 129 .bad
def tmKs (me pe many fr:Int) (l:List NearT) (x:AV) (i:Int):List AV:= [.bad, .bad, .d (i64 me), .d (.sl 31 (rowsN l)), .d (i64 pe), .d (i64 many), .d (i64 fr), .ptr 0 0, .ptr 1 0, .bad, .bad, .bad, .bad, .bad, .ptr 2 0, .bad,x, .bad, .bad, .d (i64 i)]++Zam 127 .bad
def TKr:CT:= [(57,BYk9)]
theorem CKl9:AAb9 prog TKr:=Zag AXy9 Zai
def TKs:CT:= [(57,BYk9),(58,CGm9)]
theorem CKk9:AAb9 prog TKs:=Zag AXy9 (Zag BPx9 Zai)
theorem rKr (ly:LayT) (t:TabT) (me pe many fr:Int) (l:List NearT) (q:List AskT) (i:Int):wpc prog ⟨TKr, [],wl,y,false⟩ 100 lpKr (tmKr me pe many fr l (.own 63 3 (rowsA q)) i) [layB ly,tabB t,nilB3] b (maskK 3 [2,3,4,5,6,7,8,14,16,17] K)=(BIf (decide (i<((Zaa (rowsA (Zck t)):Nat):Int))) (BIf (true&&decide (0≤i)) (∃(x0:Int) (x1:Int) (x2:Int),(rowsA (Zck t))[Zak i]? =some [i64 x0,i64 x1,i64 x2]∧∃(ly5:LayT) (t6:TabT) (me7:Int) (l8:List NearT) (pe9:Int) (sl10:Int) (of11:Int) (q12:Bool), [Zan (Qz3 ly),Zan (Qz1 t),Zad (i64 me),Zad (Zaj 31 (rowsN l)),Zad (i64 pe),Zan [Zad (i64 x0),Zad (i64 x1)]]= [Zan (Qz3 ly5),Zan (Qz1 t6),Zad (i64 me7),Zad (Zaj 31 (rowsN l8)),Zad (i64 pe9),Zan [Zad (i64 sl10),Zad (i64 of11)]]∧(Zaa (Zbv t6)≤9223372036854775807∧Zaa (Zbx t6)≤9223372036854775807∧Zaa l8≤9223372036854775807∧(∀(x:NearT),x∈l8→AAo9 x)∧q12=possR ly5 t6 me7 l8 pe9 sl10 of11)∧BIf q12 (BIf (true&&decide (0≤i)) (∃(x13:Int) (x14:Int) (x15:Int),(rowsA (Zck t))[Zak i]? =some [i64 x13,i64 x14,i64 x15]∧BIf (x15==pe) (BIf (decide (((Zaa (rowsA q):Nat):Int)<many)) (BIf (true&&decide (0≤i)) (∃(x18:Int) (x19:Int) (x20:Int),(rowsA (Zck t))[Zak i]? =some [i64 x18,i64 x19,i64 x20]∧BIf (true&&decide ((Zaa (rowsA q)+1)*24≤140737488355328)) (K .normal (Zab::Zab::Zad (i64 me)::Zad (Zaj 31 (rowsN l))::Zad (i64 pe)::Zad (i64 many)::Zad (i64 fr)::Zae 0 0::Zae 1 0::bds 5 (Zae 2 0::Zab::Zcc 63 3 (rowsA q++ [[i64 x18,i64 x19,i64 x20]])::Zad (i64 (Zac .i64 (i+1)))::bds 129 [])) [bk (Qz3 ly),bk (Qz1 t),bk Qz4] b) False) False) (K .normal (Zab::Zab::Zad (i64 me)::Zad (Zaj 31 (rowsN l))::Zad (i64 pe)::Zad (i64 many)::Zad (i64 fr)::Zae 0 0::Zae 1 0::bds 5 (Zae 2 0::Zab::Zcc 63 3 (rowsA q)::Zad (i64 (Zac .i64 (i+1)))::bds 129 [])) [bk (Qz3 ly),bk (Qz1 t),bk Qz4] b)) (K .normal (Zab::Zab::Zad (i64 me)::Zad (Zaj 31 (rowsN l))::Zad (i64 pe)::Zad (i64 many)::Zad (i64 fr)::Zae 0 0::Zae 1 0::bds 5 (Zae 2 0::Zab::Zcc 63 3 (rowsA q)::Zad (i64 (Zac .i64 (i+1)))::bds 129 [])) [bk (Qz3 ly),bk (Qz1 t),bk Qz4] b)) False) (K .normal (Zab::Zab::Zad (i64 me)::Zad (Zaj 31 (rowsN l))::Zad (i64 pe)::Zad (i64 many)::Zad (i64 fr)::Zae 0 0::Zae 1 0::bds 5 (Zae 2 0::Zab::Zcc 63 3 (rowsA q)::Zad (i64 (Zac .i64 (i+1)))::bds 129 [])) [bk (Qz3 ly),bk (Qz1 t),bk Qz4] b)) False) (K (Zba 0) (Zab::Zab::Zad (i64 me)::Zad (Zaj 31 (rowsN l))::Zad (i64 pe)::Zad (i64 many)::Zad (i64 fr)::Zae 0 0::Zae 1 0::bds 5 (Zae 2 0::Zab::Zcc 63 3 (rowsA q)::Zad (i64 i)::bds 129 [])) [bk (Qz3 ly),bk (Qz1 t),bk Qz4] b)):=by kernel_rfl
theorem rKs (ly:LayT) (t:TabT) (me pe many fr:Int) (l:List NearT) (q:List AskT) (i:Int):wpc prog ⟨TKs, [],wl,y,false⟩ 100 lpKs (tmKs me pe many fr l (.own 63 3 (rowsA q)) i) [layB ly,tabB t,nilB3] b (maskK 3 [2,3,4,5,6,7,8,14,16,19] K)=(BIf (decide (i<Zac .i64 ((16:Int)*Zbr ly))) (BIf (decide (Zac .i64 ((16:Int)*Zbr ly)=(0:Int))||false) False (BIf (decide (Zbr ly=(0:Int))||false) False (BIf (decide (Zbr ly=(0:Int))||false) False (∃(ly0:LayT) (t1:TabT) (me2:Int) (l3:List NearT) (pe4:Int) (sl5:Int) (of6:Int) (q7:Bool), [Zan (Qz3 ly),Zan (Qz1 t),Zad (i64 me),Zad (Zaj 31 (rowsN l)),Zad (i64 pe),Zan [Zad (i64 (Int.tmod (Int.tmod (Zac .i64 (Zac .i64 (Zac .i64 ((17:Int)*me)+Zac .i64 ((5:Int)*fr))+i)) (Zac .i64 ((16:Int)*Zbr ly))) (Zbr ly))),Zad (i64 (Zac .i64 (Int.tdiv (Int.tmod (Zac .i64 (Zac .i64 (Zac .i64 ((17:Int)*me)+Zac .i64 ((5:Int)*fr))+i)) (Zac .i64 ((16:Int)*Zbr ly))) (Zbr ly))))]]= [Zan (Qz3 ly0),Zan (Qz1 t1),Zad (i64 me2),Zad (Zaj 31 (rowsN l3)),Zad (i64 pe4),Zan [Zad (i64 sl5),Zad (i64 of6)]]∧(Zaa (Zbv t1)≤9223372036854775807∧Zaa (Zbx t1)≤9223372036854775807∧Zaa l3≤9223372036854775807∧(∀(x:NearT),x∈l3→AAo9 x)∧q7=possR ly0 t1 me2 l3 pe4 sl5 of6)∧BIf q7 (∃(l8:List AskT) (s9:Int) (q10:Bool), [Zad (Zaj 3 (rowsA q)),Zad (i64 (Int.tmod (Int.tmod (Zac .i64 (Zac .i64 (Zac .i64 ((17:Int)*me)+Zac .i64 ((5:Int)*fr))+i)) (Zac .i64 ((16:Int)*Zbr ly))) (Zbr ly)))]= [Zad (Zaj 3 (rowsA l8)),Zad (i64 s9)]∧(Zaa l8≤9223372036854775807∧q10=AWf9 l8 s9)∧BIf (!q10) (BIf (decide (((Zaa (rowsA q):Nat):Int)<many)) (BIf (true&&decide ((Zaa (rowsA q)+1)*24≤140737488355328)) (K .normal (Zab::Zab::Zad (i64 me)::Zad (Zaj 31 (rowsN l))::Zad (i64 pe)::Zad (i64 many)::Zad (i64 fr)::Zae 0 0::Zae 1 0::bds 5 (Zae 2 0::Zab::Zcc 63 3 (rowsA q++ [[i64 (Int.tmod (Int.tmod (Zac .i64 (Zac .i64 (Zac .i64 ((17:Int)*me)+Zac .i64 ((5:Int)*fr))+i)) (Zac .i64 ((16:Int)*Zbr ly))) (Zbr ly)),i64 (Zac .i64 (Int.tdiv (Int.tmod (Zac .i64 (Zac .i64 (Zac .i64 ((17:Int)*me)+Zac .i64 ((5:Int)*fr))+i)) (Zac .i64 ((16:Int)*Zbr ly))) (Zbr ly))),i64 pe]])::Zab::Zab::Zad (i64 (Zac .i64 (i+1)))::bds 127 [])) [bk (Qz3 ly),bk (Qz1 t),bk Qz4] b) False) (K .normal (Zab::Zab::Zad (i64 me)::Zad (Zaj 31 (rowsN l))::Zad (i64 pe)::Zad (i64 many)::Zad (i64 fr)::Zae 0 0::Zae 1 0::bds 5 (Zae 2 0::Zab::Zcc 63 3 (rowsA q)::Zab::Zab::Zad (i64 (Zac .i64 (i+1)))::bds 127 [])) [bk (Qz3 ly),bk (Qz1 t),bk Qz4] b)) (K .normal (Zab::Zab::Zad (i64 me)::Zad (Zaj 31 (rowsN l))::Zad (i64 pe)::Zad (i64 many)::Zad (i64 fr)::Zae 0 0::Zae 1 0::bds 5 (Zae 2 0::Zab::Zcc 63 3 (rowsA q)::Zab::Zab::Zad (i64 (Zac .i64 (i+1)))::bds 127 [])) [bk (Qz3 ly),bk (Qz1 t),bk Qz4] b)) (K .normal (Zab::Zab::Zad (i64 me)::Zad (Zaj 31 (rowsN l))::Zad (i64 pe)::Zad (i64 many)::Zad (i64 fr)::Zae 0 0::Zae 1 0::bds 5 (Zae 2 0::Zab::Zcc 63 3 (rowsA q)::Zab::Zab::Zad (i64 (Zac .i64 (i+1)))::bds 127 [])) [bk (Qz3 ly),bk (Qz1 t),bk Qz4] b))))) (K (Zba 2) (Zab::Zab::Zad (i64 me)::Zad (Zaj 31 (rowsN l))::Zad (i64 pe)::Zad (i64 many)::Zad (i64 fr)::Zae 0 0::Zae 1 0::bds 5 (Zae 2 0::Zab::Zcc 63 3 (rowsA q)::Zab::Zab::Zad (i64 i)::bds 127 [])) [bk (Qz3 ly),bk (Qz1 t),bk Qz4] b)):=by kernel_rfl
variable {Ev:Env prog} {b0:Ev.β} {Q:Exit→St Ev.β→Prop}
def stepK (ly:LayT) (t:TabT) (me:Int) (l:List NearT) (pe many:Int) (z:List AskT) (x:AskT):List AskT:=if (possR ly t me l pe x.sl x.of&&(x.pe==pe&&decide ((z.length:Int)<many)))=true then z++ [x] else z
def stepS (s:SideT) (t:TabT) (l:List NearT) (pe many:Int) (z:List AskT) (k:Nat):List AskT:=if (possR s.lay t s.me l pe (triSl s k) (triOf s k)&&(!AWf9 z (triSl s k)&&decide ((z.length:Int)<many)))=true then z++ [⟨triSl s k,triOf s k,pe⟩] else z
theorem BMl9 {ly:LayT} {t:TabT} {me:Int} {l:List NearT} {pe many:Int} (hm:many≤24) (z:List AskT) (x:AskT) (h:z.length≤24):(stepK ly t me l pe many z x).length≤24:=by
 unfold stepK;split
 ·rename_i h1;simp only [Zal,decide_eq_true_eq] at h1;simp only [Zbi,Zgf];omega
 ·exact h
theorem AWq9 {s:SideT} {t:TabT} {l:List NearT} {pe many:Int} (hm:many≤24) (z:List AskT) (k:Nat) (h:z.length≤24):(stepS s t l pe many z k).length≤24:=by
 unfold stepS;split
 ·rename_i h1;simp only [Zal,decide_eq_true_eq] at h1;simp only [Zbi,Zgf];omega
 ·exact h
theorem wrKr (ly:LayT) (t:TabT) (me pe many fr:Int) (l:List NearT) (hl:l.length≤9223372036854775807) (hN:∀x∈l,AAo9 x) (ht:TabMx t) (hm:many≤24)
 (hQ:∀i:Int,Q (.exit 0) ⟨tmKr me pe many fr l (.own 63 3 (rowsA (t.ak.foldl (stepK ly t me l pe many) []))) i, [layB ly,tabB t,nilB3],b0⟩):
 WR Ev lpKr (t.ak.length+1) ⟨tmKr me pe many fr l (.own 63 3 (rowsA ((t.ak.take 0).foldl (stepK ly t me l pe many) []))) (0:Nat), [layB ly,tabB t,nilB3],b0⟩ Q:=by
 refine WR.scanL (X:=⟨TKr, [],wlW Ev,Ev.Y,false⟩) (k:=100) [2,3,4,5,6,7,8,14,16,17] mixed (CX.Ok.of CKl9 Zar) t.ak (fun _=>false) (fun i=>tmKr me pe many fr l (.own 63 3 (rowsA ((t.ak.take i).foldl (stepK ly t me l pe many) []))) (i:Nat)) (fun i=>tmKr me pe many fr l (.own 63 3 (rowsA ((t.ak.take i).foldl (stepK ly t me l pe many) []))) (i:Nat)) [layB ly,tabB t,nilB3] 0 (fun i x hi hx K k1 k2=> ?_) (fun K k1=> ?_) (fun h=> ?_) fun h i=>by simp at h
 ·have k2:=k2 rfl;have hmx:=ht.2.2;simp only [ACe9 _ _ hx] at k2;generalize (t.ak.take i).foldl (stepK ly t me l pe many) []=q at k2 ⊢;refine Eq.mpr (rKr _ _ _ K ly t me pe many fr l q i) ?_;rw [wrapN (by omega)];have key:∀q':List (List Dv),q'=rowsA (stepK ly t me l pe many q x)→K .normal (tmKr me pe many fr l (.own 63 3 q') ((i+1:Nat):Int)) [layB ly,tabB t,nilB3] b0:=by
   rintro _ rfl;exact k2
  refine (Zas (by rw [AAi9];simp;omega) (Zas (natI i) ⟨_,_,_,ABd9 hx,⟨_,_,_,_,_,_,_,_,rfl,⟨ht.1,⟨ht.2.1,⟨hl,⟨hN,rfl⟩⟩⟩⟩,(Zax (fun c1=>(Zas (natI i) ⟨_,_,_,ABd9 hx,(Zax (fun c2=>(Zax (fun c3=>(Zas (natI i) ⟨_,_,_,ABd9 hx,(Zas (by rw [AAi9] at c3 ⊢;have:=of_decide_eq_true c3;simp;omega) ?_)⟩)) fun c3=> ?_)) fun c2=> ?_)⟩)) fun c1=> ?_)⟩⟩));all_goals (refine key _ ?_;rw [stepK])
  all_goals (try rw [AAi9] at c3)
  all_goals (try rw [c1])
  all_goals (try rw [c2])
  all_goals (try rw [c3])
  all_goals first|rfl|(simp only [Zfm,↓reduceIte];rw [AGz9];rfl)
 ·refine Eq.mpr (rKr _ _ _ K ly t me pe many fr l _ _) ?_;exact Zci (by rw [AAi9];simp) k1
 ·simp only [Zdc];exact hQ _
theorem wrKs (ly:LayT) (t:TabT) (me pe many fr:Int) (l:List NearT) (z:List AskT) (hd:1≤ly.da∧ly.da≤60) (hz:z.length≤24) (hl:l.length≤9223372036854775807) (hN:∀x∈l,AAo9 x) (ht:TabMx t) (hm:many≤24)
 (hQ:∀i:Int,Q (.exit 2) ⟨tmKs me pe many fr l (.own 63 3 (rowsA ((triKs ly).foldl (stepS (sideS ly me l fr) t l pe many) z))) i, [layB ly,tabB t,nilB3],b0⟩):
 WR Ev lpKs ((triKs ly).length+1) ⟨tmKs me pe many fr l (.own 63 3 (rowsA (((triKs ly).take 0).foldl (stepS (sideS ly me l fr) t l pe many) z))) (0:Nat), [layB ly,tabB t,nilB3],b0⟩ Q:=by
 have hw:Zac Zbb ((16:Int)*ly.da)=16*ly.da:=AAw9 (by omega) (by omega);have hlen:(triKs ly).length=(16*ly.da).toNat:=by rw [triKs,List.length_range']
 refine WR.scanL (X:=⟨TKs, [],wlW Ev,Ev.Y,false⟩) (k:=100) [2,3,4,5,6,7,8,14,16,19] mixed (CX.Ok.of CKk9 Zar) (triKs ly) (fun _=>false) (fun i=>tmKs me pe many fr l (.own 63 3 (rowsA (((triKs ly).take i).foldl (stepS (sideS ly me l fr) t l pe many) z))) (i:Nat)) (fun i=>tmKs me pe many fr l (.own 63 3 (rowsA (((triKs ly).take i).foldl (stepS (sideS ly me l fr) t l pe many) z))) (i:Nat)) [layB ly,tabB t,nilB3] 2 (fun i x hi hx K k1 k2=> ?_) (fun K k1=> ?_) (fun h=> ?_) fun h i=>by simp at h
 ·have k2:=k2 rfl;have hxi:x=i:=by
   obtain ⟨h3,h4⟩:=List.getElem?_eq_some_iff.1 hx;simp only [triKs,List.getElem_range'] at h4;omega
  subst hxi;simp only [ACe9 _ _ hx] at k2;have hq:(((triKs ly).take x).foldl (stepS (sideS ly me l fr) t l pe many) z).length≤24:=ABx9 (P:=fun q:List AskT=>q.length≤24) (fun q k h=>AWq9 hm q k h) _ hz;generalize ((triKs ly).take x).foldl (stepS (sideS ly me l fr) t l pe many) z=q at k2 hq ⊢;refine Eq.mpr (rKs _ _ _ K ly t me pe many fr l q x) ?_;rw [wrapN (by omega)];have key:∀q':List (List Dv),q'=rowsA (stepS (sideS ly me l fr) t l pe many q x)→K .normal (tmKs me pe many fr l (.own 63 3 q') ((x+1:Nat):Int)) [layB ly,tabB t,nilB3] b0:=by
   rintro _ rfl;exact k2
  refine (Zas (decide_eq_true (by omega)) (Zci (by rw [hw];simp;omega) (Zci (by simp;omega) (Zci (by simp;omega) ⟨_,_,_,_,_,_,_,_,rfl,⟨ht.1,⟨ht.2.1,⟨hl,⟨hN,rfl⟩⟩⟩⟩,(Zax (fun c1=>⟨_,_,_,rfl,⟨(by omega),rfl⟩,(Zax (fun c2=>(Zax (fun c3=>(Zas (by rw [AAi9] at c3 ⊢;have:=of_decide_eq_true c3;simp;omega) ?_)) fun c3=> ?_)) fun c2=> ?_)⟩) fun c1=> ?_)⟩))));all_goals (refine key _ ?_;rw [stepS])
  all_goals (try rw [AAi9] at c3)
  all_goals (try rw [show possR (sideS ly me l fr).lay t (sideS ly me l fr).me l pe (triSl (sideS ly me l fr) x) (triOf (sideS ly me l fr) x)=_ from c1])
  all_goals (try rw [show (!AWf9 q (triSl (sideS ly me l fr) x))=_ from c2])
  all_goals (try rw [c3])
  all_goals first|rfl|(simp only [Zfm,↓reduceIte];rw [AGz9];rfl)
 ·refine Eq.mpr (rKs _ _ _ K ly t me pe many fr l _ _) ?_;exact Zci (by rw [hw,hlen];simp;omega) k1
 ·simp only [Zdc];exact hQ _
variable {Ev:Env prog} {b0:Ev.β} {Q:Exit→St Ev.β→Prop}
def wlKr {β:Type}:WLT β:=fun cd tm hp b K=>∃(ly:LayT) (t:TabT) (me pe many fr:Int) (l:List NearT) (q:List AskT),cd= .loop lpKr∧AAn9 [2,3,4,5,6,7,8,14,16,17] 0 tm=tmKr me pe many fr l nilA 0∧hp= [layB ly,tabB t,nilB3]∧(l.length≤9223372036854775807∧(∀x∈l,AAo9 x)∧TabMx t∧many≤24∧q=t.ak.foldl (stepK ly t me l pe many) [])∧
 ∀i:Int,K (.exit 0) (tmKr me pe many fr l (.own 63 3 (rowsA q)) i) [layB ly,tabB t,nilB3] b
theorem CBn9:WlOk Ev wlKr:=by
 rintro c tm hp b K ⟨ly,t,me,pe,many,fr,l,q,rfl,htm,rfl,⟨hl,hN,ht,hm,rfl⟩,hK⟩;refine W.cast (htm▸AAc9 _ tm 0) (Zbg _) ?_;refine W.cast (tm':=tmKr me pe many fr l (.own 63 3 (rowsA [])) (0:Nat)) (LeL.at [_,_,_,_,_,_,_,_,_,_,_,_,_,_,_,_] _ (Zfj rfl)) (Zbg _) ?_;exact W.rounds (wrKr (Q:=fun e s=>K e s.tm s.hp s.b) (b0:=b) ly t me pe many fr l hl hN ht hm hK)
def wlKs {β:Type}:WLT β:=fun cd tm hp b K=>∃(ly:LayT) (t:TabT) (me pe many fr:Int) (l:List NearT) (z q:List AskT),cd= .loop lpKs∧AAn9 [2,3,4,5,6,7,8,14,16,19] 0 tm=tmKs me pe many fr l (.own 63 3 (rowsA z)) 0∧hp= [layB ly,tabB t,nilB3]∧((1≤ly.da∧ly.da≤60)∧z.length≤24∧l.length≤9223372036854775807∧(∀x∈l,AAo9 x)∧TabMx t∧many≤24∧q=(triKs ly).foldl (stepS (sideS ly me l fr) t l pe many) z)∧
 ∀i:Int,K (.exit 2) (tmKs me pe many fr l (.own 63 3 (rowsA q)) i) [layB ly,tabB t,nilB3] b
theorem CBm9:WlOk Ev wlKs:=by
 rintro c tm hp b K ⟨ly,t,me,pe,many,fr,l,z,q,rfl,htm,rfl,⟨hd,hz,hl,hN,ht,hm,rfl⟩,hK⟩;refine W.cast (htm▸AAc9 _ tm 0) (Zbg _) ?_;exact W.rounds (wrKs (Q:=fun e s=>K e s.tm s.hp s.b) (b0:=b) ly t me pe many fr l z hd hz hl hN ht hm hK)
def wlAr {β:Type}:WLT β:=fun cd tm hp b K=>match cidO cd with
 |7=>wlKr cd tm hp b K
 |13=>wlKs cd tm hp b K
 |_=>False
theorem CCf9:WlOk Ev wlAr:=by
 intro c tm hp b K h;unfold wlAr at h;split at h
 ·exact CBn9 c tm hp b K h
 ·exact CBm9 c tm hp b K h
 ·exact h.elim
def TArR:CT:= [(19,AXx9),(59,BIf9)]
theorem CHu9:AAb9 prog TArR:=Zag AMw9 (Zag BBg9 Zai)
abbrev Qz58 (v0:Int) (v1:List NearT) (v2:Int) (v3:Int) (v4:Int):=Zab::Zab::Zad (i64 v0)::Zad (Zaj 31 (rowsN v1))::Zad (i64 v2)::Zad (i64 v3)::Zad (i64 v4)::Zae 0 0::Zae 1 0::bds 5 (Zae 2 0::Zab::Zad (Dv.s (.slice none 0 0))::Zad (i64 0)::bds 129 [])
abbrev Qz63 (v0:Int) (v1:List NearT) (v2:Int) (v3:Int) (v4:Int) (v5:List AskT):=Zab::Zab::Zad (i64 v0)::Zad (Zaj 31 (rowsN v1))::Zad (i64 v2)::Zad (i64 v3)::Zad (i64 v4)::Zae 0 0::Zae 1 0::bds 5 (Zae 2 0::Zab::Zcc 63 3 (rowsA v5)::Zab::Zab::Zad (i64 0)::bds 127 [])
theorem CGu9 (ly:LayT) (t:TabT) (me:Int) (l:List NearT) (pe many fr:Int):wpFn prog ⟨TArR, [],wlAr,y,false⟩ 100 f16 [layA ly,tabA t, .d (i64 me), .d (.sl 31 (rowsN l)), .d (i64 pe), .d (i64 many), .d (i64 fr)] b R=(∃(ly0:LayT) (t1:TabT) (me2:Int) (l3:List NearT) (fr4:Int) (q5:Bool),(Qz8 ly t me l fr)=(Qz8 ly0 t1 me2 l3 fr4)∧(TabMx t1∧Zaa l3≤9223372036854775807∧q5=newS ly0 t1 me2 l3 fr4)∧BIf (!q5) (R (.agg (Qz1 t)) b) (BIf (decide (many<(0:Int))) (R (.agg (Qz1 t)) b) (BIf (decide (many>(24:Int))) (R (.agg (Qz1 t)) b) (∃(ly6:LayT) (t7:TabT) (me8:Int) (pe9:Int) (many10:Int) (fr11:Int) (l12:List NearT) (q13:List AskT),Zaq lpKr=Zaq lpKr∧(Qz58 me l pe many fr)=(Qz58 me8 l12 pe9 many10 fr11)∧ [bk (Qz3 ly),bk (Qz1 t),bk Qz4]= [bk (Qz3 ly6),bk (Qz1 t7),bk Qz4]∧(Zaa l12≤9223372036854775807∧(∀(x:NearT),x∈l12→AAo9 x)∧TabMx t7∧many10≤(24:Int)∧q13=List.foldl (stepK ly6 t7 me8 l12 pe9 many10) [] (Zck t7))∧∀(i:Int),∃(ly14:LayT) (t15:TabT) (me16:Int) (pe17:Int) (many18:Int) (fr19:Int) (l20:List NearT) (z21:List AskT) (q22:List AskT),Zaq lpKs=Zaq lpKs∧(Qz63 me8 l12 pe9 many10 fr11 q13)=(Qz63 me16 l20 pe17 many18 fr19 z21)∧ [bk (Qz3 ly6),bk (Qz1 t7),bk Qz4]= [bk (Qz3 ly14),bk (Qz1 t15),bk Qz4]∧(((1:Int)≤Zbr ly14∧Zbr ly14≤(60:Int))∧Zaa z21≤24∧Zaa l20≤9223372036854775807∧(∀(x:NearT),x∈l20→AAo9 x)∧TabMx t15∧many18≤(24:Int)∧q22=List.foldl (stepS (sideS ly14 me16 l20 fr19) t15 l20 pe17 many18) z21 (triKs ly14))∧∀(i:Int),∃(l23:List AskT) (da24:Int) (q25:List AskT), [Zad (Zaj 3 (rowsA q22)),Zad (i64 (Zbr ly14))]= [Zad (Zaj 3 (rowsA l23)),Zad (i64 da24)]∧(da24≤(1000:Int)∧Zaa l23≤900∧q25=sortA l23 (Zak da24))∧R (.agg [Zad (Zaj 4 (rowsU (Zbv t15))),Zad (Zaj 5 (rowsG (Zbx t15))),Zad (Zaj 3 (rowsA q25))]) b)))):=by kernel_rfl
theorem AKx9 (ly:LayT) (me:Int) (l:List NearT) (fr pe:Int):sFind (sideS ly me l fr) pe=(l.find? fun x:NearT=>x.fm==pe).map (filN ly):=by
 show (l.map (filN ly)).find? _=_;rw [List.find?_map];rfl
theorem BNr9 {ly:LayT} (h:LayIn ly) (x:NearT) (sl:Int):AHn9 ly x sl=busyT ⟨(filN ly x).us,(filN ly x).gs, []⟩ sl:=by
 rw [AHn9,busyT,BXe9 h,BOd9 h,Zed,Zed]
theorem CJe9 {ly:LayT} (h:LayIn ly) (me:Int) (l:List NearT) (fr sl of:Int):forS ly l sl of me=APs9 (sideS ly me l fr).ns sl of (sideS ly me l fr).me:=by
 rw [forS,APs9];show _=(l.map (filN ly)).any _;rw [List.any_map];congr 1;funext x;show _=(filN ly x).gs.any _;rw [BOd9 h,Zed];rfl
theorem BVw9 {ly:LayT} (h:LayIn ly) (t:TabT) (me:Int) (l:List NearT) (fr pe sl of:Int) {n:NearT} (hf:sFind (sideS ly me l fr) pe=some n):possR ly t me l pe sl of=possS (sideS ly me l fr) ⟨t.us,t.gs, []⟩ n sl of:=by
 rw [AKx9] at hf;cases hx:l.find? (fun x:NearT=>x.fm==pe) with
 |none=>rw [hx] at hf;cases hf
 | some x=>
  rw [hx] at hf;cases hf;have e1:BusyS t sl=busyT ⟨t.us,t.gs, []⟩ sl:=rfl;rw [possR,hx,possS,←CJe9 h,←BNr9 h,←e1];show (!BusyS t sl&&(!AHn9 ly x sl&& !forS ly l sl of me))=_;cases BusyS t sl<;>cases AHn9 ly x sl<;>rfl
theorem BFd9 {ly:LayT} (t:TabT) (me:Int) (l:List NearT) (fr pe sl of:Int) (hf:sFind (sideS ly me l fr) pe=none):possR ly t me l pe sl of=false:=by
 rw [AKx9] at hf;cases hx:l.find? (fun x:NearT=>x.fm==pe) with
 |none=>rw [possR,hx]
 |some x=>rw [hx] at hf;cases hf
theorem AQx9 {ly:LayT} {t:TabT} {me:Int} {l:List NearT} {pe many:Int} (h:∀sl of,possR ly t me l pe sl of=false):∀xs:List AskT,xs.foldl (stepK ly t me l pe many) []= []
 | []=>rfl
 |x::r=>by rw [Zef,stepK,h,Zdb,if_neg (by decide),AQx9 h r]
theorem AQu9 {s:SideT} {t:TabT} {l:List NearT} {pe many:Int} (h:∀sl of,possR s.lay t s.me l pe sl of=false):∀ks:List Nat,ks.foldl (stepS s t l pe many) []= []
 | []=>rfl
 |x::r=>by rw [Zef,stepS,h,Zdb,if_neg (by decide),AQu9 h r]
theorem AOw9 {ly:LayT} {t:TabT} {me:Int} {l:List NearT} {pe many:Int} {p:AskT→Bool} (hm:0≤many) (hp:∀x:AskT,p x=(possR ly t me l pe x.sl x.of&&x.pe==pe)):∀(xs z:List AskT),(z.length:Int)≤many→xs.foldl (stepK ly t me l pe many) z=z++(xs.filter p).take (many.toNat - z.length)
 | [],z,_=>by simp
 | x::r,z,hz=>by
  rw [Zef,stepK,←Bool.and_assoc,←hp,List.filter_cons];by_cases h1:p x=true
  ·rw [h1,Zec,if_pos rfl];by_cases h2:(z.length:Int)<many
   ·rw [if_pos (decide_eq_true h2),AOw9 hm hp r _ (by simp;omega),Zbm];congr 1;rw [show many.toNat - z.length=(many.toNat - (z++ [x]).length)+1 by simp;omega];rfl
   ·rw [if_neg (by simpa using h2),AOw9 hm hp r z hz];rw [show many.toNat - z.length=0 by omega];simp
  ·have h1':p x=false:=by simpa using h1
   rw [h1',Zdb,if_neg (by decide),if_neg (by decide),AOw9 hm hp r z hz]
theorem AQv9 {s:SideT} {t:TabT} {l:List NearT} {pe many:Int} {z:List AskT} (h:many≤(z.length:Int)):∀ks:List Nat,ks.foldl (stepS s t l pe many) z=z
 | []=>rfl
 |x::r=>by rw [Zef,stepS,decide_eq_false (by omega:¬(z.length:Int)<many),Zcn,Zcn,if_neg (by decide),AQv9 h r]
theorem BEh9 {s:SideT} {t:TabT} {l:List NearT} {n:NearT} {pe many:Int} (hp:∀sl of,possR s.lay t s.me l pe sl of=possS s ⟨t.us,t.gs, []⟩ n sl of):∀(ks:List Nat) (z:List AskT),ks.foldl (stepS s t l pe many) z=askGo s t.us t.gs n pe many ks z
 | [],z=>rfl
 | k::r,z=>by
  rw [askGo];split
  ·rename_i h;exact AQv9 h _
  ·rename_i h;rw [Zef,BEh9 hp r];congr 1;rw [stepS,hp,AHy9,decide_eq_true (by omega:(z.length:Int)<many),Bool.and_true,AWf9];cases possS s ⟨t.us,t.gs, []⟩ n (triSl s k) (triOf s k)<;>cases (z.any fun x:AskT=>x.sl==triSl s k)<;>rfl
theorem CGv9 {ly:LayT} {t:TabT} {me:Int} {l:List NearT} {pe many fr:Int} (h:newS ly t me l fr=true) (hm:0≤many∧many≤24):
 (⟨t.us,t.gs,sortA ((triKs ly).foldl (stepS (sideS ly me l fr) t l pe many) (t.ak.foldl (stepK ly t me l pe many) [])) ly.da.toNat⟩:TabT)=askS ly t me l pe many fr:=by
 have hin:inN many 24=true:=by rw [inN,decide_eq_true hm.1,decide_eq_true hm.2];rfl
 have hl:LayIn ly:=ABf9 (ACg9 h);rw [askS,h,hin,Zfm,if_pos rfl];cases hf:sFind (sideS ly me l fr) pe with
 | none=>
  have hn:=fun sl of=>BFd9 t me l fr pe sl of hf;rw [AQx9 hn,AQu9 (s:=sideS ly me l fr) hn,AOx9]
 | some n=>
  have hn:=fun sl of=>BVw9 hl t me l fr pe sl of hf;have e:t.ak.foldl (stepK ly t me l pe many) []=keptA (sideS ly me l fr) t n pe many:=by
   rw [AOw9 (p:=keepA (sideS ly me l fr) t.us t.gs n pe) hm.1 (fun x=>by rw [hn x.sl x.of];exact Zgc _ _) t.ak [] hm.1,List.nil_append];rfl
  show _=(⟨t.us,t.gs,sortA (askGo (sideS ly me l fr) t.us t.gs n pe many (triKs ly) (keptA (sideS ly me l fr) t n pe many)) ly.da.toNat⟩:TabT);rw [BEh9 (s:=sideS ly me l fr) hn,e]
def cAskR:CF:=fun args K=>∃(ly:LayT) (t q:TabT) (me:Int) (l:List NearT) (pe many fr:Int),args= [layA ly,tabA t, .d (i64 me), .d (.sl 31 (rowsN l)), .d (i64 pe), .d (i64 many), .d (i64 fr)]∧(TabMx t∧l.length≤9223372036854775807∧(∀x∈l,AAo9 x)∧q=askS ly t me l pe many fr)∧K (tabA q)
theorem BYw9:COk 16 cAskR:=by
 rintro _ K ⟨ly,t,_,me,l,pe,many,fr,rfl,⟨h1,h2,h3,rfl⟩,hk⟩;refine ⟨_, ?_,hk⟩;refine pcV @wlAr CHu9 CCf9 func16 fun Ev bb=> ?_;rw [CGu9];have hno (hc:¬(newS ly t me l fr&&inN many 24)=true):LeV (tabA t) (tabA (askS ly t me l pe many fr)):=by
  rw [askS,if_neg hc];exact .rfl
 refine ⟨ly,t,me,l,fr,_,rfl,⟨h1,h2,rfl⟩,Zax (fun c1=> ?_) fun c1=>Zax (fun c2=> ?_) fun c2=>Zax (fun c3=> ?_) fun c3=> ?_⟩
 ·exact hno (by rw [Zcb] at c1;rw [c1,Zdb];decide)
 ·exact hno (by rw [inN,decide_eq_false (by have:=of_decide_eq_true c2;omega:¬many≥0)];simp)
 ·exact hno (by rw [inN,decide_eq_false (by have:=of_decide_eq_true c3;omega:¬many≤24)];simp)
 ·have h:newS ly t me l fr=true:=by simpa using c1
  have hm:0≤many∧many≤24:=by
   have:=of_decide_eq_false c2;have:=of_decide_eq_false c3;omega
  have hlay:=ABf9 (ACg9 h);have hk:(t.ak.foldl (stepK ly t me l pe many) []).length≤24:=ABx9 (P:=fun q:List AskT=>q.length≤24) (fun q x h=>BMl9 hm.2 q x h) _ (by simp);have hs:((triKs ly).foldl (stepS (sideS ly me l fr) t l pe many) (t.ak.foldl (stepK ly t me l pe many) [])).length≤24:=ABx9 (P:=fun q:List AskT=>q.length≤24) (fun q x h=>AWq9 hm.2 q x h) _ hk;refine ⟨ly,t,me,pe,many,fr,l,_,rfl,rfl,rfl,⟨h2,h3,h1,hm.2,rfl⟩,fun i=>⟨ly,t,me,pe,many,fr,l,_,_,rfl,rfl,rfl,⟨hlay.2,hk,h2,h3,h1,hm.2,rfl⟩,fun j=>⟨_,ly.da,_,rfl,⟨by omega,by omega,rfl⟩, ?_⟩⟩⟩;rw [←CGv9 h hm];exact .rfl
noncomputable def lpTa:Code:=sub [1,1,1,1,0,1,2,3] (code f18)
noncomputable def lpTb:Code:=sub [1,1,1,1,1,0,1,2,3] (code f18)
noncomputable def lpTc:Code:=sub [1,1,1,1,1,0,1,2,3,1,0,2,1,1,1,2,3] (code f18)
def tmTa (me fr:Int) (l:List NearT) (i:Int):List AV:= [.bad, .bad, .d (i64 me), .d (.sl 31 (rowsN l)), .d (i64 fr), .ptr 0 0, .ptr 1 0, .bad, .bad, .bad, .ptr 2 0, .bad, .ptr 3 0, .d (i64 i)]++Zam 120 .bad
def tmTb (me fr:Int) (l:List NearT) (i p w k:AV):List AV:= [.bad, .bad, .d (i64 me), .d (.sl 31 (rowsN l)), .d (i64 fr), .ptr 0 0, .ptr 1 0, .bad, .bad, .bad, .ptr 2 0, .bad, .ptr 3 0, .bad, .bad, .bad, .bad,i,p,w,k]++Zam 113 .bad
def TTa:CT:= [(65,AYj9)]
theorem CJz9:AAb9 prog TTa:=Zag AVt9 Zai
def TTc:CT:= [(67,cMine),(68,CGn9)]
theorem CHj9:AAb9 prog TTc:=Zag BIm9 (Zag BPy9 Zai)
def TTb:CT:= [(66,BIk9)]
theorem CJy9:AAb9 prog TTb:=Zag BBi9 Zai
abbrev Qz46 (v0:LayT) (v1:TabT) (v2:List UseT):= [bk (Qz3 v0),bk (Qz1 v1),bk Qz4,bk [Zcc 61 4 (rowsU v2),Zad (Zaj 5 (rowsG (Zbx v1))),Zad (Zaj 3 (rowsA (Zck v1)))]]
theorem rTa (ly:LayT) (t:TabT) (me fr:Int) (l:List NearT) (q:List UseT) (i:Int):wpc prog ⟨TTa, [],wl,y,false⟩ 100 lpTa (tmTa me fr l i) [layB ly,tabB t,nilB3,⟨[.own 61 4 (rowsU q), .d (.sl 5 (rowsG t.gs)), .d (.sl 3 (rowsA t.ak))],false,false,0⟩] b (maskK 4 [2,3,4,5,6,10,12,13] K)=(BIf (decide (i<((Zaa (rowsU (Zbv t)):Nat):Int))) (BIf (true&&decide (0≤i)) (∃(x0:Int) (x1:Int) (x2:Int) (x3:Int),(rowsU (Zbv t))[Zak i]? =some [i64 x0,i64 x1,i64 x2,i64 x3]∧∃(ly6:LayT) (l7:List NearT) (pe8:Int) (sl9:Int) (of10:Int) (me11:Int) (fr12:Int) (g13:GraT) (e14:Bool), [Zan (Qz3 ly),Zad (Zaj 31 (rowsN l)),Zad (i64 x2),Zan [Zad (i64 x0),Zad (i64 x1)],Zad (i64 me),Zad (i64 fr)]= [Zan (Qz3 ly6),Zad (Zaj 31 (rowsN l7)),Zad (i64 pe8),Zan [Zad (i64 sl9),Zad (i64 of10)],Zad (i64 me11),Zad (i64 fr12)]∧(Zaa l7≤9223372036854775807∧(∀(x:NearT),x∈l7→AAo9 x)∧g13=graO (ADq9 ly6 l7 pe8 sl9 of10 me11 fr12)∧e14=Option.isSome (ADq9 ly6 l7 pe8 sl9 of10 me11 fr12))∧BIf e14 (BIf (true&&decide ((Zaa (rowsU q)+1)*32≤140737488355328)) (K .normal (Zab::Zab::Zad (i64 me)::Zad (Zaj 31 (rowsN l))::Zad (i64 fr)::Zae 0 0::Zae 1 0::bds 3 (Zae 2 0::Zab::Zae 3 0::Zad (i64 (Zac .i64 (i+1)))::bds 120 [])) [bk (Qz3 ly),bk (Qz1 t),bk Qz4,bk [Zcc 61 4 (rowsU q++ [[i64 x0,i64 x1,i64 x2,i64 (GraT.st g13)]]),Zad (Zaj 5 (rowsG (Zbx t))),Zad (Zaj 3 (rowsA (Zck t)))]] b) False) (K .normal (Zab::Zab::Zad (i64 me)::Zad (Zaj 31 (rowsN l))::Zad (i64 fr)::Zae 0 0::Zae 1 0::bds 3 (Zae 2 0::Zab::Zae 3 0::Zad (i64 (Zac .i64 (i+1)))::bds 120 [])) (Qz46 ly t q) b)) False) (K (Zba 0) (Zab::Zab::Zad (i64 me)::Zad (Zaj 31 (rowsN l))::Zad (i64 fr)::Zae 0 0::Zae 1 0::bds 3 (Zae 2 0::Zab::Zae 3 0::Zad (i64 i)::bds 120 [])) (Qz46 ly t q) b)):=by kernel_rfl
abbrev Qz44 (v0:LayT) (v1:TabT) (v2:TabT):= [bk (Qz3 v0),bk (Qz1 v1),bk Qz4,bk (Qz1 v2)]
theorem rTc (ly:LayT) (t q:TabT) (me fr:Int) (l:List NearT) (p:Int) (w:Bool) (i k:Int):wpc prog ⟨TTc, [],wl,y,false⟩ 100 lpTc (tmTb me fr l (.d (i64 i)) (.d (i64 p)) (.d (bo w)) (.d (i64 k))) [layB ly,tabB t,nilB3,tabB q] b (maskK 4 [2,3,4,5,6,10,12,17,18,19,20] K)=(BIf (true&&decide (0≤i)) (∃(n0:NearT),(rowsN l)[Zak i]? =some (nearR n0)∧BIf (decide (k<((Zaa (rowsG (Zce n0)):Nat):Int))) (BIf w (BIf (true&&decide (0≤i)) (∃(n3:NearT),(rowsN l)[Zak i]? =some (nearR n3)∧BIf (true&&decide (0≤k)) (∃(x6:Int) (x7:Int) (x8:Int) (x9:Int) (x10:Int),(rowsG (Zce n3))[Zak k]? =some (Qz27 x6 x7 x8 x9 x10)∧∃(l13:LayT) (g14:GraT) (me15:Int) (fr16:Int) (q17:Bool), [Zan (Qz3 ly),Zan (Qz15 x6 x7 x8 x9 x10),Zad (i64 me),Zad (i64 fr)]= [Zan (Qz3 l13),Zan (Qz5 g14),Zad (i64 me15),Zad (i64 fr16)]∧q17=mineS l13 g14 me15 fr16∧BIf (!q17) (K .normal (Zab::Zab::Zad (i64 me)::Zad (Zaj 31 (rowsN l))::Zad (i64 fr)::Zae 0 0::Zae 1 0::bds 3 (Zae 2 0::Zab::Zae 3 0::bds 4 (Zad (i64 i)::Zad (i64 p)::Zad (bo w)::Zad (i64 (Zac .i64 (k+1)))::bds 113 []))) (Qz44 ly t q) b) (∃(t18:TabT) (z19:TabT) (ly20:LayT) (u21:UseT) (e22:Int), [Zan (Qz1 q),Zan (Qz3 ly),Zan (Qz30 x6 x7 p x9)]= [Zan (Qz1 t18),Zan (Qz3 ly20),Zan (Qz6 u21)]∧(TabOk t18∧z19=addSU t18 ly20 u21∧e22=refEU t18 ly20 u21)∧BIf (e22==(0:Int)) (K .normal (Zab::Zab::Zad (i64 me)::Zad (Zaj 31 (rowsN l))::Zad (i64 fr)::Zae 0 0::Zae 1 0::bds 3 (Zae 2 0::Zab::Zae 3 0::bds 4 (Zad (i64 i)::Zad (i64 p)::Zad (bo w)::Zad (i64 (Zac .i64 (k+1)))::bds 113 []))) (Qz44 ly t z19) b) (K .normal (Zab::Zab::Zad (i64 me)::Zad (Zaj 31 (rowsN l))::Zad (i64 fr)::Zae 0 0::Zae 1 0::bds 3 (Zae 2 0::Zab::Zae 3 0::bds 4 (Zad (i64 i)::Zad (i64 p)::Zad (bo w)::Zad (i64 (Zac .i64 (k+1)))::bds 113 []))) (Qz44 ly t q) b))) False) False) (K (Zba 4) (Zab::Zab::Zad (i64 me)::Zad (Zaj 31 (rowsN l))::Zad (i64 fr)::Zae 0 0::Zae 1 0::bds 3 (Zae 2 0::Zab::Zae 3 0::bds 4 (Zad (i64 i)::Zad (i64 p)::Zad (bo w)::Zad (i64 k)::bds 113 []))) (Qz44 ly t q) b)) (K (Zba 4) (Zab::Zab::Zad (i64 me)::Zad (Zaj 31 (rowsN l))::Zad (i64 fr)::Zae 0 0::Zae 1 0::bds 3 (Zae 2 0::Zab::Zae 3 0::bds 4 (Zad (i64 i)::Zad (i64 p)::Zad (bo w)::Zad (i64 k)::bds 113 []))) (Qz44 ly t q) b)) False):=by kernel_rfl
variable {Ev:Env prog} {b0:Ev.β} {Q:Exit→St Ev.β→Prop}
def AGd9 (ly:LayT) (l:List NearT) (me fr:Int) (u:UseT):List UseT:=match ADq9 ly l u.pe u.sl u.of me fr with
 |some g=> [⟨u.sl,u.of,u.pe,g.st⟩]
 |none=> []
theorem BOb9 {α β:Type} (f:α→List β) {l:List α} {i:Nat} {x:α} (h:l[i]? =some x):(l.take (i+1)).flatMap f=(l.take i).flatMap f++f x:=by
 rw [Zem,h,List.flatMap_append];simp
theorem BGt9 {α β:Type} {f:α→List β} (hf:∀x,(f x).length≤1):∀l:List α,(l.flatMap f).length≤l.length
 | []=>Zat _
 | x::r=>by
  have h1:=hf x;have h2:=BGt9 hf r;simp only [List.flatMap_cons,Zbi,List.length_cons];omega
theorem AWn9 (ly:LayT) (l:List NearT) (me fr:Int) (u:UseT):(AGd9 ly l me fr u).length≤1:=by
 unfold AGd9;split<;>simp
def taB (ly:LayT) (t:TabT) (q:List UseT):List Blk:= [layB ly,tabB t,nilB3,⟨[.own 61 4 (rowsU q), .d (.sl 5 (rowsG t.gs)), .d (.sl 3 (rowsA t.ak))],false,false,0⟩]
theorem wrTa (ly:LayT) (t:TabT) (me fr:Int) (l:List NearT) (hl:l.length≤9223372036854775807) (hN:∀x∈l,AAo9 x) (ht:t.us.length<10000)
 (hQ:∀i:Int,Q (.exit 0) ⟨tmTa me fr l i,taB ly t (t.us.flatMap (AGd9 ly l me fr)),b0⟩):
 WR Ev lpTa (t.us.length+1) ⟨tmTa me fr l (0:Nat),taB ly t ((t.us.take 0).flatMap (AGd9 ly l me fr)),b0⟩ Q:=by
 refine WR.scanG (X:=⟨TTa, [],wlW Ev,Ev.Y,false⟩) (k:=100) (L:=4) [2,3,4,5,6,10,12,13] mixed (CX.Ok.of CJz9 Zar) t.us (fun _=>false) (fun i=>tmTa me fr l (i:Nat)) (fun i=>taB ly t ((t.us.take i).flatMap (AGd9 ly l me fr))) (fun _=>rfl) 0 0 (fun i x _ hi hx K _ k2=> ?_) (fun K k1=> ?_) (fun _=>by rw [Zdc];exact hQ _) (fun h=>by simp at h) t.us.length 0 (by simp) (Zat _) rfl
 ·have k2:=k2 rfl;have hlen:((t.us.take i).flatMap (AGd9 ly l me fr)).length≤t.us.length:=Zdq (BGt9 (AWn9 ly l me fr) _) (List.length_take_le' _ _);rw [BOb9 _ hx] at k2;generalize (t.us.take i).flatMap (AGd9 ly l me fr)=q at k2 hlen ⊢;refine Eq.mpr (rTa _ _ _ K ly t me fr l q i) ?_;rw [wrapN (by omega)];refine (Zas (by rw [AAe9];simp;omega) (Zas (natI i) ⟨_,_,_,_,ABl9 hx,⟨_,_,_,_,_,_,_,_,_,rfl,⟨hl,⟨hN,⟨rfl,rfl⟩⟩⟩,(Zax (fun c1=>(Zas (by rw [AAe9];simp;omega) ?_)) fun c1=> ?_)⟩⟩))
  ·unfold AGd9 at k2;cases hg:ADq9 ly l x.pe x.sl x.of me fr with
   |none=>rw [hg] at c1;cases c1
   |some g=>rw [hg] at k2;rw [taB,AIr9] at k2;exact k2
  ·unfold AGd9 at k2;cases hg:ADq9 ly l x.pe x.sl x.of me fr with
   |none=>rw [hg] at k2;rw [Zco] at k2;exact k2
   |some g=>rw [hg] at c1;cases c1
 ·refine Eq.mpr (rTa _ _ _ K ly t me fr l _ _) ?_;exact Zci (by rw [AAe9];simp) k1
def AHg9 (ly:LayT) (me fr p:Int) (q:TabT) (g:GraT):TabT:=if mineS ly g me fr=true then (if refEU q ly ⟨g.sl,g.of,p,g.st⟩=0 then addSU q ly ⟨g.sl,g.of,p,g.st⟩ else q) else q
theorem AWp9 {ly:LayT} {me fr p:Int} {q:TabT} {g:GraT} (h:TabOk q):TabOk (AHg9 ly me fr p q g):=by
 unfold AHg9;split
 ·split
  ·rename_i h1;exact BKr9 h1
  ·exact h
 ·exact h
def tcB (ly:LayT) (t q:TabT):List Blk:= [layB ly,tabB t,nilB3,tabB q]
theorem wrTc (ly:LayT) (t q0:TabT) (me fr:Int) (l:List NearT) (p:Int) (i:Nat) (n:NearT) (hn:l[i]? =some n) (hl:n.gs.length≤9223372036854775807) (h0:TabOk q0)
 (hQ:∀k:Int,Q (.exit 4) ⟨tmTb me fr l (.d (i64 i)) (.d (i64 p)) (.d (bo true)) (.d (i64 k)),tcB ly t (n.gs.foldl (AHg9 ly me fr p) q0),b0⟩):
 WR Ev lpTc (n.gs.length+1) ⟨tmTb me fr l (.d (i64 i)) (.d (i64 p)) (.d (bo true)) (.d (i64 (0:Nat))),tcB ly t ((n.gs.take 0).foldl (AHg9 ly me fr p) q0),b0⟩ Q:=by
 refine WR.scanG (X:=⟨TTc, [],wlW Ev,Ev.Y,false⟩) (k:=100) (L:=4) [2,3,4,5,6,10,12,17,18,19,20] mixed (CX.Ok.of CHj9 Zar) n.gs (fun _=>false) (fun k=>tmTb me fr l (.d (i64 i)) (.d (i64 p)) (.d (bo true)) (.d (i64 (k:Nat)))) (fun k=>tcB ly t ((n.gs.take k).foldl (AHg9 ly me fr p) q0)) (fun _=>rfl) 4 0 (fun k x _ hk hx K _ k2=> ?_) (fun K k1=> ?_) (fun _=>by rw [Zdc];exact hQ _) (fun h=>by simp at h) n.gs.length 0 (by simp) (Zat _) rfl
 ·have k2:=k2 rfl;have hq:TabOk ((n.gs.take k).foldl (AHg9 ly me fr p) q0):=ABx9 (P:=TabOk) (fun q g h=>AWp9 h) _ h0;rw [ACe9 _ _ hx] at k2;generalize (n.gs.take k).foldl (AHg9 ly me fr p) q0=q at k2 hq ⊢;refine Eq.mpr (rTc _ _ _ K ly t q me fr l p true i k) ?_;rw [wrapN (by omega)];have key:∀q':TabT,q'=AHg9 ly me fr p q x→K .normal (tmTb me fr l (.d (i64 i)) (.d (i64 p)) (.d (bo true)) (.d (i64 ((k+1:Nat):Int)))) (tcB ly t q') b0:=by
   rintro _ rfl;exact k2
  refine (Zas (natI i) ⟨_,AAr9 hn,(Zas (by rw [AAd9];simp;omega) (Zas rfl (Zas (natI i) ⟨_,AAr9 hn,(Zas (natI k) ⟨_,_,_,_,_,ABb9 hx,⟨_,_,_,_,_,rfl,rfl,(Zax (fun c1=> ?_) fun c1=>⟨_,_,_,⟨x.sl,x.of,p,x.st⟩,_,rfl,⟨hq,⟨rfl,rfl⟩⟩,(Zax (fun c2=> ?_) fun c2=> ?_)⟩)⟩⟩)⟩)))⟩)
  ·exact key _ (by rw [AHg9,if_neg (by rw [Zcb] at c1;rw [c1];decide)])
  ·exact key _ (by rw [AHg9,if_pos (by rw [Zcx] at c1;exact c1),if_pos (by simpa using c2)])
  ·exact key _ (by rw [AHg9,if_pos (by rw [Zcx] at c1;exact c1),if_neg (by simpa using c2)])
 ·refine Eq.mpr (rTc _ _ _ K ly t _ me fr l p true i _) ?_;exact Zas (natI i) ⟨_,AAr9 hn,Zci (by rw [AAd9];simp) k1⟩
theorem wrTc0 (ly:LayT) (t q:TabT) (me fr:Int) (l:List NearT) (p:Int) (i:Nat) (n:NearT) (hn:l[i]? =some n)
 (hQ:∀k:Int,Q (.exit 4) ⟨tmTb me fr l (.d (i64 i)) (.d (i64 p)) (.d (bo false)) (.d (i64 k)),tcB ly t q,b0⟩):
 WR Ev lpTc (0+1) ⟨tmTb me fr l (.d (i64 i)) (.d (i64 p)) (.d (bo false)) (.d (i64 (0:Nat))),tcB ly t q,b0⟩ Q:=by
 refine WR.ofMask (X:=⟨TTc, [],wlW Ev,Ev.Y,false⟩) (k:=100) [2,3,4,5,6,10,12,17,18,19,20] mixed (CX.Ok.of CHj9 Zar) ?_;refine Eq.mpr (rTc _ _ _ _ ly t q me fr l p false i _) ?_;exact Zas (natI i) ⟨_,AAr9 hn,Zax (fun _=>hQ _) fun _=>hQ _⟩
def wlTc {β:Type}:WLT β:=fun cd tm hp b K=>∃(ly:LayT) (t q0 q:TabT) (me fr:Int) (l:List NearT) (p:Int) (w:Bool) (i:Nat) (n:NearT),cd= .loop lpTc∧AAn9 [2,3,4,5,6,10,12,17,18,19,20] 0 tm=tmTb me fr l (.d (i64 i)) (.d (i64 p)) (.d (bo w)) (.d (i64 0))∧hp=tcB ly t q0∧(l[i]? =some n∧n.gs.length≤9223372036854775807∧TabOk q0∧q=if w=true then n.gs.foldl (AHg9 ly me fr p) q0 else q0)∧
 ∀k:Int,K (.exit 4) (tmTb me fr l (.d (i64 i)) (.d (i64 p)) (.d (bo w)) (.d (i64 k))) (tcB ly t q) b
theorem CAz9:WlOk Ev wlTc:=by
 rintro c tm hp b K ⟨ly,t,q0,q,me,fr,l,p,w,i,n,rfl,htm,rfl,⟨hn,hl,h0,rfl⟩,hK⟩;refine W.cast (htm▸AAc9 _ tm 0) (Zbg _) ?_;cases w
 ·exact W.rounds (wrTc0 (Q:=fun e s=>K e s.tm s.hp s.b) (b0:=b) ly t q0 me fr l p i n hn hK)
 ·exact W.rounds (wrTc (Q:=fun e s=>K e s.tm s.hp s.b) (b0:=b) ly t q0 me fr l p i n hn hl h0 hK)
theorem rTb (ly:LayT) (t q:TabT) (me fr:Int) (l:List NearT) (i:Int):wpc prog ⟨TTb, [],wlTc,y,false⟩ 100 lpTb (tmTb me fr l (.d (i64 i)) .bad .bad .bad) [layB ly,tabB t,nilB3,tabB q] b (maskK 4 [2,3,4,5,6,10,12,17] K)=(BIf (decide (i<((Zaa (rowsN l):Nat):Int))) (BIf (true&&decide (0≤i)) (∃(n0:NearT),(rowsN l)[Zak i]? =some (nearR n0)∧∃(t3:TabT) (s4:Int) (q5:Bool), [Zan (Qz1 t),Zad (i64 (Zcy n0))]= [Zan (Qz1 t3),Zad (i64 s4)]∧(Zaa (Zbv t3)≤9223372036854775807∧Zaa (Zck t3)≤9223372036854775807∧q5=AGa9 t3 s4)∧∃(ly6:LayT) (t7:TabT) (q8:TabT) (q9:TabT) (me10:Int) (fr11:Int) (l12:List NearT) (p13:Int) (w14:Bool) (i15:Nat) (n16:NearT),Zaq lpTc=Zaq lpTc∧(Zab::Zab::Zad (i64 me)::Zad (Zaj 31 (rowsN l))::Zad (i64 fr)::Zae 0 0::Zae 1 0::bds 3 (Zae 2 0::Zab::Zae 3 0::bds 4 (Zad (i64 i)::Zad (i64 (Zcy n0))::Zad (bo q5)::Zad (i64 0)::bds 113 [])))=(Zab::Zab::Zad (i64 me10)::Zad (Zaj 31 (rowsN l12))::Zad (i64 fr11)::Zae 0 0::Zae 1 0::bds 3 (Zae 2 0::Zab::Zae 3 0::bds 4 (Zad (i64 (i15:Int))::Zad (i64 p13)::Zad (bo w14)::Zad (i64 0)::bds 113 [])))∧(Qz44 ly t q)=(Qz44 ly6 t7 q8)∧(l12[i15]? =some n16∧Zaa (Zce n16)≤9223372036854775807∧TabOk q8∧q9=if w14=true then List.foldl (AHg9 ly6 me10 fr11 p13) q8 (Zce n16) else q8)∧∀(k:Int),K .normal (Zab::Zab::Zad (i64 me10)::Zad (Zaj 31 (rowsN l12))::Zad (i64 fr11)::Zae 0 0::Zae 1 0::bds 3 (Zae 2 0::Zab::Zae 3 0::bds 4 (Zad (i64 (Zac .i64 ((i15:Int)+(1:Int))))::bds 116 []))) (Qz44 ly6 t7 q9) b) False) (K (Zba 2) (Zab::Zab::Zad (i64 me)::Zad (Zaj 31 (rowsN l))::Zad (i64 fr)::Zae 0 0::Zae 1 0::bds 3 (Zae 2 0::Zab::Zae 3 0::bds 4 (Zad (i64 i)::bds 116 []))) (Qz44 ly t q) b)):=by kernel_rfl
variable {Ev:Env prog} {b0:Ev.β} {Q:Exit→St Ev.β→Prop}
def AIo9 (ly:LayT) (t:TabT) (me fr:Int) (q:TabT) (n:NearT):TabT:=if AGa9 t n.fm=true then n.gs.foldl (AHg9 ly me fr n.fm) q else q
theorem BMj9 {ly:LayT} {t:TabT} {me fr:Int} {q:TabT} {n:NearT} (h:TabOk q):TabOk (AIo9 ly t me fr q n):=by
 unfold AIo9;split
 ·exact ABx9 (P:=TabOk) (fun q g h=>AWp9 h) _ h
 ·exact h
theorem wrTb (ly:LayT) (t q0:TabT) (me fr:Int) (l:List NearT) (hl:l.length≤9223372036854775807) (hN:∀x∈l,AAo9 x) (ht:TabMx t) (h0:TabOk q0)
 (hQ:∀i:Int,Q (.exit 2) ⟨tmTb me fr l (.d (i64 i)) .bad .bad .bad,tcB ly t (l.foldl (AIo9 ly t me fr) q0),b0⟩):
 WR Ev lpTb (l.length+1) ⟨tmTb me fr l (.d (i64 (0:Nat))) .bad .bad .bad,tcB ly t ((l.take 0).foldl (AIo9 ly t me fr) q0),b0⟩ Q:=by
 refine WR.scanG (X:=⟨TTb, [],wlTc,Ev.Y,false⟩) (k:=100) (L:=4) [2,3,4,5,6,10,12,17] mixed (CX.Ok.ofWl CJy9 Zar CAz9) l (fun _=>false) (fun i=>tmTb me fr l (.d (i64 (i:Nat))) .bad .bad .bad) (fun i=>tcB ly t ((l.take i).foldl (AIo9 ly t me fr) q0)) (fun _=>rfl) 2 0 (fun i x _ hi hx K _ k2=> ?_) (fun K k1=> ?_) (fun _=>by rw [Zdc];exact hQ _) (fun h=>by simp at h) l.length 0 (by simp) (Zat _) rfl
 ·have k2:=k2 rfl;have hq:TabOk ((l.take i).foldl (AIo9 ly t me fr) q0):=ABx9 (P:=TabOk) (fun q g h=>BMj9 h) _ h0;rw [ACe9 _ _ hx] at k2;generalize (l.take i).foldl (AIo9 ly t me fr) q0=q at k2 hq ⊢;refine Eq.mpr (rTb _ _ K ly t q me fr l i) ?_;refine Zas (by rw [ABe9];simp;omega) (Zas (natI i) ⟨x,AAr9 hx,t,x.fm,_,rfl,⟨ht.1,ht.2.2,rfl⟩,ly,t,q,AIo9 ly t me fr q x,me,fr,l,x.fm,AGa9 t x.fm,i,x,rfl,rfl,rfl,⟨hx,(hN x (Zbj hx)).2.1,hq,rfl⟩,fun k=> ?_⟩);rw [wrapN (by omega)];exact k2
 ·refine Eq.mpr (rTb _ _ K ly t _ me fr l _) ?_;exact Zci (by rw [ABe9];simp) k1
def wlTa {β:Type}:WLT β:=fun cd tm hp b K=>∃(ly:LayT) (t:TabT) (me fr:Int) (l:List NearT) (q:List UseT),cd= .loop lpTa∧AAn9 [2,3,4,5,6,10,12,13] 0 tm=tmTa me fr l 0∧LeH hp (taB ly t [])∧(l.length≤9223372036854775807∧(∀x∈l,AAo9 x)∧t.us.length<10000∧q=t.us.flatMap (AGd9 ly l me fr))∧∀i:Int,K (.exit 0) (tmTa me fr l i) (taB ly t q) b
theorem CBb9:WlOk Ev wlTa:=by
 rintro c tm hp b K ⟨ly,t,me,fr,l,q,rfl,htm,hhp,⟨hl,hN,ht,rfl⟩,hK⟩;refine W.cast (htm▸AAc9 _ tm 0) hhp ?_;exact W.rounds (wrTa (Q:=fun e s=>K e s.tm s.hp s.b) (b0:=b) ly t me fr l hl hN ht hK)
def wlTb {β:Type}:WLT β:=fun cd tm hp b K=>∃(ly:LayT) (t q0 q:TabT) (me fr:Int) (l:List NearT),cd= .loop lpTb∧AAn9 [2,3,4,5,6,10,12,17] 0 tm=tmTb me fr l (.d (i64 0)) .bad .bad .bad∧LeH hp (tcB ly t q0)∧(l.length≤9223372036854775807∧(∀x∈l,AAo9 x)∧TabMx t∧TabOk q0∧q=l.foldl (AIo9 ly t me fr) q0)∧∀i:Int,K (.exit 2) (tmTb me fr l (.d (i64 i)) .bad .bad .bad) (tcB ly t q) b
theorem CBa9:WlOk Ev wlTb:=by
 rintro c tm hp b K ⟨ly,t,q0,q,me,fr,l,rfl,htm,hhp,⟨hl,hN,ht,h0,rfl⟩,hK⟩;refine W.cast (htm▸AAc9 _ tm 0) hhp ?_;exact W.rounds (wrTb (Q:=fun e s=>K e s.tm s.hp s.b) (b0:=b) ly t q0 me fr l hl hN ht h0 hK)
def wlTR {β:Type}:WLT β:=fun cd tm hp b K=>match cidO cd with
 |7=>wlTa cd tm hp b K
 |15=>wlTb cd tm hp b K
 |_=>False
theorem CBc9:WlOk Ev wlTR:=by
 intro c tm hp b K h;unfold wlTR at h;split at h
 ·exact CBb9 c tm hp b K h
 ·exact CBa9 c tm hp b K h
 ·exact h.elim
def TTR:CT:= [(19,AXx9)]
theorem CKa9:AAb9 prog TTR:=Zag AMw9 Zai
abbrev Qz62 (v0:Int) (v1:List NearT) (v2:Int):=Zab::Zab::Zad (i64 v0)::Zad (Zaj 31 (rowsN v1))::Zad (i64 v2)::Zae 0 0::Zae 1 0::bds 3 (Zae 2 0::Zab::Zae 3 0::bds 4 (Zad (i64 0)::bds 116 []))
abbrev Qz64 (v0:Int) (v1:List NearT) (v2:Int):=Zab::Zab::Zad (i64 v0)::Zad (Zaj 31 (rowsN v1))::Zad (i64 v2)::Zae 0 0::Zae 1 0::bds 3 (Zae 2 0::Zab::Zae 3 0::Zad (i64 0)::bds 120 [])
theorem BVb9 (ly:LayT) (t:TabT) (me:Int) (l:List NearT) (fr:Int):wpFn prog ⟨TTR, [],wlTR,y,false⟩ 100 f18 [layA ly,tabA t, .d (i64 me), .d (.sl 31 (rowsN l)), .d (i64 fr)] b R=(∃(ly0:LayT) (t1:TabT) (me2:Int) (l3:List NearT) (fr4:Int) (q5:Bool),(Qz8 ly t me l fr)=(Qz8 ly0 t1 me2 l3 fr4)∧(TabMx t1∧Zaa l3≤9223372036854775807∧q5=newS ly0 t1 me2 l3 fr4)∧BIf (!q5) (R (.agg (Qz1 t)) b) (∃(ly6:LayT) (t7:TabT) (me8:Int) (fr9:Int) (l10:List NearT) (q11:List UseT),Zaq lpTa=Zaq lpTa∧(Qz64 me l fr)=(Qz64 me8 l10 fr9)∧LeH [bk (Qz3 ly),bk (Qz1 t),bk Qz4,bk [Zad (Dv.s (.slice none 0 0)),Zad (Zaj 5 (rowsG (Zbx t))),Zad (Zaj 3 (rowsA (Zck t)))]] [bk (Qz3 ly6),bk (Qz1 t7),bk Qz4,bk [Zcc 61 4 (rowsU []),Zad (Zaj 5 (rowsG (Zbx t7))),Zad (Zaj 3 (rowsA (Zck t7)))]]∧(Zaa l10≤9223372036854775807∧(∀(x:NearT),x∈l10→AAo9 x)∧Zaa (Zbv t7)<10000∧q11=List.flatMap (AGd9 ly6 l10 me8 fr9) (Zbv t7))∧∀(i:Int),∃(ly12:LayT) (t13:TabT) (q14:TabT) (q15:TabT) (me16:Int) (fr17:Int) (l18:List NearT),Zaq lpTb=Zaq lpTb∧(Qz62 me8 l10 fr9)=(Qz62 me16 l18 fr17)∧LeH (Qz46 ly6 t7 q11) (Qz44 ly12 t13 q14)∧(Zaa l18≤9223372036854775807∧(∀(x:NearT),x∈l18→AAo9 x)∧TabMx t13∧TabOk q14∧q15=List.foldl (AIo9 ly12 t13 me16 fr17) q14 l18)∧∀(i:Int),R (.agg (Qz1 q15)) b)):=by kernel_rfl
theorem BFl9 {ly:LayT} (h:LayIn ly) (me:Int) (l:List NearT) (fr:Int) (x:NearT):ADg9 (sideS ly me l fr) (filN ly x)=x.gs.filter fun g=>mineS ly g me fr:=by
 rw [ADg9,BOd9 h,List.filter_filter];congr 1;funext g;rw [mineS,Zgc];rfl
theorem BMi9 {ly:LayT} (h:LayIn ly) (me:Int) (l:List NearT) (fr:Int) (u:UseT):AGd9 ly l me fr u=ACj9 (sideS ly me l fr) u:=by
 unfold AGd9 ACj9;rw [AKx9,ADq9];cases hx:l.find? (fun x:NearT=>x.fm==u.pe) with
 |none=>rfl
 | some x=>
  show (match x.gs.find? (mineP ly u.sl u.of me fr) with
   |some g=> [(⟨u.sl,u.of,u.pe,g.st⟩:UseT)]
   |none=> [])=match (ADg9 (sideS ly me l fr) (filN ly x)).find? (fun x=>x.sl==u.sl&&x.of==u.of) with
   |some g=> [(⟨u.sl,u.of,u.pe,g.st⟩:UseT)]
   |none=> []
  rw [BFl9 h,List.find?_filter];have e:mineP ly u.sl u.of me fr=fun g:GraT=>decide (mineS ly g me fr=true∧(g.sl==u.sl&&g.of==u.of)=true):=by
   funext g;rw [mineP,Bool.eq_iff_iff];simp only [Zal,decide_eq_true_eq]
  rw [←e]
theorem BEg9 (ly:LayT) (me fr:Int) (n m:NearT) (h:m.fm=n.fm) (q:TabT) (g:GraT):AHg9 ly me fr n.fm q g=if mineS ly g me fr=true then AEd9 ly m q g else q:=by
 rw [AHg9,AEd9,h]
theorem BMk9 {ly:LayT} (h:LayIn ly) (t:TabT) (me:Int) (l:List NearT) (fr:Int) (q:TabT) (x:NearT):AIo9 ly t me fr q x=takeN (sideS ly me l fr) ly (BFh9 t) q (filN ly x):=by
 have hp:hasP (filN ly x).fm (BFh9 t)=AGa9 t x.fm:=by
  rw [BFh9,ALz9,ALz9,AGa9];show (_||(_||false))=_;rw [Bool.or_false];rfl
 rw [AIo9,takeN,hp,BFl9 h,List.foldl_filter];first|rfl|(congr 1;done)|(congr 2;funext q g;exact BEg9 ly me fr x (filN ly x) rfl q g)
theorem BVc9 {ly:LayT} {t:TabT} {me:Int} {l:List NearT} {fr:Int} (h:newS ly t me l fr=true):l.foldl (AIo9 ly t me fr) ⟨t.us.flatMap (AGd9 ly l me fr),t.gs,t.ak⟩=takeS ly t me l fr:=by
 have hl:LayIn ly:=ABf9 (ACg9 h);rw [takeS,if_pos h];show _=(l.map (filN ly)).foldl _ _;rw [List.foldl_map];have e1:AIo9 ly t me fr=fun q x=>takeN (sideS ly me l fr) ly (BFh9 t) q (filN ly x):=by
  funext q x;exact BMk9 hl t me l fr q x
 have e2:AGd9 ly l me fr=ACj9 (sideS ly me l fr):=by funext u;exact BMi9 hl me l fr u
 rw [e1,e2]
def CGa9:CF:=fun args K=>∃(ly:LayT) (t q:TabT) (me:Int) (l:List NearT) (fr:Int),args= [layA ly,tabA t, .d (i64 me), .d (.sl 31 (rowsN l)), .d (i64 fr)]∧(TabMx t∧TabOk t∧l.length≤9223372036854775807∧(∀x∈l,AAo9 x)∧q=takeS ly t me l fr)∧K (tabA q)
theorem BPi9:COk 18 CGa9:=by
 rintro _ K ⟨ly,t,_,me,l,fr,rfl,⟨h1,h2,h3,h4,rfl⟩,hk⟩;refine ⟨_, ?_,hk⟩;refine pcV @wlTR CKa9 CBc9 func18 fun Ev bb=> ?_;rw [BVb9];refine ⟨ly,t,me,l,fr,_,rfl,⟨h1,h3,rfl⟩,Zax (fun c1=> ?_) fun c1=> ?_⟩
 ·rw [Zcb] at c1;rw [takeS,if_neg (by rw [c1];decide)];exact .rfl
 ·rw [Zcx] at c1;have hf:(t.us.flatMap (AGd9 ly l me fr)).length≤t.us.length:=BGt9 (AWn9 ly l me fr) _;refine ⟨ly,t,me,fr,l,_,rfl,rfl, .cons (.refl _) (.cons (.refl _) (.cons (.refl _) (.cons (.cons (Zfj rfl) (.cons .rfl (.cons .rfl .nil))) .nil))),⟨h3,h4,h2.1,rfl⟩,fun i=> ?_⟩;refine ⟨ly,t,⟨t.us.flatMap (AGd9 ly l me fr),t.gs,t.ak⟩,_,me,fr,l,rfl,rfl, .cons (.refl _) (.cons (.refl _) (.cons (.refl _) (.cons (.cons LeA.view (.cons .rfl (.cons .rfl .nil))) .nil))),⟨h3,h4,h1,⟨by have:=h2.1;simp only;omega,h2.2.1,h2.2.2⟩,rfl⟩,fun j=> ?_⟩;rw [BVc9 c1];exact .rfl
noncomputable def lpHa:Code:=sub [1,1,1,1,1,0,1,2,3] (code f17)
noncomputable def lpHb:Code:=sub [1,1,1,1,1,1,0,1,2,3] (code f17)
noncomputable def lpHc:Code:=sub [1,1,1,1,1,1,0,1,2,3,1,0,2,1,1,2,3] (code f17)
def tmHa (me fr:Int) (l:List NearT) (i:Int):List AV:= [.bad, .bad, .d (i64 me), .d (.sl 31 (rowsN l)), .d (i64 fr), .ptr 0 0, .ptr 1 0, .bad, .bad, .bad, .ptr 2 0, .bad, .ptr 3 0, .ptr 4 0, .d (i64 i)]++Zam 130 .bad
def tmHb (me fr:Int) (l:List NearT) (i w k:AV):List AV:= [.bad, .bad, .d (i64 me), .d (.sl 31 (rowsN l)), .d (i64 fr), .ptr 0 0, .ptr 1 0, .bad, .bad, .bad, .ptr 2 0, .bad, .bad, .ptr 4 0, .bad,i,w,k]++Zam 127 .bad
def THa:CT:= [(61,BIh9)]
theorem CKs9:AAb9 prog THa:=Zag BBh9 Zai
def THc:CT:= [(62,AYs9),(63,CFv9),(64,CGo9)]
theorem CHq9:AAb9 prog THc:=Zag AMx9 (Zag BPc9 (Zag BPz9 Zai))
def THb:CT:= [(27,BIo9)]
theorem CKr9:AAb9 prog THb:=Zag ATd9 Zai
abbrev Qz98 (v0:LayT) (v1:TabT) (v2:TabT) (v3:List GraT):= [bk (Qz3 v0),bk (Qz1 v1),bk Qz4,bk (Qz1 v2),bk [Zad (Zaj 4 (rowsU (Zbv v2))),Zcc 59 5 (rowsG v3),Zad (Zaj 3 (rowsA (Zck v2)))]]
theorem rHa (ly:LayT) (t lf:TabT) (me fr:Int) (l:List NearT) (q:List GraT) (i:Int):wpc prog ⟨THa, [],wl,y,false⟩ 100 lpHa (tmHa me fr l i) [layB ly,tabB t,nilB3,tabB lf,⟨[.d (.sl 4 (rowsU lf.us)), .own 59 5 (rowsG q), .d (.sl 3 (rowsA lf.ak))],false,false,0⟩] b (maskK 5 [2,3,4,5,6,10,12,13,14] K)=(BIf (decide (i<((Zaa (rowsG (Zbx lf)):Nat):Int))) (BIf (true&&decide (0≤i)) (∃(x0:Int) (x1:Int) (x2:Int) (x3:Int) (x4:Int),(rowsG (Zbx lf))[Zak i]? =some (Qz27 x0 x1 x2 x3 x4)∧∃(ly7:LayT) (g8:GraT) (me9:Int) (l10:List NearT) (fr11:Int) (q12:GraT), [Zan (Qz3 ly),Zan (Qz15 x0 x1 x2 x3 x4),Zad (i64 me),Zad (Zaj 31 (rowsN l)),Zad (i64 fr)]= [Zan (Qz3 ly7),Zan (Qz5 g8),Zad (i64 me9),Zad (Zaj 31 (rowsN l10)),Zad (i64 fr11)]∧(Zaa l10≤9223372036854775807∧(∀(x:NearT),x∈l10→AAo9 x)∧q12=ABs9 ly7 g8 me9 l10 fr11)∧BIf (true&&decide ((Zaa (rowsG q)+1)*40≤140737488355328)) (K .normal (Zab::Zab::Zad (i64 me)::Zad (Zaj 31 (rowsN l))::Zad (i64 fr)::Zae 0 0::Zae 1 0::bds 3 (Zae 2 0::Zab::Zae 3 0::Zae 4 0::Zad (i64 (Zac .i64 (i+1)))::bds 130 [])) [bk (Qz3 ly),bk (Qz1 t),bk Qz4,bk (Qz1 lf),bk [Zad (Zaj 4 (rowsU (Zbv lf))),Zcc 59 5 (rowsG q++ [Qz14 q12]),Zad (Zaj 3 (rowsA (Zck lf)))]] b) False) False) (K (Zba 0) (Zab::Zab::Zad (i64 me)::Zad (Zaj 31 (rowsN l))::Zad (i64 fr)::Zae 0 0::Zae 1 0::bds 3 (Zae 2 0::Zab::Zae 3 0::Zae 4 0::Zad (i64 i)::bds 130 [])) (Qz98 ly t lf q) b)):=by kernel_rfl
abbrev Qz33 (v0:LayT) (v1:TabT) (v2:TabT) (v3:TabT):= [bk (Qz3 v0),bk (Qz1 v1),bk Qz4,bk (Qz1 v2),bk (Qz1 v3)]
abbrev Qz65 (v0:Int) (v1:List NearT) (v2:Int) (v3:Int) (v4:Bool) (v5:Int):=Zab::Zab::Zad (i64 v0)::Zad (Zaj 31 (rowsN v1))::Zad (i64 v2)::Zae 0 0::Zae 1 0::bds 3 (Zae 2 0::Zab::Zab::Zae 4 0::Zab::Zad (i64 v3)::Zad (bo v4)::Zad (i64 v5)::bds 127 [])
theorem rHc (ly:LayT) (t lf q:TabT) (me fr:Int) (l:List NearT) (w:Bool) (i k:Int):wpc prog ⟨THc, [],wl,y,false⟩ 100 lpHc (tmHb me fr l (.d (i64 i)) (.d (bo w)) (.d (i64 k))) [layB ly,tabB t,nilB3,tabB lf,tabB q] b (maskK 5 [2,3,4,5,6,10,13,15,16,17] K)=(BIf (true&&decide (0≤i)) (∃(n0:NearT),(rowsN l)[Zak i]? =some (nearR n0)∧BIf (decide (k<((Zaa (rowsA (Zdw n0)):Nat):Int))) (BIf w (BIf (true&&decide (0≤i)) (∃(n3:NearT),(rowsN l)[Zak i]? =some (nearR n3)∧BIf (true&&decide (0≤k)) (∃(x6:Int) (x7:Int) (x8:Int),(rowsA (Zdw n3))[Zak k]? =some [i64 x6,i64 x7,i64 x8]∧∃(sl11:Int) (of12:Int) (pe13:Int) (l14:LayT) (z15:Bool),(Qz28 x6 x7 x8 ly)=(Qz28 sl11 of12 pe13 l14)∧z15=ABc9 sl11 of12 pe13 l14∧BIf (!z15) (K .normal (Zab::Zab::Zad (i64 me)::Zad (Zaj 31 (rowsN l))::Zad (i64 fr)::Zae 0 0::Zae 1 0::bds 3 (Zae 2 0::Zab::Zab::Zae 4 0::Zab::Zad (i64 i)::Zad (bo w)::Zad (i64 (Zac .i64 (k+1)))::bds 127 [])) (Qz33 ly t lf q) b) (BIf (x8 !=me) (K .normal (Zab::Zab::Zad (i64 me)::Zad (Zaj 31 (rowsN l))::Zad (i64 fr)::Zae 0 0::Zae 1 0::bds 3 (Zae 2 0::Zab::Zab::Zae 4 0::Zab::Zad (i64 i)::Zad (bo w)::Zad (i64 (Zac .i64 (k+1)))::bds 127 [])) (Qz33 ly t lf q) b) (BIf (true&&decide (0≤i)) (∃(n16:NearT),(rowsN l)[Zak i]? =some (nearR n16)∧∃(l19:LayT) (ns20:List NearT) (sl21:Int) (of22:Int) (but23:Int) (q24:Bool), [Zan (Qz3 ly),Zad (Zaj 31 (rowsN l)),Zan [Zad (i64 x6),Zad (i64 x7)],Zad (i64 (Zcy n16))]=(Qz93 l19 ns20 sl21 of22 but23)∧((∀(x:NearT),x∈ns20→AAo9 x)∧Zaa ns20≤9223372036854775807∧q24=ANl9 l19 ns20 sl21 of22 but23)∧BIf q24 (K .normal (Zab::Zab::Zad (i64 me)::Zad (Zaj 31 (rowsN l))::Zad (i64 fr)::Zae 0 0::Zae 1 0::bds 3 (Zae 2 0::Zab::Zab::Zae 4 0::Zab::Zad (i64 i)::Zad (bo w)::Zad (i64 (Zac .i64 (k+1)))::bds 127 [])) (Qz33 ly t lf q) b) (BIf (true&&decide (0≤i)) (∃(n25:NearT),(rowsN l)[Zak i]? =some (nearR n25)∧∃(t28:TabT) (z29:TabT) (ly30:LayT) (u31:GraT) (e32:Int), [Zan (Qz1 q),Zan (Qz3 ly),Zan [Zad (i64 x6),Zad (i64 x7),Zad (i64 (Zcy n25)),Zad (i64 fr),Zad (i64 (Zac .i64 (fr+8)))]]= [Zan (Qz1 t28),Zan (Qz3 ly30),Zan (Qz5 u31)]∧(TabOk t28∧z29=addSG t28 ly30 u31∧e32=refEG t28 ly30 u31)∧BIf (e32==(0:Int)) (K .normal (Zab::Zab::Zad (i64 me)::Zad (Zaj 31 (rowsN l))::Zad (i64 fr)::Zae 0 0::Zae 1 0::bds 3 (Zae 2 0::Zab::Zab::Zae 4 0::Zab::Zad (i64 i)::Zad (bo w)::Zad (i64 (Zac .i64 (k+1)))::bds 127 [])) (Qz33 ly t lf z29) b) (K .normal (Zab::Zab::Zad (i64 me)::Zad (Zaj 31 (rowsN l))::Zad (i64 fr)::Zae 0 0::Zae 1 0::bds 3 (Zae 2 0::Zab::Zab::Zae 4 0::Zab::Zad (i64 i)::Zad (bo w)::Zad (i64 (Zac .i64 (k+1)))::bds 127 [])) (Qz33 ly t lf q) b)) False)) False))) False) False) (K (Zba 4) (Qz65 me l fr i w k) (Qz33 ly t lf q) b)) (K (Zba 4) (Qz65 me l fr i w k) (Qz33 ly t lf q) b)) False):=by kernel_rfl
variable {Ev:Env prog} {b0:Ev.β} {Q:Exit→St Ev.β→Prop}
def haB (ly:LayT) (t lf:TabT) (q:List GraT):List Blk:= [layB ly,tabB t,nilB3,tabB lf,⟨[.d (.sl 4 (rowsU lf.us)), .own 59 5 (rowsG q), .d (.sl 3 (rowsA lf.ak))],false,false,0⟩]
theorem map_take {α β:Type} (f:α→β) {l:List α} {i:Nat} {x:α} (h:l[i]? =some x):(l.take (i+1)).map f=(l.take i).map f++ [f x]:=by
 rw [Zem,h,List.map_append];simp
theorem wrHa (ly:LayT) (t lf:TabT) (me fr:Int) (l:List NearT) (hl:l.length≤9223372036854775807) (hN:∀x∈l,AAo9 x) (ht:lf.gs.length<10000)
 (hQ:∀i:Int,Q (.exit 0) ⟨tmHa me fr l i,haB ly t lf (lf.gs.map fun g=>ABs9 ly g me l fr),b0⟩):
 WR Ev lpHa (lf.gs.length+1) ⟨tmHa me fr l (0:Nat),haB ly t lf ((lf.gs.take 0).map fun g=>ABs9 ly g me l fr),b0⟩ Q:=by
 refine WR.scanG (X:=⟨THa, [],wlW Ev,Ev.Y,false⟩) (k:=100) (L:=5) [2,3,4,5,6,10,12,13,14] mixed (CX.Ok.of CKs9 Zar) lf.gs (fun _=>false) (fun i=>tmHa me fr l (i:Nat)) (fun i=>haB ly t lf ((lf.gs.take i).map fun g=>ABs9 ly g me l fr)) (fun _=>rfl) 0 0 (fun i x _ hi hx K _ k2=> ?_) (fun K k1=> ?_) (fun _=>by rw [Zdc];exact hQ _) (fun h=>by simp at h) lf.gs.length 0 (by simp) (Zat _) rfl
 ·have k2:=k2 rfl;have hlen:((lf.gs.take i).map fun g=>ABs9 ly g me l fr).length≤lf.gs.length:=by rw [List.length_map];exact List.length_take_le' _ _
  rw [map_take _ hx] at k2;generalize ((lf.gs.take i).map fun g=>ABs9 ly g me l fr)=q at k2 hlen ⊢;refine Eq.mpr (rHa _ _ _ K ly t lf me fr l q i) ?_;rw [wrapN (by omega)];refine (Zas (by rw [AAd9];simp;omega) (Zas (natI i) ⟨_,_,_,_,_,ABb9 hx,⟨_,_,_,_,_,_,rfl,⟨hl,⟨hN,rfl⟩⟩,(Zas (by rw [AAd9];simp;omega) ?_)⟩⟩));rw [haB,AFq9] at k2;exact k2
 ·refine Eq.mpr (rHa _ _ _ K ly t lf me fr l _ _) ?_;exact Zci (by rw [AAd9];simp) k1
def ACz9 (ly:LayT) (me fr:Int) (l:List NearT) (n:NearT) (q:TabT) (a:AskT):TabT:=if ABc9 a.sl a.of a.pe ly=true then (if (a.pe !=me||ANl9 ly l a.sl a.of n.fm)=true then q else if refEG q ly (newG fr n a)=0 then addSG q ly (newG fr n a) else q) else q
theorem ASq9 {ly:LayT} {me fr:Int} {l:List NearT} {n:NearT} {q:TabT} {a:AskT} (h:TabOk q):TabOk (ACz9 ly me fr l n q a):=by
 unfold ACz9;split
 ·split
  ·exact h
  ·split
   ·rename_i h1;exact BKs9 h1
   ·exact h
 ·exact h
def hcB (ly:LayT) (t lf q:TabT):List Blk:= [layB ly,tabB t,nilB3,tabB lf,tabB q]
theorem wrHc (ly:LayT) (t lf q0:TabT) (me fr:Int) (l:List NearT) (i:Nat) (n:NearT) (hn:l[i]? =some n) (hl:l.length≤9223372036854775807) (hN:∀x∈l,AAo9 x) (h0:TabOk q0)
 (hQ:∀k:Int,Q (.exit 4) ⟨tmHb me fr l (.d (i64 i)) (.d (bo true)) (.d (i64 k)),hcB ly t lf (n.ak.foldl (ACz9 ly me fr l n) q0),b0⟩):
 WR Ev lpHc (n.ak.length+1) ⟨tmHb me fr l (.d (i64 i)) (.d (bo true)) (.d (i64 (0:Nat))),hcB ly t lf ((n.ak.take 0).foldl (ACz9 ly me fr l n) q0),b0⟩ Q:=by
 refine WR.scanG (X:=⟨THc, [],wlW Ev,Ev.Y,false⟩) (k:=100) (L:=5) [2,3,4,5,6,10,13,15,16,17] mixed (CX.Ok.of CHq9 Zar) n.ak (fun _=>false) (fun k=>tmHb me fr l (.d (i64 i)) (.d (bo true)) (.d (i64 (k:Nat)))) (fun k=>hcB ly t lf ((n.ak.take k).foldl (ACz9 ly me fr l n) q0)) (fun _=>rfl) 4 0 (fun k x _ hk hx K _ k2=> ?_) (fun K k1=> ?_) (fun _=>by rw [Zdc];exact hQ _) (fun h=>by simp at h) n.ak.length 0 (by simp) (Zat _) rfl
 ·have k2:=k2 rfl;have hnk:=(hN n (Zbj hn)).2.2;have hq:TabOk ((n.ak.take k).foldl (ACz9 ly me fr l n) q0):=ABx9 (P:=TabOk) (fun q g h=>ASq9 h) _ h0;rw [ACe9 _ _ hx] at k2;generalize (n.ak.take k).foldl (ACz9 ly me fr l n) q0=q at k2 hq ⊢;refine Eq.mpr (rHc _ _ _ K ly t lf q me fr l true i k) ?_;rw [wrapN (by omega)];have key:∀q':TabT,q'=ACz9 ly me fr l n q x→K .normal (tmHb me fr l (.d (i64 i)) (.d (bo true)) (.d (i64 ((k+1:Nat):Int)))) (hcB ly t lf q') b0:=by
   rintro _ rfl;exact k2
  refine (Zas (natI i) ⟨_,AAr9 hn,(Zas (by rw [AAi9];simp;omega) (Zas rfl (Zas (natI i) ⟨_,AAr9 hn,(Zas (natI k) ⟨_,_,_,ABd9 hx,⟨_,_,_,_,_,rfl,rfl,(Zax (fun c1=> ?_) fun c1=>(Zax (fun c2=> ?_) fun c2=>(Zas (natI i) ⟨_,AAr9 hn,⟨_,_,_,_,_,_,rfl,⟨hN,⟨hl,rfl⟩⟩,(Zax (fun c3=> ?_) fun c3=>(Zas (natI i) ⟨_,AAr9 hn,⟨_,_,_,newG fr n x,_,rfl,⟨hq,⟨rfl,rfl⟩⟩,(Zax (fun c4=> ?_) fun c4=> ?_)⟩⟩))⟩⟩)))⟩⟩)⟩)))⟩)
  ·exact key _ (by rw [ACz9,if_neg (by rw [Zcb] at c1;rw [c1];decide)])
  ·exact key _ (by rw [ACz9,if_pos (by rw [Zcx] at c1;exact c1),if_pos (by rw [show (x.pe !=me)=true from c2];rfl)])
  ·exact key _ (by rw [ACz9,if_pos (by rw [Zcx] at c1;exact c1),if_pos (by rw [show ANl9 ly l x.sl x.of n.fm=true from c3];simp)])
  ·exact key _ (by rw [ACz9,if_pos (by rw [Zcx] at c1;exact c1),if_neg (by rw [show (x.pe !=me)=false from c2,show ANl9 ly l x.sl x.of n.fm=false from c3];decide),if_pos (by simpa using c4)])
  ·exact key _ (by rw [ACz9,if_pos (by rw [Zcx] at c1;exact c1),if_neg (by rw [show (x.pe !=me)=false from c2,show ANl9 ly l x.sl x.of n.fm=false from c3];decide),if_neg (by simpa using c4)])
 ·refine Eq.mpr (rHc _ _ _ K ly t lf _ me fr l true i _) ?_;exact Zas (natI i) ⟨_,AAr9 hn,Zci (by rw [AAi9];simp) k1⟩
theorem wrHc0 (ly:LayT) (t lf q:TabT) (me fr:Int) (l:List NearT) (i:Nat) (n:NearT) (hn:l[i]? =some n)
 (hQ:∀k:Int,Q (.exit 4) ⟨tmHb me fr l (.d (i64 i)) (.d (bo false)) (.d (i64 k)),hcB ly t lf q,b0⟩):
 WR Ev lpHc (0+1) ⟨tmHb me fr l (.d (i64 i)) (.d (bo false)) (.d (i64 (0:Nat))),hcB ly t lf q,b0⟩ Q:=by
 refine WR.ofMask (X:=⟨THc, [],wlW Ev,Ev.Y,false⟩) (k:=100) [2,3,4,5,6,10,13,15,16,17] mixed (CX.Ok.of CHq9 Zar) ?_;refine Eq.mpr (rHc _ _ _ _ ly t lf q me fr l false i _) ?_;exact Zas (natI i) ⟨_,AAr9 hn,Zax (fun _=>hQ _) fun _=>hQ _⟩
def wlHc {β:Type}:WLT β:=fun cd tm hp b K=>∃(ly:LayT) (t lf q0 q:TabT) (me fr:Int) (l:List NearT) (w:Bool) (i:Nat) (n:NearT),cd= .loop lpHc∧AAn9 [2,3,4,5,6,10,13,15,16,17] 0 tm=tmHb me fr l (.d (i64 i)) (.d (bo w)) (.d (i64 0))∧hp=hcB ly t lf q0∧(l[i]? =some n∧l.length≤9223372036854775807∧(∀x∈l,AAo9 x)∧TabOk q0∧q=if w=true then n.ak.foldl (ACz9 ly me fr l n) q0 else q0)∧
 ∀k:Int,K (.exit 4) (tmHb me fr l (.d (i64 i)) (.d (bo w)) (.d (i64 k))) (hcB ly t lf q) b
theorem CBq9:WlOk Ev wlHc:=by
 rintro c tm hp b K ⟨ly,t,lf,q0,q,me,fr,l,w,i,n,rfl,htm,rfl,⟨hn,hl,hN,h0,rfl⟩,hK⟩;refine W.cast (htm▸AAc9 _ tm 0) (Zbg _) ?_;cases w
 ·exact W.rounds (wrHc0 (Q:=fun e s=>K e s.tm s.hp s.b) (b0:=b) ly t lf q0 me fr l i n hn hK)
 ·exact W.rounds (wrHc (Q:=fun e s=>K e s.tm s.hp s.b) (b0:=b) ly t lf q0 me fr l i n hn hl hN h0 hK)
theorem rHb (ly:LayT) (t lf q:TabT) (me fr:Int) (l:List NearT) (i:Int):wpc prog ⟨THb, [],wlHc,y,false⟩ 100 lpHb (tmHb me fr l (.d (i64 i)) .bad .bad) [layB ly,tabB t,nilB3,tabB lf,tabB q] b (maskK 5 [2,3,4,5,6,10,13,15] K)=(BIf (decide (i<((Zaa (rowsN l):Nat):Int))) (BIf (true&&decide (0≤i)) (∃(n0:NearT),(rowsN l)[Zak i]? =some (nearR n0)∧∃(n3:NearT) (fr4:Int) (q5:Bool), [nearA n0,Zad (i64 fr)]= [nearA n3,Zad (i64 fr4)]∧q5=AJb9 n3 fr4∧∃(ly6:LayT) (t7:TabT) (lf8:TabT) (q9:TabT) (q10:TabT) (me11:Int) (fr12:Int) (l13:List NearT) (w14:Bool) (i15:Nat) (n16:NearT),Zaq lpHc=Zaq lpHc∧(Zab::Zab::Zad (i64 me)::Zad (Zaj 31 (rowsN l))::Zad (i64 fr)::Zae 0 0::Zae 1 0::bds 3 (Zae 2 0::Zab::Zab::Zae 4 0::Zab::Zad (i64 i)::Zad (bo q5)::Zad (i64 0)::bds 127 []))=(Zab::Zab::Zad (i64 me11)::Zad (Zaj 31 (rowsN l13))::Zad (i64 fr12)::Zae 0 0::Zae 1 0::bds 3 (Zae 2 0::Zab::Zab::Zae 4 0::Zab::Zad (i64 (i15:Int))::Zad (bo w14)::Zad (i64 0)::bds 127 []))∧(Qz33 ly t lf q)=(Qz33 ly6 t7 lf8 q9)∧(l13[i15]? =some n16∧Zaa l13≤9223372036854775807∧(∀(x:NearT),x∈l13→AAo9 x)∧TabOk q9∧q10=if w14=true then List.foldl (ACz9 ly6 me11 fr12 l13 n16) q9 (Zdw n16) else q9)∧∀(k:Int),K .normal (Zab::Zab::Zad (i64 me11)::Zad (Zaj 31 (rowsN l13))::Zad (i64 fr12)::Zae 0 0::Zae 1 0::bds 3 (Zae 2 0::Zab::Zab::Zae 4 0::Zab::Zad (i64 (Zac .i64 ((i15:Int)+(1:Int))))::bds 129 [])) (Qz33 ly6 t7 lf8 q10) b) False) (K (Zba 2) (Zab::Zab::Zad (i64 me)::Zad (Zaj 31 (rowsN l))::Zad (i64 fr)::Zae 0 0::Zae 1 0::bds 3 (Zae 2 0::Zab::Zab::Zae 4 0::Zab::Zad (i64 i)::bds 129 [])) (Qz33 ly t lf q) b)):=by kernel_rfl
theorem CEl9 {ly:LayT} {t:TabT} {me:Int} {l:List NearT} {fr:Int} (h:newS ly t me l fr=true):∀n∈l,0≤n.fm∧n.fm<ly.no∧n.fm≠me∧0≤n.fr∧n.fr≤fr:=by
 have hv:=ABf9 (ACg9 h);rw [newS,Zal,Zal,Zal,Zcb] at h;exact AXj9 hv.1.2 h.2.2.2
variable {Ev:Env prog} {b0:Ev.β} {Q:Exit→St Ev.β→Prop}
def AEz9 (ly:LayT) (me fr:Int) (l:List NearT) (q:TabT) (n:NearT):TabT:=if AJb9 n fr=true then n.ak.foldl (ACz9 ly me fr l n) q else q
theorem BGk9 {ly:LayT} {me fr:Int} {l:List NearT} {q:TabT} {n:NearT} (h:TabOk q):TabOk (AEz9 ly me fr l q n):=by
 unfold AEz9;split
 ·exact ABx9 (P:=TabOk) (fun q g h=>ASq9 h) _ h
 ·exact h
theorem wrHb (ly:LayT) (t lf q0:TabT) (me fr:Int) (l:List NearT) (hl:l.length≤9223372036854775807) (hN:∀x∈l,AAo9 x) (h0:TabOk q0)
 (hQ:∀i:Int,Q (.exit 2) ⟨tmHb me fr l (.d (i64 i)) .bad .bad,hcB ly t lf (l.foldl (AEz9 ly me fr l) q0),b0⟩):
 WR Ev lpHb (l.length+1) ⟨tmHb me fr l (.d (i64 (0:Nat))) .bad .bad,hcB ly t lf ((l.take 0).foldl (AEz9 ly me fr l) q0),b0⟩ Q:=by
 refine WR.scanG (X:=⟨THb, [],wlHc,Ev.Y,false⟩) (k:=100) (L:=5) [2,3,4,5,6,10,13,15] mixed (CX.Ok.ofWl CKr9 Zar CBq9) l (fun _=>false) (fun i=>tmHb me fr l (.d (i64 (i:Nat))) .bad .bad) (fun i=>hcB ly t lf ((l.take i).foldl (AEz9 ly me fr l) q0)) (fun _=>rfl) 2 0 (fun i x _ hi hx K _ k2=> ?_) (fun K k1=> ?_) (fun _=>by rw [Zdc];exact hQ _) (fun h=>by simp at h) l.length 0 (by simp) (Zat _) rfl
 ·have k2:=k2 rfl;have hq:TabOk ((l.take i).foldl (AEz9 ly me fr l) q0):=ABx9 (P:=TabOk) (fun q g h=>BGk9 h) _ h0;rw [ACe9 _ _ hx] at k2;generalize (l.take i).foldl (AEz9 ly me fr l) q0=q at k2 hq ⊢;refine Eq.mpr (rHb _ _ K ly t lf q me fr l i) ?_;refine Zas (by rw [ABe9];simp;omega) (Zas (natI i) ⟨x,AAr9 hx,x,fr,_,rfl,rfl,ly,t,lf,q,AEz9 ly me fr l q x,me,fr,l,AJb9 x fr,i,x,rfl,rfl,rfl,⟨hx,hl,hN,hq,rfl⟩,fun k=> ?_⟩);rw [wrapN (by omega)];exact k2
 ·refine Eq.mpr (rHb _ _ K ly t lf _ me fr l _) ?_;exact Zci (by rw [ABe9];simp) k1
def wlHa {β:Type}:WLT β:=fun cd tm hp b K=>∃(ly:LayT) (t lf:TabT) (me fr:Int) (l:List NearT) (q:List GraT),cd= .loop lpHa∧AAn9 [2,3,4,5,6,10,12,13,14] 0 tm=tmHa me fr l 0∧LeH hp (haB ly t lf [])∧(l.length≤9223372036854775807∧(∀x∈l,AAo9 x)∧lf.gs.length<10000∧q=lf.gs.map fun g=>ABs9 ly g me l fr)∧∀i:Int,K (.exit 0) (tmHa me fr l i) (haB ly t lf q) b
theorem CBs9:WlOk Ev wlHa:=by
 rintro c tm hp b K ⟨ly,t,lf,me,fr,l,q,rfl,htm,hhp,⟨hl,hN,ht,rfl⟩,hK⟩;refine W.cast (htm▸AAc9 _ tm 0) hhp ?_;exact W.rounds (wrHa (Q:=fun e s=>K e s.tm s.hp s.b) (b0:=b) ly t lf me fr l hl hN ht hK)
def wlHb {β:Type}:WLT β:=fun cd tm hp b K=>∃(ly:LayT) (t lf q0 q:TabT) (me fr:Int) (l:List NearT),cd= .loop lpHb∧AAn9 [2,3,4,5,6,10,13,15] 0 tm=tmHb me fr l (.d (i64 0)) .bad .bad∧LeH hp (hcB ly t lf q0)∧(l.length≤9223372036854775807∧(∀x∈l,AAo9 x)∧TabOk q0∧q=l.foldl (AEz9 ly me fr l) q0)∧∀i:Int,K (.exit 2) (tmHb me fr l (.d (i64 i)) .bad .bad) (hcB ly t lf q) b
theorem CBr9:WlOk Ev wlHb:=by
 rintro c tm hp b K ⟨ly,t,lf,q0,q,me,fr,l,rfl,htm,hhp,⟨hl,hN,h0,rfl⟩,hK⟩;refine W.cast (htm▸AAc9 _ tm 0) hhp ?_;exact W.rounds (wrHb (Q:=fun e s=>K e s.tm s.hp s.b) (b0:=b) ly t lf q0 me fr l hl hN h0 hK)
def wlHR {β:Type}:WLT β:=fun cd tm hp b K=>match cidO cd with
 |8=>wlHa cd tm hp b K
 |12=>wlHb cd tm hp b K
 |_=>False
theorem CBt9:WlOk Ev wlHR:=by
 intro c tm hp b K h;unfold wlHR at h;split at h
 ·exact CBs9 c tm hp b K h
 ·exact CBr9 c tm hp b K h
 ·exact h.elim
def THR:CT:= [(19,AXx9),(60,cExpR)]
theorem CKt9:AAb9 prog THR:=Zag AMw9 (Zag BYr9 Zai)
abbrev Qz56 (v0:Int) (v1:List NearT) (v2:Int):=Zab::Zab::Zad (i64 v0)::Zad (Zaj 31 (rowsN v1))::Zad (i64 v2)::Zae 0 0::Zae 1 0::bds 3 (Zae 2 0::Zab::Zab::Zae 4 0::Zab::Zad (i64 0)::bds 129 [])
abbrev Qz60 (v0:Int) (v1:List NearT) (v2:Int):=Zab::Zab::Zad (i64 v0)::Zad (Zaj 31 (rowsN v1))::Zad (i64 v2)::Zae 0 0::Zae 1 0::bds 3 (Zae 2 0::Zab::Zae 3 0::Zae 4 0::Zad (i64 0)::bds 130 [])
theorem BNw9 (ly:LayT) (t:TabT) (me:Int) (l:List NearT) (fr:Int):wpFn prog ⟨THR, [],wlHR,y,false⟩ 100 f17 [layA ly,tabA t, .d (i64 me), .d (.sl 31 (rowsN l)), .d (i64 fr)] b R=(∃(ly0:LayT) (t1:TabT) (me2:Int) (l3:List NearT) (fr4:Int) (q5:Bool),(Qz8 ly t me l fr)=(Qz8 ly0 t1 me2 l3 fr4)∧(TabMx t1∧Zaa l3≤9223372036854775807∧q5=newS ly0 t1 me2 l3 fr4)∧BIf (!q5) (R (.agg (Qz1 t)) b) (∃(t6:TabT) (fr7:Int) (q8:TabT), [Zan (Qz1 t),Zad (i64 fr)]= [Zan (Qz1 t6),Zad (i64 fr7)]∧(TabOk t6∧q8=ABv9 t6 fr7)∧∃(ly9:LayT) (t10:TabT) (lf11:TabT) (me12:Int) (fr13:Int) (l14:List NearT) (q15:List GraT),Zaq lpHa=Zaq lpHa∧(Qz60 me l fr)=(Qz60 me12 l14 fr13)∧LeH [bk (Qz3 ly),bk (Qz1 t),bk Qz4,bk (Qz1 q8),bk [Zad (Zaj 4 (rowsU (Zbv q8))),Zad (Dv.s (.slice none 0 0)),Zad (Zaj 3 (rowsA (Zck q8)))]] [bk (Qz3 ly9),bk (Qz1 t10),bk Qz4,bk (Qz1 lf11),bk [Zad (Zaj 4 (rowsU (Zbv lf11))),Zcc 59 5 (rowsG []),Zad (Zaj 3 (rowsA (Zck lf11)))]]∧(Zaa l14≤9223372036854775807∧(∀(x:NearT),x∈l14→AAo9 x)∧Zaa (Zbx lf11)<10000∧q15=List.map (fun (g16:GraT)=>ABs9 ly9 g16 me12 l14 fr13) (Zbx lf11))∧∀(i:Int),∃(ly17:LayT) (t18:TabT) (lf19:TabT) (q20:TabT) (q21:TabT) (me22:Int) (fr23:Int) (l24:List NearT),Zaq lpHb=Zaq lpHb∧(Qz56 me12 l14 fr13)=(Qz56 me22 l24 fr23)∧LeH (Qz98 ly9 t10 lf11 q15) (Qz33 ly17 t18 lf19 q20)∧(Zaa l24≤9223372036854775807∧(∀(x:NearT),x∈l24→AAo9 x)∧TabOk q20∧q21=List.foldl (AEz9 ly17 me22 fr23 l24) q20 l24)∧∀(i:Int),R (.agg (Qz1 q21)) b)):=by kernel_rfl
theorem BGg9 {ly:LayT} {t:TabT} {me:Int} {l:List NearT} {fr:Int} (h:newS ly t me l fr=true) {x:NearT} (hx:x∈l):APo9 (sideS ly me l fr) (filN ly x)=AJb9 x fr:=by
 have h1:=CEl9 h x hx;have h2:=(ARu9 h).2;rw [APo9,AJb9];have e4:(filN ly x).fr=x.fr:=rfl;show decide ((filN ly x).fr≥Zac Zbb (fr - 1))=_;rw [AAw9 (by omega) (by omega),AAw9 (by omega) (by omega),e4,Bool.eq_iff_iff,decide_eq_true_iff,decide_eq_true_iff];omega
theorem BUz9 {ly:LayT} (h:LayIn ly) (me:Int) (hm:0≤me) (l:List NearT) (fr:Int) (x:NearT) (sl of:Int):ANg9 (sideS ly me l fr) (filN ly x) sl of=(UsesS ly x sl of me||AsksS ly x sl of me):=by
 have e0:(sideS ly me l fr).me=me:=rfl;rw [ANg9,e0,BXe9 h,CFe9 h,Zed,Zed,UsesS,AsksS,decide_eq_false (by omega:¬me<0)];congr 1;congr 1;funext a;rw [eqAsk,Bool.eq_iff_iff];simp only [Zal,beq_iff_eq];constructor
 ·rintro ⟨h1,h2,h3,h4⟩;exact ⟨h1,⟨h2.symm,h3.symm⟩,h4.symm⟩
 ·rintro ⟨h1,⟨h2,h3⟩,h4⟩;exact ⟨h1,h2.symm,h3.symm,h4.symm⟩
theorem CCi9 {ly:LayT} (h:LayIn ly) (me:Int) (l:List NearT) (fr sl of but:Int):ANl9 ly l sl of but=usedS (sideS ly me l fr).ns sl of but:=by
 rw [ANl9,usedS];show _=(l.map (filN ly)).any _;rw [List.any_map];congr 1;funext x;show _=(!((filN ly x).fm==but)&&(filN ly x).us.any _);rw [BXe9 h,Zed,UsesS,Zgc];congr 1;congr 1;funext u;simp
theorem BVp9 {ly:LayT} {t:TabT} {me:Int} {l:List NearT} {fr:Int} (h:newS ly t me l fr=true) (g:GraT):ABs9 ly g me l fr=AEg9 (sideS ly me l fr) fr g:=by
 have hl:LayIn ly:=ABf9 (ACg9 h);have hm:=(ARu9 h).1;rw [ABs9,AEg9,AGj9,AKx9];cases hx:l.find? (fun x:NearT=>x.fm==g.pe) with
 |none=>rfl
 | some x=>
  have hmem:x∈l:=List.mem_of_find?_eq_some hx;show (match APe9 ly g me x fr with|true=>BWj9 g fr|false=>g)=if (true&&(APo9 (sideS ly me l fr) (filN ly x)&&ANg9 (sideS ly me l fr) (filN ly x) g.sl g.of))=true then BAf9 fr g else g;rw [BGg9 h hmem,BUz9 hl me hm.1,APe9,Zec];cases (AJb9 x fr&&(UsesS ly x g.sl g.of me||AsksS ly x g.sl g.of me))<;>rfl
theorem BGm9 {ly:LayT} (hl:LayIn ly) (me:Int) (l:List NearT) (fr:Int) (x:NearT) (q:TabT) (a:AskT):ACz9 ly me fr l x q a=if ABc9 a.sl a.of a.pe ly=true then AAs9 (sideS ly me l fr) ly me fr (filN ly x) q a else q:=by
 have e:newG fr (filN ly x) a=newG fr x a:=rfl;rw [ACz9,AAs9,CCi9 hl me l fr,e];rfl
theorem BGl9 {ly:LayT} {t:TabT} {me:Int} {l:List NearT} {fr:Int} (h:newS ly t me l fr=true) (q:TabT) {x:NearT} (hx:x∈l):AEz9 ly me fr l q x=AFu9 (sideS ly me l fr) ly me fr q (filN ly x):=by
 have hl:LayIn ly:=ABf9 (ACg9 h);rw [AEz9,AFu9,BGg9 h hx,CFe9 hl,List.foldl_filter];have e:ACz9 ly me fr l x=fun q a=>if ABc9 a.sl a.of a.pe ly=true then AAs9 (sideS ly me l fr) ly me fr (filN ly x) q a else q:=by
  funext q a;exact BGm9 hl me l fr x q a
 rw [e]
theorem AXm9 {α β:Type} {f g:β→α→β}:∀ {l:List α} {b:β},(∀b a,a∈l→f b a=g b a)→l.foldl f b=l.foldl g b
 | [],b,_=>rfl
 | x::r,b,h=>by
  rw [Zef,Zef,h b x List.mem_cons_self];exact AXm9 fun b a ha=>h b a (List.mem_cons_of_mem _ ha)
theorem BNx9 {ly:LayT} {t:TabT} {me:Int} {l:List NearT} {fr:Int} (h:newS ly t me l fr=true):l.foldl (AEz9 ly me fr l) ⟨(ABv9 t fr).us,(ABv9 t fr).gs.map (fun g=>ABs9 ly g me l fr),(ABv9 t fr).ak⟩=AEj9 ly t me l fr:=by
 rw [AEj9,if_pos h,AKa9];show _=(l.map (filN ly)).foldl _ _;rw [List.foldl_map,AXm9 fun q x hx=>BGl9 h q hx];have e:(fun g=>ABs9 ly g me l fr)=AEg9 (sideS ly me l fr) fr:=by funext g;exact BVp9 h g
 rw [e];rfl
def BSe9:CF:=fun args K=>∃(ly:LayT) (t q:TabT) (me:Int) (l:List NearT) (fr:Int),args= [layA ly,tabA t, .d (i64 me), .d (.sl 31 (rowsN l)), .d (i64 fr)]∧(TabMx t∧TabOk t∧l.length≤9223372036854775807∧(∀x∈l,AAo9 x)∧q=AEj9 ly t me l fr)∧K (tabA q)
theorem BJf9:COk 17 BSe9:=by
 rintro _ K ⟨ly,t,_,me,l,fr,rfl,⟨h1,h2,h3,h4,rfl⟩,hk⟩;refine ⟨_, ?_,hk⟩;refine pcV @wlHR CKt9 CBt9 func17 fun Ev bb=> ?_;rw [BNw9];refine ⟨ly,t,me,l,fr,_,rfl,⟨h1,h3,rfl⟩,Zax (fun c1=> ?_) fun c1=> ?_⟩
 ·rw [Zcb] at c1;rw [AEj9,if_neg (by rw [c1];decide)];exact .rfl
 ·rw [Zcx] at c1;have he:(ABv9 t fr).gs.length≤t.gs.length:=Zcd _ _;refine ⟨t,fr,ABv9 t fr,rfl,⟨h2,rfl⟩,ly,t,ABv9 t fr,me,fr,l,_,rfl,rfl, .cons (.refl _) (.cons (.refl _) (.cons (.refl _) (.cons (.refl _) (.cons (.cons .rfl (.cons (Zfj rfl) (.cons .rfl .nil))) .nil)))),⟨h3,h4,by have:=h2.2.1;omega,rfl⟩,fun i=> ?_⟩;refine ⟨ly,t,ABv9 t fr,⟨(ABv9 t fr).us,(ABv9 t fr).gs.map (fun g=>ABs9 ly g me l fr),(ABv9 t fr).ak⟩,_,me,fr,l,rfl,rfl, .cons (.refl _) (.cons (.refl _) (.cons (.refl _) (.cons (.refl _) (.cons (.cons .rfl (.cons LeA.view (.cons .rfl .nil))) .nil)))),⟨h3,h4,⟨h2.1,by simp only [List.length_map];have:=h2.2.1;omega,h2.2.2⟩,rfl⟩,fun j=> ?_⟩;rw [BNx9 c1];exact .rfl
def TL3:CT:= [(10,cHead),(11,CGb9),(12,cAsk),(13,CGg9),(14,cTake),(15,cSame),(16,cAskR),(17,BSe9),(18,CGa9)]
theorem CKj9:AAb9 prog TL3:=Zag BYq9 (Zag BPj9 (Zag BSv9 (Zag AYk9 (Zag BIb9 (Zag BIg9 (Zag BYw9 (Zag BJf9 (Zag BPi9 Zai))))))))
theorem CEr9 (ly:LayT) (t:TabT) (me:Int) (l:List NearT) (pe many fr:Int):wpFn prog ⟨TL3, [],wl,y,false⟩ 100 Tryz.f3 [layA ly,tabA t, .d (i64 me), .d (.sl 31 (rowsN l)), .d (i64 pe), .d (i64 many), .d (i64 fr)] b R=(([]:List AV)= []∧∃(t0:TabT) (l1:List NearT) (q2:Bool), [Zan (Qz1 t),Zad (Zaj 31 (rowsN l))]= [Zan (Qz1 t0),Zad (Zaj 31 (rowsN l1))]∧q2=AUn9 t0 l1∧BIf (!q2) (R (.d (bo true)) b) (∃(ly3:LayT) (t4:TabT) (q5:TabT) (me6:Int) (l7:List NearT) (pe8:Int) (many9:Int) (fr10:Int), [Zan (Qz3 ly),Zan (Qz1 t),Zad (i64 me),Zad (Zaj 31 (rowsN l)),Zad (i64 pe),Zad (i64 many),Zad (i64 fr)]= [Zan (Qz3 ly3),Zan (Qz1 t4),Zad (i64 me6),Zad (Zaj 31 (rowsN l7)),Zad (i64 pe8),Zad (i64 many9),Zad (i64 fr10)]∧(TabOk t4∧Zaa l7<1000000∧(∀(x:NearT),x∈l7→ANb9 x)∧q5=askS ly3 t4 me6 l7 pe8 many9 fr10)∧∃(ly11:LayT) (t12:TabT) (q13:TabT) (me14:Int) (l15:List NearT) (fr16:Int),(Qz8 ly t me l fr)=(Qz8 ly11 t12 me14 l15 fr16)∧(TabOk t12∧Zaa l15<1000000∧(∀(x:NearT),x∈l15→ACi9 x)∧q13=AEj9 ly11 t12 me14 l15 fr16)∧∃(ly17:LayT) (t18:TabT) (q19:TabT) (me20:Int) (l21:List NearT) (fr22:Int),(Qz8 ly t me l fr)=(Qz8 ly17 t18 me20 l21 fr22)∧(TabOk t18∧Zaa l21<1000000∧(∀(x:NearT),x∈l21→ACi9 x)∧q19=takeS ly17 t18 me20 l21 fr22)∧∃(ly23:LayT) (t24:TabT) (q25:TabT) (me26:Int) (l27:List NearT) (pe28:Int) (many29:Int) (fr30:Int), [Zan (Qz3 ly),Zan (Qz1 t),Zad (i64 me),Zad (Zaj 31 (rowsN l)),Zad (i64 pe),Zad (i64 many),Zad (i64 fr)]= [Zan (Qz3 ly23),Zan (Qz1 t24),Zad (i64 me26),Zad (Zaj 31 (rowsN l27)),Zad (i64 pe28),Zad (i64 many29),Zad (i64 fr30)]∧(TabMx t24∧Zaa l27≤9223372036854775807∧(∀(x:NearT),x∈l27→AAo9 x)∧q25=askS ly23 t24 me26 l27 pe28 many29 fr30)∧∃(t31:TabT) (s32:TabT) (q33:Bool), [Zan (Qz1 q5),Zan (Qz1 q25)]= [Zan (Qz1 t31),Zan (Qz1 s32)]∧(TabLt t31∧q33=sameS t31 s32)∧BIf q33 (∃(ly34:LayT) (t35:TabT) (q36:TabT) (me37:Int) (l38:List NearT) (fr39:Int),(Qz8 ly t me l fr)=(Qz8 ly34 t35 me37 l38 fr39)∧(TabMx t35∧TabOk t35∧Zaa l38≤9223372036854775807∧(∀(x:NearT),x∈l38→AAo9 x)∧q36=AEj9 ly34 t35 me37 l38 fr39)∧∃(t40:TabT) (s41:TabT) (q42:Bool), [Zan (Qz1 q13),Zan (Qz1 q36)]= [Zan (Qz1 t40),Zan (Qz1 s41)]∧(TabLt t40∧q42=sameS t40 s41)∧BIf q42 (∃(ly43:LayT) (t44:TabT) (q45:TabT) (me46:Int) (l47:List NearT) (fr48:Int),(Qz8 ly t me l fr)=(Qz8 ly43 t44 me46 l47 fr48)∧(TabMx t44∧TabOk t44∧Zaa l47≤9223372036854775807∧(∀(x:NearT),x∈l47→AAo9 x)∧q45=takeS ly43 t44 me46 l47 fr48)∧∃(t49:TabT) (s50:TabT) (q51:Bool), [Zan (Qz1 q19),Zan (Qz1 q45)]= [Zan (Qz1 t49),Zan (Qz1 s50)]∧(TabLt t49∧q51=sameS t49 s50)∧R (.d (bo q51)) b) (R (.d (bo false)) b)) (R (.d (bo false)) b))):=by kernel_rfl
theorem CGs9 {ly:LayT} {t:TabT} {me:Int} {l:List NearT} {pe many fr:Int} (ht:TabOk t):TabLq (askS ly t me l pe many fr):=by
 by_cases h:newS ly t me l fr=true
 ·have:=(BKl9 (pe:=pe) (many:=many) h).2.1;exact ⟨by omega,by omega,by omega⟩
 ·have e:newS ly t me l fr=false:=by simpa using h
  rw [askS,e,Zdb,if_neg (by decide)];exact ⟨by have:=ht.1;omega,by have:=ht.2.1;omega,by have:=ht.2.2;omega⟩
theorem BNv9 {ly:LayT} {t:TabT} {me:Int} {l:List NearT} {fr:Int} (ht:TabOk t):TabLq (AEj9 ly t me l fr):=by
 by_cases h:newS ly t me l fr=true
 ·have:=(AUz9 h).2.1;exact ⟨by omega,by omega,by omega⟩
 ·rw [AEj9,if_neg h];exact ⟨by have:=ht.1;omega,by have:=ht.2.1;omega,by have:=ht.2.2;omega⟩
theorem BVa9 {ly:LayT} {t:TabT} {me:Int} {l:List NearT} {fr:Int} (ht:TabOk t):TabLq (takeS ly t me l fr):=by
 by_cases h:newS ly t me l fr=true
 ·have:=(AZo9 h).2.1;exact ⟨by omega,by omega,by omega⟩
 ·rw [takeS,if_neg h];exact ⟨by have:=ht.1;omega,by have:=ht.2.1;omega,by have:=ht.2.2;omega⟩
theorem CIw9 (ly:LayT) (t:TabT) (me:Int) (l:List NearT) (pe many fr:Int) (ht:TabMx t) (hl:l.length≤9223372036854775807):
 PCall prog 3 [layA ly,tabA t, .d (i64 me), .d (.sl 31 (rowsN l)), .d (i64 pe), .d (i64 many), .d (i64 fr)] (.d (bo true)):=by
 refine pcO CKj9 func3 fun Ev bb=> ?_;rw [CEr9];refine ⟨rfl,t,l,_,rfl,rfl,Zax (fun _=>rfl) fun c1=> ?_⟩;have d1:AUn9 t l=true:=by simpa using c1
 obtain ⟨s1,s2,s3,s4⟩:=BVg9 d1;have hN:∀x∈l,AAo9 x:=fun x hx=>by obtain ⟨g1,g2,g3⟩:=s4 x hx;exact ⟨by omega,by omega,by omega⟩
 refine ⟨ly,t,askS ly t me l pe many fr,me,l,pe,many,fr,rfl,⟨s1,s2,s3,rfl⟩,ly,t,AEj9 ly t me l fr,me,l,fr,rfl,⟨s1,s2,s4,rfl⟩,ly,t,takeS ly t me l fr,me,l,fr,rfl,⟨s1,s2,s4,rfl⟩, ?_⟩;refine ⟨ly,t,askS ly t me l pe many fr,me,l,pe,many,fr,rfl,⟨ht,hl,hN,rfl⟩,askS ly t me l pe many fr,askS ly t me l pe many fr,true,rfl,⟨CGs9 s1,(AEw9 _).symm⟩,Zas rfl ?_⟩;refine ⟨ly,t,AEj9 ly t me l fr,me,l,fr,rfl,⟨ht,s1,hl,hN,rfl⟩,AEj9 ly t me l fr,AEj9 ly t me l fr,true,rfl,⟨BNv9 s1,(AEw9 _).symm⟩,Zas rfl ?_⟩;exact ⟨ly,t,takeS ly t me l fr,me,l,fr,rfl,⟨ht,s1,hl,hN,rfl⟩,takeS ly t me l fr,takeS ly t me l fr,true,rfl,⟨BVa9 s1,(AEw9 _).symm⟩,rfl⟩
end Go.Proofs.YthcbbmnjikhihaaGreat.Am