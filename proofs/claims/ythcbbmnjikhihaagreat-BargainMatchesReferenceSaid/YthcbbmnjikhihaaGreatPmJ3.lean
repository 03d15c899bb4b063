import Derived.Test.YthcbbmnjikhihaaGreatPmJ2
set_option linter.unusedSimpArgs false
set_option linter.unusedVariables false
namespace Go.Proofs.YthcbbmnjikhihaaGreat.Am
open Go Go.RowKit Go.Proofs Tryz
open AV renaming agg → Zan, bad → Zab, d → Zad, fn → Zav, own → Zcc, ptr → Zae, rptr → Zah
open AskT renaming sl → Zde
open BIf renaming f → Zci, of → Zax, t → Zas
open Bool renaming and_eq_true → Zal, false_and → Zdb, or_true → Zdf, true_and → Zec, true_or → Zdi
open AAb9 renaming cons → Zag, nil → Zai
open Go.Code renaming loop → Zaq
open Dv renaming pt → Zdo, s → Zdk, sl → Zaj
open Env renaming mapped → Zfz
open Go.Exit renaming exit → Zba
open GraT renaming sl → Zds, un → Zel
open Int renaming toNat → Zak
open Go.IntKind renaming i64 → Zbb, wrap → Zac
open LayT renaming da → Zbr, no → Zeg
open LeA renaming nilOwn → Zfj
open LeH renaming refl → Zbg
open List renaming all_eq_true → Zbk, any → Zcp, append_nil → Zco, filter → Zcf, findIdx?_eq_none_iff → Zes, findIdx?_eq_some_iff_getElem → Zfn, flatMap_singleton' → Zeq, getElem?_eq_some_iff → Zaf, length → Zaa, length_cons → Zfr, map_cons → Zdy, mem_of_getElem? → Zbj, replicate → Zam
open Nat renaming le_refl → Zat
open NearT renaming ak → Zdw, fm → Zcy, fr → Zey, gs → Zce, us → Zcl
open AAl9 renaming nil → Zar
open TabT renaming ak → Zck, gs → Zbx, us → Zbv
open UseT renaming of → Zfs, sl → Zdl
open Go.Value renaming map → Zbo, pointer → Zbz, slice → Zdj
open WR renaming ofMask → Zdr, scanL → Zfi
variable {β:Type} (wl:WLT β) (y:ADo9 β) (b:β) (R:AV→β→Prop) (Kr:AV→List Blk→β→Prop) (K:Exit→List AV→List Blk→β→Prop) (Kh:Exit→List Blk→β→Prop) (Q:β→Prop)
open AV (bad)
set_option linter.unusedVariables false
set_option maxRecDepth 20000
set_option maxHeartbeats 1000000
variable {Ev:Env prog} {b0:Ev.β} {Q:Exit→St Ev.β→Prop}
def nearA (n:NearT):AV:= .agg [.d (i64 n.fr), .d (i64 n.fm), .d (i64 n.x2), .d (i64 n.x3), .d (i64 n.x4), .d (i64 n.x5), .d (i64 n.x6), .d (i64 n.x7), .d (i64 n.x8), .d (i64 n.x9), .d (i64 n.x10), .d (i64 n.x11), .d (.sl 4 (rowsU n.us)), .d (.sl 5 (rowsG n.gs)), .d (.sl 3 (rowsA n.ak)), .d (.sl 4 n.s15), .d (bo n.b16), .d (.sl 8 n.s17), .d (.sl 8 n.s18), .d (.sl 1 n.s19), .d (i64 n.x20), .d (i64 n.x21), .d (u64 n.x22), .d (i64 n.x23), .d (i64 n.x24), .d (i64 n.x25), .d (i64 n.x26), .d (i64 n.x27), .d (.sl 1 n.s28), .d (.sl 1 n.s29), .d (bo n.b30)]
def nearB (n:NearT):Blk:=⟨[.d (i64 n.fr), .d (i64 n.fm), .d (i64 n.x2), .d (i64 n.x3), .d (i64 n.x4), .d (i64 n.x5), .d (i64 n.x6), .d (i64 n.x7), .d (i64 n.x8), .d (i64 n.x9), .d (i64 n.x10), .d (i64 n.x11), .d (.sl 4 (rowsU n.us)), .d (.sl 5 (rowsG n.gs)), .d (.sl 3 (rowsA n.ak)), .d (.sl 4 n.s15), .d (bo n.b16), .d (.sl 8 n.s17), .d (.sl 8 n.s18), .d (.sl 1 n.s19), .d (i64 n.x20), .d (i64 n.x21), .d (u64 n.x22), .d (i64 n.x23), .d (i64 n.x24), .d (i64 n.x25), .d (i64 n.x26), .d (i64 n.x27), .d (.sl 1 n.s28), .d (.sl 1 n.s29), .d (bo n.b30)],false,false,0⟩
theorem ABe9 (l:List NearT):(rowsN l).length=l.length:=by simp [rowsN]
theorem AAr9 {l:List NearT} {i:Nat} {x:NearT} (h:l[i]? =some x):(rowsN l)[Zak ((i:Nat):Int)]? =some (nearR x):=by simp [rowsN,h]
def layB (l:LayT):Blk:=⟨[.d (i64 l.no), .d (i64 l.da)],false,false,0⟩
def cellB (sl of:Int):Blk:=⟨[.d (i64 sl), .d (i64 of)],false,false,0⟩
def TV12:CT:= [(71,ATb9),(72,ATf9),(62,AYs9)]
theorem AGw9:AAb9 prog TV12:=Zag AXt9 (Zag AYl9 (Zag AMx9 Zai))
noncomputable def ASk9:Code:=sub [1,0,1,2,3] (code f22)
def AIm9 (t:TabT) (s:Int) (z:Bool) (i:Int):List AV:= [.bad, .d (i64 s), .ptr 0 0, .bad, .d (bo z), .d (i64 i)]++Zam 33 .bad
abbrev Qz1 (v0:TabT):List AV:= [Zad (Zaj 4 (rowsU (Zbv v0))),Zad (Zaj 5 (rowsG (Zbx v0))),Zad (Zaj 3 (rowsA (Zck v0)))]
def bds:Nat→List AV→List AV|0,l=>l|n+1,l=>Zab::bds n l
theorem CDt9 (t:TabT) (s:Int) (i:Int):wpc prog ⟨[], [],wl,y,false⟩ 100 ASk9 (AIm9 t s false i) [tabB t] b (maskK 1 [1,2,4,5] K)=(BIf (decide (i<((Zaa (rowsU (Zbv t)):Nat):Int))) (BIf (true&&decide (0≤i)) (∃(x0:Int) (x1:Int) (x2:Int) (x3:Int),(rowsU (Zbv t))[Zak i]? =some [i64 x0,i64 x1,i64 x2,i64 x3]∧BIf (x0==s) (K .ret (Zab::Zad (i64 s)::Zae 0 0::Zab::Zad (bo true)::Zad (i64 i)::bds 33 []) [bk (Qz1 t)] b) (K .normal (Zab::Zad (i64 s)::Zae 0 0::Zab::Zad (bo false)::Zad (i64 (Zac .i64 (i+1)))::bds 33 []) [bk (Qz1 t)] b)) False) (K (Zba 0) (Zab::Zad (i64 s)::Zae 0 0::Zab::Zad (bo false)::Zad (i64 i)::bds 33 []) [bk (Qz1 t)] b)):=by kernel_rfl
theorem CAs9 (t:TabT) (s:Int) (hl:(t.us).length≤9223372036854775807) (h1:(t.us).any (fun x:UseT=>x.sl==s)=false→∀i:Int,Q (.exit 0) ⟨AIm9 t s false i, [tabB t],b0⟩) (h2:(t.us).any (fun x:UseT=>x.sl==s)=true→∀i:Int,Q .ret ⟨AIm9 t s true i, [tabB t],b0⟩):
 WR Ev ASk9 ((t.us).length+1) ⟨AIm9 t s false (0:Nat), [tabB t],b0⟩ Q:=by
 refine Zfi (X:=⟨[], [],wlW Ev,Ev.Y,false⟩) (k:=100) [1,2,4,5] mixed (CX.Ok.of Zai Zar) (t.us) (fun x:UseT=>x.sl==s) (fun i=>AIm9 t s false (i:Nat)) (fun i=>AIm9 t s true (i:Nat)) [tabB t] 0 (fun i x hi hx K k1 k2=> ?_) (fun K k1=> ?_) (fun h=>h1 h _) fun h i=>h2 h _
 ·refine Eq.mpr (CDt9 _ _ _ K t s i) ?_;rw [AAe9,ABl9 hx];refine Zas (by simp;omega) (Zas (natI i) ⟨_,_,_,_,rfl, ?_⟩);repeat' (refine Zax (fun _=> ?_) fun _=> ?_)
  all_goals first|exact k1 (by simp [*])|(rw [wrapN (by omega)];exact k2 (by simp [*]))
 ·refine Eq.mpr (CDt9 _ _ _ K t s _) ?_;rw [AAe9];exact Zci (by simp) k1
noncomputable def ASj9:Code:=sub [1,1,0,1,2,3] (code f22)
def AIl9 (t:TabT) (s:Int) (z:Bool) (i:Int):List AV:= [.bad, .d (i64 s), .ptr 0 0, .bad, .d (bo z), .bad, .d (i64 i)]++Zam 32 .bad
abbrev Qz27 (v0:Int) (v1:Int) (v2:Int) (v3:Int) (v4:Int):= [i64 v0,i64 v1,i64 v2,i64 v3,i64 v4]
theorem CDs9 (t:TabT) (s:Int) (i:Int):wpc prog ⟨[], [],wl,y,false⟩ 100 ASj9 (AIl9 t s false i) [tabB t] b (maskK 1 [1,2,4,6] K)=(BIf (decide (i<((Zaa (rowsG (Zbx t)):Nat):Int))) (BIf (true&&decide (0≤i)) (∃(x0:Int) (x1:Int) (x2:Int) (x3:Int) (x4:Int),(rowsG (Zbx t))[Zak i]? =some (Qz27 x0 x1 x2 x3 x4)∧BIf (x0==s) (K .ret (Zab::Zad (i64 s)::Zae 0 0::Zab::Zad (bo true)::Zab::Zad (i64 i)::bds 32 []) [bk (Qz1 t)] b) (K .normal (Zab::Zad (i64 s)::Zae 0 0::Zab::Zad (bo false)::Zab::Zad (i64 (Zac .i64 (i+1)))::bds 32 []) [bk (Qz1 t)] b)) False) (K (Zba 2) (Zab::Zad (i64 s)::Zae 0 0::Zab::Zad (bo false)::Zab::Zad (i64 i)::bds 32 []) [bk (Qz1 t)] b)):=by kernel_rfl
theorem CAr9 (t:TabT) (s:Int) (hl:(t.gs).length≤9223372036854775807) (h1:(t.gs).any (fun x:GraT=>x.sl==s)=false→∀i:Int,Q (.exit 2) ⟨AIl9 t s false i, [tabB t],b0⟩) (h2:(t.gs).any (fun x:GraT=>x.sl==s)=true→∀i:Int,Q .ret ⟨AIl9 t s true i, [tabB t],b0⟩):
 WR Ev ASj9 ((t.gs).length+1) ⟨AIl9 t s false (0:Nat), [tabB t],b0⟩ Q:=by
 refine Zfi (X:=⟨[], [],wlW Ev,Ev.Y,false⟩) (k:=100) [1,2,4,6] mixed (CX.Ok.of Zai Zar) (t.gs) (fun x:GraT=>x.sl==s) (fun i=>AIl9 t s false (i:Nat)) (fun i=>AIl9 t s true (i:Nat)) [tabB t] 2 (fun i x hi hx K k1 k2=> ?_) (fun K k1=> ?_) (fun h=>h1 h _) fun h i=>h2 h _
 ·refine Eq.mpr (CDs9 _ _ _ K t s i) ?_;rw [AAd9,ABb9 hx];refine Zas (by simp;omega) (Zas (natI i) ⟨_,_,_,_,_,rfl, ?_⟩);repeat' (refine Zax (fun _=> ?_) fun _=> ?_)
  all_goals first|exact k1 (by simp [*])|(rw [wrapN (by omega)];exact k2 (by simp [*]))
 ·refine Eq.mpr (CDs9 _ _ _ K t s _) ?_;rw [AAd9];exact Zci (by simp) k1
def BLy9 {β:Type}:WLT β:=fun cd tm hp b K=>match cidO cd with
 |3=>∃(t:TabT) (s:Int) (q:Bool),cd= .loop ASk9∧AAn9 [1,2,4,5] 0 tm=AIm9 t s false 0∧hp= [tabB t]∧((t.us).length≤9223372036854775807∧q=(t.us).any (fun x:UseT=>x.sl==s))∧BIf q (∀i:Int,K .ret (AIm9 t s true i) [tabB t] b) (∀i:Int,K (.exit 0) (AIm9 t s false i) [tabB t] b)
 |8=>∃(t:TabT) (s:Int) (q:Bool),cd= .loop ASj9∧AAn9 [1,2,4,6] 0 tm=AIl9 t s false 0∧hp= [tabB t]∧((t.gs).length≤9223372036854775807∧q=(t.gs).any (fun x:GraT=>x.sl==s))∧BIf q (∀i:Int,K .ret (AIl9 t s true i) [tabB t] b) (∀i:Int,K (.exit 2) (AIl9 t s false i) [tabB t] b)
 |_=>False
theorem BLx9:WlOk Ev BLy9:=by
 intro c tm hp b K h;unfold BLy9 at h;split at h
 ·obtain ⟨t,s,q,rfl,htm,rfl,⟨hl,hz⟩,hK⟩:=h;refine W.cast (htm▸AAc9 _ tm 0) (Zbg _) ?_;exact W.rounds (CAs9 (Q:=fun e s=>K e s.tm s.hp s.b) t s hl (fun h=>by rw [hz,h] at hK;exact hK) fun h=>by rw [hz,h] at hK;exact hK)
 ·obtain ⟨t,s,q,rfl,htm,rfl,⟨hl,hz⟩,hK⟩:=h;refine W.cast (htm▸AAc9 _ tm 0) (Zbg _) ?_;exact W.rounds (CAr9 (Q:=fun e s=>K e s.tm s.hp s.b) t s hl (fun h=>by rw [hz,h] at hK;exact hK) fun h=>by rw [hz,h] at hK;exact hK)
 ·exact h.elim
def BusyS (t:TabT) (s:Int):Bool:=(t.us).any (fun x:UseT=>x.sl==s)||(t.gs).any (fun x:GraT=>x.sl==s)
abbrev Qz82 (v0:Int):=Zab::Zad (i64 v0)::Zae 0 0::Zab::Zad (bo false)::Zab::Zad (i64 0)::bds 32 []
abbrev Qz90 (v0:Int):=Zab::Zad (i64 v0)::Zae 0 0::Zab::Zad (bo false)::Zad (i64 0)::bds 33 []
theorem CHv9 (t:TabT) (s:Int):wpFn prog ⟨[], [],BLy9,y,false⟩ 100 f22 [tabA t, .d (i64 s)] b R=(∃(t0:TabT) (s1:Int) (q2:Bool),Zaq ASk9=Zaq ASk9∧(Qz90 s)=(Qz90 s1)∧ [bk (Qz1 t)]= [bk (Qz1 t0)]∧(Zaa (Zbv t0)≤9223372036854775807∧q2=Zcp (Zbv t0) fun (x3:UseT)=>Zdl x3==s1)∧BIf q2 (∀(i:Int),R (.d (bo true)) b) (∀(i:Int),∃(t4:TabT) (s5:Int) (q6:Bool),Zaq ASj9=Zaq ASj9∧(Qz82 s1)=(Qz82 s5)∧ [bk (Qz1 t0)]= [bk (Qz1 t4)]∧(Zaa (Zbx t4)≤9223372036854775807∧q6=Zcp (Zbx t4) fun (x7:GraT)=>Zds x7==s5)∧BIf q6 (∀(i:Int),R (.d (bo true)) b) (∀(i:Int),R (.d (bo false)) b))):=by kernel_rfl
def cBusy:CF:=fun args K=>∃(t:TabT) (s:Int) (q:Bool),args= [tabA t, .d (i64 s)]∧((t.us).length≤9223372036854775807∧(t.gs).length≤9223372036854775807∧q=BusyS t s)∧K (.d (bo q))
theorem BKh9:COk 22 cBusy:=by
 rintro _ K ⟨t,s,_,rfl,⟨hl0,hl1,rfl⟩,hk⟩;refine ⟨_, ?_,hk⟩;refine pcW @BLy9 Zai BLx9 func22 fun Ev bb=> ?_;rw [CHv9];exact ⟨t,s,_,rfl,rfl,rfl,⟨hl0,rfl⟩,Zax (fun h0 i=>by rw [BusyS];simp only [h0,Zdf,Zdi,Bool.false_or]) fun h0 i=>⟨t,s,_,rfl,rfl,rfl,⟨hl1,rfl⟩,Zax (fun h1 i=>by rw [BusyS];simp only [h0,h1,Zdf,Zdi,Bool.false_or]) fun h1 i=>by rw [BusyS];simp only [h0,h1,Bool.or_false,Bool.false_or]⟩⟩
noncomputable def AMm9:Code:=sub [1,0,1,2,3] (code f58)
def AFp9 (l:List AskT) (s:Int) (z:Bool) (i:Int):List AV:= [.d (.sl 3 (rowsA l)), .d (i64 s), .bad, .bad, .d (bo z), .d (i64 i)]++Zam 14 .bad
theorem BRg9 (l:List AskT) (s:Int) (i:Int):wpc prog ⟨[], [],wl,y,false⟩ 100 AMm9 (AFp9 l s false i) [] b (maskK 0 [0,1,4,5] K)=(BIf (decide (i<((Zaa (rowsA l):Nat):Int))) (BIf (true&&decide (0≤i)) (∃(x0:Int) (x1:Int) (x2:Int),(rowsA l)[Zak i]? =some [i64 x0,i64 x1,i64 x2]∧BIf (x0==s) (K .ret (Zad (Zaj 3 (rowsA l))::Zad (i64 s)::Zab::Zab::Zad (bo true)::Zad (i64 i)::bds 14 []) [] b) (K .normal (Zad (Zaj 3 (rowsA l))::Zad (i64 s)::Zab::Zab::Zad (bo false)::Zad (i64 (Zac .i64 (i+1)))::bds 14 []) [] b)) False) (K (Zba 0) (Zad (Zaj 3 (rowsA l))::Zad (i64 s)::Zab::Zab::Zad (bo false)::Zad (i64 i)::bds 14 []) [] b)):=by kernel_rfl
theorem BUb9 (l:List AskT) (s:Int) (hl:(l).length≤9223372036854775807) (h1:(l).any (fun x:AskT=>x.sl==s)=false→∀i:Int,Q (.exit 0) ⟨AFp9 l s false i, [],b0⟩) (h2:(l).any (fun x:AskT=>x.sl==s)=true→∀i:Int,Q .ret ⟨AFp9 l s true i, [],b0⟩):
 WR Ev AMm9 ((l).length+1) ⟨AFp9 l s false (0:Nat), [],b0⟩ Q:=by
 refine Zfi (X:=⟨[], [],wlW Ev,Ev.Y,false⟩) (k:=100) [0,1,4,5] mixed (CX.Ok.of Zai Zar) (l) (fun x:AskT=>x.sl==s) (fun i=>AFp9 l s false (i:Nat)) (fun i=>AFp9 l s true (i:Nat)) [] 0 (fun i x hi hx K k1 k2=> ?_) (fun K k1=> ?_) (fun h=>h1 h _) fun h i=>h2 h _
 ·refine Eq.mpr (BRg9 _ _ _ K l s i) ?_;rw [AAi9,ABd9 hx];refine Zas (by simp;omega) (Zas (natI i) ⟨_,_,_,rfl, ?_⟩);repeat' (refine Zax (fun _=> ?_) fun _=> ?_)
  all_goals first|exact k1 (by simp [*])|(rw [wrapN (by omega)];exact k2 (by simp [*]))
 ·refine Eq.mpr (BRg9 _ _ _ K l s _) ?_;rw [AAi9];exact Zci (by simp) k1
def AWj9 {β:Type}:WLT β:=fun cd tm hp b K=>match cidO cd with
 |3=>∃(l:List AskT) (s:Int) (q:Bool),cd= .loop AMm9∧AAn9 [0,1,4,5] 0 tm=AFp9 l s false 0∧hp= []∧((l).length≤9223372036854775807∧q=(l).any (fun x:AskT=>x.sl==s))∧BIf q (∀i:Int,K .ret (AFp9 l s true i) [] b) (∀i:Int,K (.exit 0) (AFp9 l s false i) [] b)
 |_=>False
theorem BDv9:WlOk Ev AWj9:=by
 intro c tm hp b K h;unfold AWj9 at h;split at h
 ·obtain ⟨l,s,q,rfl,htm,rfl,⟨hl,hz⟩,hK⟩:=h;refine W.cast (htm▸AAc9 _ tm 0) (Zbg _) ?_;exact W.rounds (BUb9 (Q:=fun e s=>K e s.tm s.hp s.b) l s hl (fun h=>by rw [hz,h] at hK;exact hK) fun h=>by rw [hz,h] at hK;exact hK)
 ·exact h.elim
def AWf9 (l:List AskT) (s:Int):Bool:=(l).any (fun x:AskT=>x.sl==s)
abbrev Qz97 (v0:List AskT) (v1:Int):=Zad (Zaj 3 (rowsA v0))::Zad (i64 v1)::Zab::Zab::Zad (bo false)::Zad (i64 0)::bds 14 []
theorem CAb9 (l:List AskT) (s:Int):wpFn prog ⟨[], [],AWj9,y,false⟩ 100 f58 [.d (.sl 3 (rowsA l)), .d (i64 s)] b R=(∃(l0:List AskT) (s1:Int) (q2:Bool),Zaq AMm9=Zaq AMm9∧(Qz97 l s)=(Qz97 l0 s1)∧([]:List Blk)= []∧(Zaa l0≤9223372036854775807∧q2=Zcp l0 fun (x3:AskT)=>Zde x3==s1)∧BIf q2 (∀(i:Int),R (.d (bo true)) b) (∀(i:Int),R (.d (bo false)) b)):=by kernel_rfl
def CGm9:CF:=fun args K=>∃(l:List AskT) (s:Int) (q:Bool),args= [.d (.sl 3 (rowsA l)), .d (i64 s)]∧((l).length≤9223372036854775807∧q=AWf9 l s)∧K (.d (bo q))
theorem BPx9:COk 58 CGm9:=by
 rintro _ K ⟨l,s,_,rfl,⟨hl0,rfl⟩,hk⟩;refine ⟨_, ?_,hk⟩;refine pcW @AWj9 Zai BDv9 func58 fun Ev bb=> ?_;rw [CAb9];exact ⟨l,s,_,rfl,rfl,rfl,⟨hl0,rfl⟩,Zax (fun h0 i=>by rw [AWf9,h0]) fun h0 i=>by rw [AWf9,h0]⟩
noncomputable def AGn9:Code:=sub [1,0,1,2,3] (code f66)
def ACu9 (t:TabT) (s:Int) (z:Bool) (i:Int):List AV:= [.bad, .d (i64 s), .ptr 0 0, .bad, .d (bo z), .d (i64 i)]++Zam 31 .bad
theorem AWx9 (t:TabT) (s:Int) (i:Int):wpc prog ⟨[], [],wl,y,false⟩ 100 AGn9 (ACu9 t s false i) [tabB t] b (maskK 1 [1,2,4,5] K)=(BIf (decide (i<((Zaa (rowsU (Zbv t)):Nat):Int))) (BIf (true&&decide (0≤i)) (∃(x0:Int) (x1:Int) (x2:Int) (x3:Int),(rowsU (Zbv t))[Zak i]? =some [i64 x0,i64 x1,i64 x2,i64 x3]∧BIf (x2==s) (K .ret (Zab::Zad (i64 s)::Zae 0 0::Zab::Zad (bo true)::Zad (i64 i)::bds 31 []) [bk (Qz1 t)] b) (K .normal (Zab::Zad (i64 s)::Zae 0 0::Zab::Zad (bo false)::Zad (i64 (Zac .i64 (i+1)))::bds 31 []) [bk (Qz1 t)] b)) False) (K (Zba 0) (Zab::Zad (i64 s)::Zae 0 0::Zab::Zad (bo false)::Zad (i64 i)::bds 31 []) [bk (Qz1 t)] b)):=by kernel_rfl
theorem BCw9 (t:TabT) (s:Int) (hl:(t.us).length≤9223372036854775807) (h1:(t.us).any (fun x:UseT=>x.pe==s)=false→∀i:Int,Q (.exit 0) ⟨ACu9 t s false i, [tabB t],b0⟩) (h2:(t.us).any (fun x:UseT=>x.pe==s)=true→∀i:Int,Q .ret ⟨ACu9 t s true i, [tabB t],b0⟩):
 WR Ev AGn9 ((t.us).length+1) ⟨ACu9 t s false (0:Nat), [tabB t],b0⟩ Q:=by
 refine Zfi (X:=⟨[], [],wlW Ev,Ev.Y,false⟩) (k:=100) [1,2,4,5] mixed (CX.Ok.of Zai Zar) (t.us) (fun x:UseT=>x.pe==s) (fun i=>ACu9 t s false (i:Nat)) (fun i=>ACu9 t s true (i:Nat)) [tabB t] 0 (fun i x hi hx K k1 k2=> ?_) (fun K k1=> ?_) (fun h=>h1 h _) fun h i=>h2 h _
 ·refine Eq.mpr (AWx9 _ _ _ K t s i) ?_;rw [AAe9,ABl9 hx];refine Zas (by simp;omega) (Zas (natI i) ⟨_,_,_,_,rfl, ?_⟩);repeat' (refine Zax (fun _=> ?_) fun _=> ?_)
  all_goals first|exact k1 (by simp [*])|(rw [wrapN (by omega)];exact k2 (by simp [*]))
 ·refine Eq.mpr (AWx9 _ _ _ K t s _) ?_;rw [AAe9];exact Zci (by simp) k1
noncomputable def AGm9:Code:=sub [1,1,0,1,2,3] (code f66)
def ACt9 (t:TabT) (s:Int) (z:Bool) (i:Int):List AV:= [.bad, .d (i64 s), .ptr 0 0, .bad, .d (bo z), .bad, .d (i64 i)]++Zam 30 .bad
theorem AWw9 (t:TabT) (s:Int) (i:Int):wpc prog ⟨[], [],wl,y,false⟩ 100 AGm9 (ACt9 t s false i) [tabB t] b (maskK 1 [1,2,4,6] K)=(BIf (decide (i<((Zaa (rowsA (Zck t)):Nat):Int))) (BIf (true&&decide (0≤i)) (∃(x0:Int) (x1:Int) (x2:Int),(rowsA (Zck t))[Zak i]? =some [i64 x0,i64 x1,i64 x2]∧BIf (x2==s) (K .ret (Zab::Zad (i64 s)::Zae 0 0::Zab::Zad (bo true)::Zab::Zad (i64 i)::bds 30 []) [bk (Qz1 t)] b) (K .normal (Zab::Zad (i64 s)::Zae 0 0::Zab::Zad (bo false)::Zab::Zad (i64 (Zac .i64 (i+1)))::bds 30 []) [bk (Qz1 t)] b)) False) (K (Zba 2) (Zab::Zad (i64 s)::Zae 0 0::Zab::Zad (bo false)::Zab::Zad (i64 i)::bds 30 []) [bk (Qz1 t)] b)):=by kernel_rfl
theorem BCv9 (t:TabT) (s:Int) (hl:(t.ak).length≤9223372036854775807) (h1:(t.ak).any (fun x:AskT=>x.pe==s)=false→∀i:Int,Q (.exit 2) ⟨ACt9 t s false i, [tabB t],b0⟩) (h2:(t.ak).any (fun x:AskT=>x.pe==s)=true→∀i:Int,Q .ret ⟨ACt9 t s true i, [tabB t],b0⟩):
 WR Ev AGm9 ((t.ak).length+1) ⟨ACt9 t s false (0:Nat), [tabB t],b0⟩ Q:=by
 refine Zfi (X:=⟨[], [],wlW Ev,Ev.Y,false⟩) (k:=100) [1,2,4,6] mixed (CX.Ok.of Zai Zar) (t.ak) (fun x:AskT=>x.pe==s) (fun i=>ACt9 t s false (i:Nat)) (fun i=>ACt9 t s true (i:Nat)) [tabB t] 2 (fun i x hi hx K k1 k2=> ?_) (fun K k1=> ?_) (fun h=>h1 h _) fun h i=>h2 h _
 ·refine Eq.mpr (AWw9 _ _ _ K t s i) ?_;rw [AAi9,ABd9 hx];refine Zas (by simp;omega) (Zas (natI i) ⟨_,_,_,rfl, ?_⟩);repeat' (refine Zax (fun _=> ?_) fun _=> ?_)
  all_goals first|exact k1 (by simp [*])|(rw [wrapN (by omega)];exact k2 (by simp [*]))
 ·refine Eq.mpr (AWw9 _ _ _ K t s _) ?_;rw [AAi9];exact Zci (by simp) k1
def AKu9 {β:Type}:WLT β:=fun cd tm hp b K=>match cidO cd with
 |3=>∃(t:TabT) (s:Int) (q:Bool),cd= .loop AGn9∧AAn9 [1,2,4,5] 0 tm=ACu9 t s false 0∧hp= [tabB t]∧((t.us).length≤9223372036854775807∧q=(t.us).any (fun x:UseT=>x.pe==s))∧BIf q (∀i:Int,K .ret (ACu9 t s true i) [tabB t] b) (∀i:Int,K (.exit 0) (ACu9 t s false i) [tabB t] b)
 |8=>∃(t:TabT) (s:Int) (q:Bool),cd= .loop AGm9∧AAn9 [1,2,4,6] 0 tm=ACt9 t s false 0∧hp= [tabB t]∧((t.ak).length≤9223372036854775807∧q=(t.ak).any (fun x:AskT=>x.pe==s))∧BIf q (∀i:Int,K .ret (ACt9 t s true i) [tabB t] b) (∀i:Int,K (.exit 2) (ACt9 t s false i) [tabB t] b)
 |_=>False
theorem AUc9:WlOk Ev AKu9:=by
 intro c tm hp b K h;unfold AKu9 at h;split at h
 ·obtain ⟨t,s,q,rfl,htm,rfl,⟨hl,hz⟩,hK⟩:=h;refine W.cast (htm▸AAc9 _ tm 0) (Zbg _) ?_;exact W.rounds (BCw9 (Q:=fun e s=>K e s.tm s.hp s.b) t s hl (fun h=>by rw [hz,h] at hK;exact hK) fun h=>by rw [hz,h] at hK;exact hK)
 ·obtain ⟨t,s,q,rfl,htm,rfl,⟨hl,hz⟩,hK⟩:=h;refine W.cast (htm▸AAc9 _ tm 0) (Zbg _) ?_;exact W.rounds (BCv9 (Q:=fun e s=>K e s.tm s.hp s.b) t s hl (fun h=>by rw [hz,h] at hK;exact hK) fun h=>by rw [hz,h] at hK;exact hK)
 ·exact h.elim
def AGa9 (t:TabT) (s:Int):Bool:=(t.us).any (fun x:UseT=>x.pe==s)||(t.ak).any (fun x:AskT=>x.pe==s)
abbrev Qz83 (v0:Int):=Zab::Zad (i64 v0)::Zae 0 0::Zab::Zad (bo false)::Zab::Zad (i64 0)::bds 30 []
abbrev Qz91 (v0:Int):=Zab::Zad (i64 v0)::Zae 0 0::Zab::Zad (bo false)::Zad (i64 0)::bds 31 []
theorem BLl9 (t:TabT) (s:Int):wpFn prog ⟨[], [],AKu9,y,false⟩ 100 f66 [tabA t, .d (i64 s)] b R=(∃(t0:TabT) (s1:Int) (q2:Bool),Zaq AGn9=Zaq AGn9∧(Qz91 s)=(Qz91 s1)∧ [bk (Qz1 t)]= [bk (Qz1 t0)]∧(Zaa (Zbv t0)≤9223372036854775807∧q2=Zcp (Zbv t0) fun (x3:UseT)=>UseT.pe x3==s1)∧BIf q2 (∀(i:Int),R (.d (bo true)) b) (∀(i:Int),∃(t4:TabT) (s5:Int) (q6:Bool),Zaq AGm9=Zaq AGm9∧(Qz83 s1)=(Qz83 s5)∧ [bk (Qz1 t0)]= [bk (Qz1 t4)]∧(Zaa (Zck t4)≤9223372036854775807∧q6=Zcp (Zck t4) fun (x7:AskT)=>AskT.pe x7==s5)∧BIf q6 (∀(i:Int),R (.d (bo true)) b) (∀(i:Int),R (.d (bo false)) b))):=by kernel_rfl
def BIk9:CF:=fun args K=>∃(t:TabT) (s:Int) (q:Bool),args= [tabA t, .d (i64 s)]∧((t.us).length≤9223372036854775807∧(t.ak).length≤9223372036854775807∧q=AGa9 t s)∧K (.d (bo q))
theorem BBi9:COk 66 BIk9:=by
 rintro _ K ⟨t,s,_,rfl,⟨hl0,hl1,rfl⟩,hk⟩;refine ⟨_, ?_,hk⟩;refine pcW @AKu9 Zai AUc9 func66 fun Ev bb=> ?_;rw [BLl9];exact ⟨t,s,_,rfl,rfl,rfl,⟨hl0,rfl⟩,Zax (fun h0 i=>by rw [AGa9];simp only [h0,Zdf,Zdi,Bool.false_or]) fun h0 i=>⟨t,s,_,rfl,rfl,rfl,⟨hl1,rfl⟩,Zax (fun h1 i=>by rw [AGa9];simp only [h0,h1,Zdf,Zdi,Bool.false_or]) fun h1 i=>by rw [AGa9];simp only [h0,h1,Bool.or_false,Bool.false_or]⟩⟩
noncomputable def ARx9:Code:=sub [1,0,1,2,3] (code f25)
def AId9 (l:LayT) (n:NearT) (sl:Int) (of:Int) (pe:Int) (z:Bool) (i:Int):List AV:= [.bad, .bad, .bad, .d (i64 pe), .ptr 0 0, .ptr 1 0, .ptr 2 0, .bad, .d (bo z), .d (i64 i)]++Zam 36 .bad
abbrev Qz6 (v0:UseT):List AV:= [Zad (i64 (Zdl v0)),Zad (i64 (Zfs v0)),Zad (i64 (UseT.pe v0)),Zad (i64 (UseT.st v0))]
abbrev Qz26 (v0:LayT) (v1:NearT) (v2:Int) (v3:Int):= [bk (Qz3 v0),nearB v1,bk [Zad (i64 v2),Zad (i64 v3)]]
abbrev Qz30 (v0:Int) (v1:Int) (v2:Int) (v3:Int):List AV:= [Zad (i64 v0),Zad (i64 v1),Zad (i64 v2),Zad (i64 v3)]
abbrev Qz85 (v0:Int) (v1:Int):List AV:=bds 3 (Zad (i64 v0)::Zae 0 0::Zae 1 0::Zae 2 0::Zab::Zad (bo true)::Zad (i64 v1)::bds 36 [])
theorem CDg9 (l:LayT) (n:NearT) (sl:Int) (of:Int) (pe:Int) (i:Int):wpc prog ⟨TV12, [],wl,y,false⟩ 100 ARx9 (AId9 l n sl of pe false i) [layB l,nearB n,cellB sl of] b (maskK 3 [3,4,5,6,8,9] K)=(BIf (decide (i<((Zaa (rowsU (Zcl n)):Nat):Int))) (BIf (true&&decide (0≤i)) (∃(x0:Int) (x1:Int) (x2:Int) (x3:Int),(rowsU (Zcl n))[Zak i]? =some [i64 x0,i64 x1,i64 x2,i64 x3]∧∃(u6:UseT) (l7:LayT) (z8:Bool), [Zan (Qz30 x0 x1 x2 x3),Zan (Qz3 l)]= [Zan (Qz6 u6),Zan (Qz3 l7)]∧z8=useOk u6 l7∧BIf z8 (BIf (x0==sl&&(x1==of&&true)) (BIf (decide (pe<(0:Int))) (K .ret (Qz85 pe i) (Qz26 l n sl of) b) (BIf (x2==pe) (K .ret (Qz85 pe i) (Qz26 l n sl of) b) (K .normal (bds 3 (Zad (i64 pe)::Zae 0 0::Zae 1 0::Zae 2 0::Zab::Zad (bo false)::Zad (i64 (Zac .i64 (i+1)))::bds 36 [])) (Qz26 l n sl of) b))) (K .normal (bds 3 (Zad (i64 pe)::Zae 0 0::Zae 1 0::Zae 2 0::Zab::Zad (bo false)::Zad (i64 (Zac .i64 (i+1)))::bds 36 [])) (Qz26 l n sl of) b)) (K .normal (bds 3 (Zad (i64 pe)::Zae 0 0::Zae 1 0::Zae 2 0::Zab::Zad (bo false)::Zad (i64 (Zac .i64 (i+1)))::bds 36 [])) (Qz26 l n sl of) b)) False) (K (Zba 0) (bds 3 (Zad (i64 pe)::Zae 0 0::Zae 1 0::Zae 2 0::Zab::Zad (bo false)::Zad (i64 i)::bds 36 [])) (Qz26 l n sl of) b)):=by kernel_rfl
theorem CAf9 (l:LayT) (n:NearT) (sl:Int) (of:Int) (pe:Int) (hl:(n.us).length≤9223372036854775807) (h1:(n.us).any (fun x:UseT=>useOk x l&&((x.sl==sl&&x.of==of)&&(decide (pe<0)||x.pe==pe)))=false→∀i:Int,Q (.exit 0) ⟨AId9 l n sl of pe false i, [layB l,nearB n,cellB sl of],b0⟩) (h2:(n.us).any (fun x:UseT=>useOk x l&&((x.sl==sl&&x.of==of)&&(decide (pe<0)||x.pe==pe)))=true→∀i:Int,Q .ret ⟨AId9 l n sl of pe true i, [layB l,nearB n,cellB sl of],b0⟩):
 WR Ev ARx9 ((n.us).length+1) ⟨AId9 l n sl of pe false (0:Nat), [layB l,nearB n,cellB sl of],b0⟩ Q:=by
 refine Zfi (X:=⟨TV12, [],wlW Ev,Ev.Y,false⟩) (k:=100) [3,4,5,6,8,9] mixed (CX.Ok.of AGw9 Zar) (n.us) (fun x:UseT=>useOk x l&&((x.sl==sl&&x.of==of)&&(decide (pe<0)||x.pe==pe))) (fun i=>AId9 l n sl of pe false (i:Nat)) (fun i=>AId9 l n sl of pe true (i:Nat)) [layB l,nearB n,cellB sl of] 0 (fun i x hi hx K k1 k2=> ?_) (fun K k1=> ?_) (fun h=>h1 h _) fun h i=>h2 h _
 ·refine Eq.mpr (CDg9 _ _ _ K l n sl of pe i) ?_;rw [AAe9,ABl9 hx];refine Zas (by simp;omega) (Zas (natI i) ⟨_,_,_,_,rfl, ?_⟩);refine ⟨x,l,_,rfl,rfl, ?_⟩;repeat' (refine Zax (fun _=> ?_) fun _=> ?_)
  all_goals first|exact k1 (by simp_all)|(rw [wrapN (by omega)];exact k2 (by simp_all))
 ·refine Eq.mpr (CDg9 _ _ _ K l n sl of pe _) ?_;rw [AAe9];exact Zci (by simp) k1
def BLq9 {β:Type}:WLT β:=fun cd tm hp b K=>match cidO cd with
 |3=>∃(l:LayT) (n:NearT) (sl:Int) (of:Int) (pe:Int) (q:Bool),cd= .loop ARx9∧AAn9 [3,4,5,6,8,9] 0 tm=AId9 l n sl of pe false 0∧hp= [layB l,nearB n,cellB sl of]∧((n.us).length≤9223372036854775807∧q=(n.us).any (fun x:UseT=>useOk x l&&((x.sl==sl&&x.of==of)&&(decide (pe<0)||x.pe==pe))))∧BIf q (∀i:Int,K .ret (AId9 l n sl of pe true i) [layB l,nearB n,cellB sl of] b) (∀i:Int,K (.exit 0) (AId9 l n sl of pe false i) [layB l,nearB n,cellB sl of] b)
 |_=>False
theorem BLp9:WlOk Ev BLq9:=by
 intro c tm hp b K h;unfold BLq9 at h;split at h
 ·obtain ⟨l,n,sl,of,pe,q,rfl,htm,rfl,⟨hl,hz⟩,hK⟩:=h;refine W.cast (htm▸AAc9 _ tm 0) (Zbg _) ?_;exact W.rounds (CAf9 (Q:=fun e s=>K e s.tm s.hp s.b) l n sl of pe hl (fun h=>by rw [hz,h] at hK;exact hK) fun h=>by rw [hz,h] at hK;exact hK)
 ·exact h.elim
def UsesS (l:LayT) (n:NearT) (sl:Int) (of:Int) (pe:Int):Bool:=(n.us).any (fun x:UseT=>useOk x l&&((x.sl==sl&&x.of==of)&&(decide (pe<0)||x.pe==pe)))
abbrev Qz75 (v0:Int):List AV:=bds 3 (Zad (i64 v0)::Zae 0 0::Zae 1 0::Zae 2 0::Zab::Zad (bo false)::Zad (i64 0)::bds 36 [])
theorem CGy9 (l:LayT) (n:NearT) (sl:Int) (of:Int) (pe:Int):wpFn prog ⟨[], [],BLq9,y,false⟩ 100 f25 [layA l,nearA n,cellA sl of, .d (i64 pe)] b R=(∃(l0:LayT) (n1:NearT) (sl2:Int) (of3:Int) (pe4:Int) (q5:Bool),Zaq ARx9=Zaq ARx9∧(Qz75 pe)=(Qz75 pe4)∧(Qz26 l n sl of)=(Qz26 l0 n1 sl2 of3)∧(Zaa (Zcl n1)≤9223372036854775807∧q5=Zcp (Zcl n1) fun (x6:UseT)=>useOk x6 l0&&(Zdl x6==sl2&&Zfs x6==of3&&(decide (pe4<(0:Int))||UseT.pe x6==pe4)))∧BIf q5 (∀(i:Int),R (.d (bo true)) b) (∀(i:Int),R (.d (bo false)) b)):=by kernel_rfl
def cUses:CF:=fun args K=>∃(l:LayT) (n:NearT) (sl:Int) (of:Int) (pe:Int) (q:Bool),args= [layA l,nearA n,cellA sl of, .d (i64 pe)]∧((n.us).length≤9223372036854775807∧q=UsesS l n sl of pe)∧K (.d (bo q))
theorem BHz9:COk 25 cUses:=by
 rintro _ K ⟨l,n,sl,of,pe,_,rfl,⟨hl0,rfl⟩,hk⟩;refine ⟨_, ?_,hk⟩;refine pcW @BLq9 Zai BLp9 func25 fun Ev bb=> ?_;rw [CGy9];exact ⟨l,n,sl,of,pe,_,rfl,rfl,rfl,⟨hl0,rfl⟩,Zax (fun h0 i=>by rw [UsesS,h0]) fun h0 i=>by rw [UsesS,h0]⟩
variable {Ev:Env prog} {b0:Ev.β} {Q:Exit→St Ev.β→Prop}
def AAo9 (x:NearT):Prop:=x.us.length≤9223372036854775807∧x.gs.length≤9223372036854775807∧x.ak.length≤9223372036854775807
def TUs:CT:= [(25,cUses)]
theorem CJv9:AAb9 prog TUs:=Zag BHz9 Zai
noncomputable def AIz9:Code:=sub [1,0,1,2,3] (code f23)
def ADv9 (l:LayT) (n:NearT) (s:Int) (z:Bool) (i:Int):List AV:= [.bad, .bad, .d (i64 s), .ptr 0 0, .ptr 1 0, .bad, .d (bo z), .d (i64 i)]++Zam 61 .bad
theorem BEy9 (l:LayT) (n:NearT) (s:Int) (i:Int):wpc prog ⟨TV12, [],wl,y,false⟩ 100 AIz9 (ADv9 l n s false i) [layB l,nearB n] b (maskK 2 [2,3,4,6,7] K)=(BIf (decide (i<((Zaa (rowsU (Zcl n)):Nat):Int))) (BIf (true&&decide (0≤i)) (∃(x0:Int) (x1:Int) (x2:Int) (x3:Int),(rowsU (Zcl n))[Zak i]? =some [i64 x0,i64 x1,i64 x2,i64 x3]∧∃(u6:UseT) (l7:LayT) (z8:Bool), [Zan (Qz30 x0 x1 x2 x3),Zan (Qz3 l)]= [Zan (Qz6 u6),Zan (Qz3 l7)]∧z8=useOk u6 l7∧BIf z8 (BIf (true&&decide (0≤i)) (∃(x9:Int) (x10:Int) (x11:Int) (x12:Int),(rowsU (Zcl n))[Zak i]? =some [i64 x9,i64 x10,i64 x11,i64 x12]∧BIf (x9==s) (K .ret (Zab::Zab::Zad (i64 s)::Zae 0 0::Zae 1 0::Zab::Zad (bo true)::Zad (i64 i)::bds 61 []) [bk (Qz3 l),nearB n] b) (K .normal (Zab::Zab::Zad (i64 s)::Zae 0 0::Zae 1 0::Zab::Zad (bo false)::Zad (i64 (Zac .i64 (i+1)))::bds 61 []) [bk (Qz3 l),nearB n] b)) False) (K .normal (Zab::Zab::Zad (i64 s)::Zae 0 0::Zae 1 0::Zab::Zad (bo false)::Zad (i64 (Zac .i64 (i+1)))::bds 61 []) [bk (Qz3 l),nearB n] b)) False) (K (Zba 0) (Zab::Zab::Zad (i64 s)::Zae 0 0::Zae 1 0::Zab::Zad (bo false)::Zad (i64 i)::bds 61 []) [bk (Qz3 l),nearB n] b)):=by kernel_rfl
theorem BLo9 (l:LayT) (n:NearT) (s:Int) (hl:(n.us).length≤9223372036854775807) (h1:(n.us).any (fun x:UseT=>useOk x l&&x.sl==s)=false→∀i:Int,Q (.exit 0) ⟨ADv9 l n s false i, [layB l,nearB n],b0⟩) (h2:(n.us).any (fun x:UseT=>useOk x l&&x.sl==s)=true→∀i:Int,Q .ret ⟨ADv9 l n s true i, [layB l,nearB n],b0⟩):
 WR Ev AIz9 ((n.us).length+1) ⟨ADv9 l n s false (0:Nat), [layB l,nearB n],b0⟩ Q:=by
 refine Zfi (X:=⟨TV12, [],wlW Ev,Ev.Y,false⟩) (k:=100) [2,3,4,6,7] mixed (CX.Ok.of AGw9 Zar) (n.us) (fun x:UseT=>useOk x l&&x.sl==s) (fun i=>ADv9 l n s false (i:Nat)) (fun i=>ADv9 l n s true (i:Nat)) [layB l,nearB n] 0 (fun i x hi hx K k1 k2=> ?_) (fun K k1=> ?_) (fun h=>h1 h _) fun h i=>h2 h _
 ·refine Eq.mpr (BEy9 _ _ _ K l n s i) ?_;rw [AAe9,ABl9 hx];refine Zas (by simp;omega) (Zas (natI i) ⟨_,_,_,_,rfl, ?_⟩);refine ⟨x,l,_,rfl,rfl, ?_⟩;refine Zax (fun g1=>Zas (natI i) ⟨_,_,_,_,rfl,Zax (fun g2=> ?_) fun g2=> ?_⟩) fun g1=> ?_;all_goals first|exact k1 (by simp_all)|(rw [wrapN (by omega)];exact k2 (by simp_all))
 ·refine Eq.mpr (BEy9 _ _ _ K l n s _) ?_;rw [AAe9];exact Zci (by simp) k1
noncomputable def AIy9:Code:=sub [1,1,0,1,2,3] (code f23)
def ADu9 (l:LayT) (n:NearT) (s:Int) (z:Bool) (i:Int):List AV:= [.bad, .bad, .d (i64 s), .ptr 0 0, .ptr 1 0, .bad, .d (bo z), .bad, .bad, .d (i64 i)]++Zam 59 .bad
abbrev Qz5 (v0:GraT):List AV:= [Zad (i64 (Zds v0)),Zad (i64 (GraT.of v0)),Zad (i64 (GraT.pe v0)),Zad (i64 (GraT.st v0)),Zad (i64 (Zel v0))]
abbrev Qz15 (v0:Int) (v1:Int) (v2:Int) (v3:Int) (v4:Int):List AV:= [Zad (i64 v0),Zad (i64 v1),Zad (i64 v2),Zad (i64 v3),Zad (i64 v4)]
theorem BEx9 (l:LayT) (n:NearT) (s:Int) (i:Int):wpc prog ⟨TV12, [],wl,y,false⟩ 100 AIy9 (ADu9 l n s false i) [layB l,nearB n] b (maskK 2 [2,3,4,6,9] K)=(BIf (decide (i<((Zaa (rowsG (Zce n)):Nat):Int))) (BIf (true&&decide (0≤i)) (∃(x0:Int) (x1:Int) (x2:Int) (x3:Int) (x4:Int),(rowsG (Zce n))[Zak i]? =some (Qz27 x0 x1 x2 x3 x4)∧∃(u7:GraT) (l8:LayT) (z9:Bool), [Zan (Qz15 x0 x1 x2 x3 x4),Zan (Qz3 l)]= [Zan (Qz5 u7),Zan (Qz3 l8)]∧z9=graOk u7 l8∧BIf z9 (BIf (true&&decide (0≤i)) (∃(x10:Int) (x11:Int) (x12:Int) (x13:Int) (x14:Int),(rowsG (Zce n))[Zak i]? =some (Qz27 x10 x11 x12 x13 x14)∧BIf (x10==s) (K .ret (Zab::Zab::Zad (i64 s)::Zae 0 0::Zae 1 0::Zab::Zad (bo true)::Zab::Zab::Zad (i64 i)::bds 59 []) [bk (Qz3 l),nearB n] b) (K .normal (Zab::Zab::Zad (i64 s)::Zae 0 0::Zae 1 0::Zab::Zad (bo false)::Zab::Zab::Zad (i64 (Zac .i64 (i+1)))::bds 59 []) [bk (Qz3 l),nearB n] b)) False) (K .normal (Zab::Zab::Zad (i64 s)::Zae 0 0::Zae 1 0::Zab::Zad (bo false)::Zab::Zab::Zad (i64 (Zac .i64 (i+1)))::bds 59 []) [bk (Qz3 l),nearB n] b)) False) (K (Zba 2) (Zab::Zab::Zad (i64 s)::Zae 0 0::Zae 1 0::Zab::Zad (bo false)::Zab::Zab::Zad (i64 i)::bds 59 []) [bk (Qz3 l),nearB n] b)):=by kernel_rfl
theorem BLn9 (l:LayT) (n:NearT) (s:Int) (hl:(n.gs).length≤9223372036854775807) (h1:(n.gs).any (fun x:GraT=>graOk x l&&x.sl==s)=false→∀i:Int,Q (.exit 2) ⟨ADu9 l n s false i, [layB l,nearB n],b0⟩) (h2:(n.gs).any (fun x:GraT=>graOk x l&&x.sl==s)=true→∀i:Int,Q .ret ⟨ADu9 l n s true i, [layB l,nearB n],b0⟩):
 WR Ev AIy9 ((n.gs).length+1) ⟨ADu9 l n s false (0:Nat), [layB l,nearB n],b0⟩ Q:=by
 refine Zfi (X:=⟨TV12, [],wlW Ev,Ev.Y,false⟩) (k:=100) [2,3,4,6,9] mixed (CX.Ok.of AGw9 Zar) (n.gs) (fun x:GraT=>graOk x l&&x.sl==s) (fun i=>ADu9 l n s false (i:Nat)) (fun i=>ADu9 l n s true (i:Nat)) [layB l,nearB n] 2 (fun i x hi hx K k1 k2=> ?_) (fun K k1=> ?_) (fun h=>h1 h _) fun h i=>h2 h _
 ·refine Eq.mpr (BEx9 _ _ _ K l n s i) ?_;rw [AAd9,ABb9 hx];refine Zas (by simp;omega) (Zas (natI i) ⟨_,_,_,_,_,rfl, ?_⟩);refine ⟨x,l,_,rfl,rfl, ?_⟩;refine Zax (fun g1=>Zas (natI i) ⟨_,_,_,_,_,rfl,Zax (fun g2=> ?_) fun g2=> ?_⟩) fun g1=> ?_;all_goals first|exact k1 (by simp_all)|(rw [wrapN (by omega)];exact k2 (by simp_all))
 ·refine Eq.mpr (BEx9 _ _ _ K l n s _) ?_;rw [AAd9];exact Zci (by simp) k1
def AOo9 {β:Type}:WLT β:=fun cd tm hp b K=>match cidO cd with
 |3=>∃(l:LayT) (n:NearT) (s:Int) (q:Bool),cd= .loop AIz9∧AAn9 [2,3,4,6,7] 0 tm=ADv9 l n s false 0∧hp= [layB l,nearB n]∧((n.us).length≤9223372036854775807∧q=(n.us).any (fun x:UseT=>useOk x l&&x.sl==s))∧BIf q (∀i:Int,K .ret (ADv9 l n s true i) [layB l,nearB n] b) (∀i:Int,K (.exit 0) (ADv9 l n s false i) [layB l,nearB n] b)
 |9=>∃(l:LayT) (n:NearT) (s:Int) (q:Bool),cd= .loop AIy9∧AAn9 [2,3,4,6,9] 0 tm=ADu9 l n s false 0∧hp= [layB l,nearB n]∧((n.gs).length≤9223372036854775807∧q=(n.gs).any (fun x:GraT=>graOk x l&&x.sl==s))∧BIf q (∀i:Int,K .ret (ADu9 l n s true i) [layB l,nearB n] b) (∀i:Int,K (.exit 2) (ADu9 l n s false i) [layB l,nearB n] b)
 |_=>False
theorem AZe9:WlOk Ev AOo9:=by
 intro c tm hp b K h;unfold AOo9 at h;split at h
 ·obtain ⟨l,n,s,q,rfl,htm,rfl,⟨hl,hz⟩,hK⟩:=h;refine W.cast (htm▸AAc9 _ tm 0) (Zbg _) ?_;exact W.rounds (BLo9 (Q:=fun e s=>K e s.tm s.hp s.b) l n s hl (fun h=>by rw [hz,h] at hK;exact hK) fun h=>by rw [hz,h] at hK;exact hK)
 ·obtain ⟨l,n,s,q,rfl,htm,rfl,⟨hl,hz⟩,hK⟩:=h;refine W.cast (htm▸AAc9 _ tm 0) (Zbg _) ?_;exact W.rounds (BLn9 (Q:=fun e s=>K e s.tm s.hp s.b) l n s hl (fun h=>by rw [hz,h] at hK;exact hK) fun h=>by rw [hz,h] at hK;exact hK)
 ·exact h.elim
def AHn9 (l:LayT) (n:NearT) (s:Int):Bool:=(n.us).any (fun x:UseT=>useOk x l&&x.sl==s)||(n.gs).any (fun x:GraT=>graOk x l&&x.sl==s)
abbrev Qz66 (v0:Int):=Zab::Zab::Zad (i64 v0)::Zae 0 0::Zae 1 0::Zab::Zad (bo false)::Zab::Zab::Zad (i64 0)::bds 59 []
abbrev Qz79 (v0:Int):=Zab::Zab::Zad (i64 v0)::Zae 0 0::Zae 1 0::Zab::Zad (bo false)::Zad (i64 0)::bds 61 []
theorem BQs9 (l:LayT) (n:NearT) (s:Int):wpFn prog ⟨[], [],AOo9,y,false⟩ 100 f23 [layA l,nearA n, .d (i64 s)] b R=(∃(l0:LayT) (n1:NearT) (s2:Int) (q3:Bool),Zaq AIz9=Zaq AIz9∧(Qz79 s)=(Qz79 s2)∧ [bk (Qz3 l),nearB n]= [bk (Qz3 l0),nearB n1]∧(Zaa (Zcl n1)≤9223372036854775807∧q3=Zcp (Zcl n1) fun (x4:UseT)=>useOk x4 l0&&Zdl x4==s2)∧BIf q3 (∀(i:Int),R (.d (bo true)) b) (∀(i:Int),∃(l5:LayT) (n6:NearT) (s7:Int) (q8:Bool),Zaq AIy9=Zaq AIy9∧(Qz66 s2)=(Qz66 s7)∧ [bk (Qz3 l0),nearB n1]= [bk (Qz3 l5),nearB n6]∧(Zaa (Zce n6)≤9223372036854775807∧q8=Zcp (Zce n6) fun (x9:GraT)=>graOk x9 l5&&Zds x9==s7)∧BIf q8 (∀(i:Int),R (.d (bo true)) b) (∀(i:Int),R (.d (bo false)) b))):=by kernel_rfl
def BSb9:CF:=fun args K=>∃(l:LayT) (n:NearT) (s:Int) (q:Bool),args= [layA l,nearA n, .d (i64 s)]∧((n.us).length≤9223372036854775807∧(n.gs).length≤9223372036854775807∧q=AHn9 l n s)∧K (.d (bo q))
theorem BIt9:COk 23 BSb9:=by
 rintro _ K ⟨l,n,s,_,rfl,⟨hl0,hl1,rfl⟩,hk⟩;refine ⟨_, ?_,hk⟩;refine pcW @AOo9 Zai AZe9 func23 fun Ev bb=> ?_;rw [BQs9];exact ⟨l,n,s,_,rfl,rfl,rfl,⟨hl0,rfl⟩,Zax (fun h0 i=>by rw [AHn9];simp only [h0,Zdf,Zdi,Bool.false_or]) fun h0 i=>⟨l,n,s,_,rfl,rfl,rfl,⟨hl1,rfl⟩,Zax (fun h1 i=>by rw [AHn9];simp only [h0,h1,Zdf,Zdi,Bool.false_or]) fun h1 i=>by rw [AHn9];simp only [h0,h1,Bool.or_false,Bool.false_or]⟩⟩
noncomputable def ASl9:Code:=sub [1,0,1,2,3] (code f26)
def AIn9 (l:LayT) (n:NearT) (sl:Int) (of:Int) (pe:Int) (z:Bool) (i:Int):List AV:= [.bad, .bad, .bad, .d (i64 pe), .ptr 0 0, .ptr 1 0, .ptr 2 0, .bad, .d (bo z), .d (i64 i)]++Zam 35 .bad
theorem CDu9 (l:LayT) (n:NearT) (sl:Int) (of:Int) (pe:Int) (i:Int):wpc prog ⟨TV12, [],wl,y,false⟩ 100 ASl9 (AIn9 l n sl of pe false i) [layB l,nearB n,cellB sl of] b (maskK 3 [3,4,5,6,8,9] K)=(BIf (decide (i<((Zaa (rowsA (Zdw n)):Nat):Int))) (BIf (true&&decide (0≤i)) (∃(x0:Int) (x1:Int) (x2:Int),(rowsA (Zdw n))[Zak i]? =some [i64 x0,i64 x1,i64 x2]∧∃(sl5:Int) (of6:Int) (pe7:Int) (l8:LayT) (z9:Bool),(Qz28 x0 x1 x2 l)=(Qz28 sl5 of6 pe7 l8)∧z9=ABc9 sl5 of6 pe7 l8∧BIf z9 (BIf (x0==sl&&(x1==of&&true)) (BIf (x2==pe) (K .ret (bds 3 (Zad (i64 pe)::Zae 0 0::Zae 1 0::Zae 2 0::Zab::Zad (bo true)::Zad (i64 i)::bds 35 [])) (Qz26 l n sl of) b) (K .normal (bds 3 (Zad (i64 pe)::Zae 0 0::Zae 1 0::Zae 2 0::Zab::Zad (bo false)::Zad (i64 (Zac .i64 (i+1)))::bds 35 [])) (Qz26 l n sl of) b)) (K .normal (bds 3 (Zad (i64 pe)::Zae 0 0::Zae 1 0::Zae 2 0::Zab::Zad (bo false)::Zad (i64 (Zac .i64 (i+1)))::bds 35 [])) (Qz26 l n sl of) b)) (K .normal (bds 3 (Zad (i64 pe)::Zae 0 0::Zae 1 0::Zae 2 0::Zab::Zad (bo false)::Zad (i64 (Zac .i64 (i+1)))::bds 35 [])) (Qz26 l n sl of) b)) False) (K (Zba 0) (bds 3 (Zad (i64 pe)::Zae 0 0::Zae 1 0::Zae 2 0::Zab::Zad (bo false)::Zad (i64 i)::bds 35 [])) (Qz26 l n sl of) b)):=by kernel_rfl
theorem CAt9 (l:LayT) (n:NearT) (sl:Int) (of:Int) (pe:Int) (hl:(n.ak).length≤9223372036854775807) (h1:(n.ak).any (fun x:AskT=>ABc9 x.sl x.of x.pe l&&((x.sl==sl&&x.of==of)&&x.pe==pe))=false→∀i:Int,Q (.exit 0) ⟨AIn9 l n sl of pe false i, [layB l,nearB n,cellB sl of],b0⟩) (h2:(n.ak).any (fun x:AskT=>ABc9 x.sl x.of x.pe l&&((x.sl==sl&&x.of==of)&&x.pe==pe))=true→∀i:Int,Q .ret ⟨AIn9 l n sl of pe true i, [layB l,nearB n,cellB sl of],b0⟩):
 WR Ev ASl9 ((n.ak).length+1) ⟨AIn9 l n sl of pe false (0:Nat), [layB l,nearB n,cellB sl of],b0⟩ Q:=by
 refine Zfi (X:=⟨TV12, [],wlW Ev,Ev.Y,false⟩) (k:=100) [3,4,5,6,8,9] mixed (CX.Ok.of AGw9 Zar) (n.ak) (fun x:AskT=>ABc9 x.sl x.of x.pe l&&((x.sl==sl&&x.of==of)&&x.pe==pe)) (fun i=>AIn9 l n sl of pe false (i:Nat)) (fun i=>AIn9 l n sl of pe true (i:Nat)) [layB l,nearB n,cellB sl of] 0 (fun i x hi hx K k1 k2=> ?_) (fun K k1=> ?_) (fun h=>h1 h _) fun h i=>h2 h _
 ·refine Eq.mpr (CDu9 _ _ _ K l n sl of pe i) ?_;rw [AAi9,ABd9 hx];refine Zas (by simp;omega) (Zas (natI i) ⟨_,_,_,rfl, ?_⟩);refine ⟨x.sl,x.of,x.pe,l,_,rfl,rfl, ?_⟩;repeat' (refine Zax (fun _=> ?_) fun _=> ?_)
  all_goals first|exact k1 (by simp_all)|(rw [wrapN (by omega)];exact k2 (by simp_all))
 ·refine Eq.mpr (CDu9 _ _ _ K l n sl of pe _) ?_;rw [AAi9];exact Zci (by simp) k1
def BMa9 {β:Type}:WLT β:=fun cd tm hp b K=>match cidO cd with
 |3=>∃(l:LayT) (n:NearT) (sl:Int) (of:Int) (pe:Int) (q:Bool),cd= .loop ASl9∧AAn9 [3,4,5,6,8,9] 0 tm=AIn9 l n sl of pe false 0∧hp= [layB l,nearB n,cellB sl of]∧((n.ak).length≤9223372036854775807∧q=(n.ak).any (fun x:AskT=>ABc9 x.sl x.of x.pe l&&((x.sl==sl&&x.of==of)&&x.pe==pe)))∧BIf q (∀i:Int,K .ret (AIn9 l n sl of pe true i) [layB l,nearB n,cellB sl of] b) (∀i:Int,K (.exit 0) (AIn9 l n sl of pe false i) [layB l,nearB n,cellB sl of] b)
 |_=>False
theorem BLz9:WlOk Ev BMa9:=by
 intro c tm hp b K h;unfold BMa9 at h;split at h
 ·obtain ⟨l,n,sl,of,pe,q,rfl,htm,rfl,⟨hl,hz⟩,hK⟩:=h;refine W.cast (htm▸AAc9 _ tm 0) (Zbg _) ?_;exact W.rounds (CAt9 (Q:=fun e s=>K e s.tm s.hp s.b) l n sl of pe hl (fun h=>by rw [hz,h] at hK;exact hK) fun h=>by rw [hz,h] at hK;exact hK)
 ·exact h.elim
def AsksS (l:LayT) (n:NearT) (sl:Int) (of:Int) (pe:Int):Bool:=(n.ak).any (fun x:AskT=>ABc9 x.sl x.of x.pe l&&((x.sl==sl&&x.of==of)&&x.pe==pe))
abbrev Qz76 (v0:Int):List AV:=bds 3 (Zad (i64 v0)::Zae 0 0::Zae 1 0::Zae 2 0::Zab::Zad (bo false)::Zad (i64 0)::bds 35 [])
theorem CHw9 (l:LayT) (n:NearT) (sl:Int) (of:Int) (pe:Int):wpFn prog ⟨[], [],BMa9,y,false⟩ 100 f26 [layA l,nearA n,cellA sl of, .d (i64 pe)] b R=(∃(l0:LayT) (n1:NearT) (sl2:Int) (of3:Int) (pe4:Int) (q5:Bool),Zaq ASl9=Zaq ASl9∧(Qz76 pe)=(Qz76 pe4)∧(Qz26 l n sl of)=(Qz26 l0 n1 sl2 of3)∧(Zaa (Zdw n1)≤9223372036854775807∧q5=Zcp (Zdw n1) fun (x6:AskT)=>ABc9 (Zde x6) (AskT.of x6) (AskT.pe x6) l0&&(Zde x6==sl2&&AskT.of x6==of3&&AskT.pe x6==pe4))∧BIf q5 (∀(i:Int),R (.d (bo true)) b) (∀(i:Int),R (.d (bo false)) b)):=by kernel_rfl
def cAsks:CF:=fun args K=>∃(l:LayT) (n:NearT) (sl:Int) (of:Int) (pe:Int) (q:Bool),args= [layA l,nearA n,cellA sl of, .d (i64 pe)]∧((n.ak).length≤9223372036854775807∧q=AsksS l n sl of pe)∧K (.d (bo q))
theorem BYu9:COk 26 cAsks:=by
 rintro _ K ⟨l,n,sl,of,pe,_,rfl,⟨hl0,rfl⟩,hk⟩;refine ⟨_, ?_,hk⟩;refine pcW @BMa9 Zai BLz9 func26 fun Ev bb=> ?_;rw [CHw9];exact ⟨l,n,sl,of,pe,_,rfl,rfl,rfl,⟨hl0,rfl⟩,Zax (fun h0 i=>by rw [AsksS,h0]) fun h0 i=>by rw [AsksS,h0]⟩
noncomputable def AMf9:Code:=sub [1,0,1,2,3] (code f63)
def AFi9 (l:LayT) (ns:List NearT) (sl:Int) (of:Int) (but:Int) (z:Bool) (i:Int):List AV:= [.bad, .d (.sl 31 (rowsN ns)), .bad, .d (i64 but), .ptr 0 0, .bad, .ptr 1 0, .bad, .d (bo z), .d (i64 i)]++Zam 25 .bad
abbrev Qz24 (v0:LayT) (v1:Int) (v2:Int):= [bk (Qz3 v0),bk [Zad (i64 v1),Zad (i64 v2)]]
theorem BQz9 (l:LayT) (ns:List NearT) (sl:Int) (of:Int) (but:Int) (i:Int):wpc prog ⟨TUs, [],wl,y,false⟩ 100 AMf9 (AFi9 l ns sl of but false i) [layB l,cellB sl of] b (maskK 2 [1,3,4,6,8,9] K)=(BIf (decide (i<((Zaa (rowsN ns):Nat):Int))) (BIf (true&&decide (0≤i)) (∃(n0:NearT),(rowsN ns)[Zak i]? =some (nearR n0)∧∃(l3:LayT) (n4:NearT) (sl5:Int) (of6:Int) (pe7:Int) (q8:Bool), [Zan (Qz3 l),nearA n0,Zan [Zad (i64 sl),Zad (i64 of)],Zad (i64 (-1))]= [Zan (Qz3 l3),nearA n4,Zan [Zad (i64 sl5),Zad (i64 of6)],Zad (i64 pe7)]∧(Zaa (Zcl n4)≤9223372036854775807∧q8=UsesS l3 n4 sl5 of6 pe7)∧BIf q8 (BIf (true&&decide (0≤i)) (∃(n9:NearT),(rowsN ns)[Zak i]? =some (nearR n9)∧BIf (Zcy n9 !=but) (K .ret (Zab::Zad (Zaj 31 (rowsN ns))::Zab::Zad (i64 but)::Zae 0 0::Zab::Zae 1 0::Zab::Zad (bo true)::Zad (i64 i)::bds 25 []) (Qz24 l sl of) b) (K .normal (Zab::Zad (Zaj 31 (rowsN ns))::Zab::Zad (i64 but)::Zae 0 0::Zab::Zae 1 0::Zab::Zad (bo false)::Zad (i64 (Zac .i64 (i+1)))::bds 25 []) (Qz24 l sl of) b)) False) (K .normal (Zab::Zad (Zaj 31 (rowsN ns))::Zab::Zad (i64 but)::Zae 0 0::Zab::Zae 1 0::Zab::Zad (bo false)::Zad (i64 (Zac .i64 (i+1)))::bds 25 []) (Qz24 l sl of) b)) False) (K (Zba 0) (Zab::Zad (Zaj 31 (rowsN ns))::Zab::Zad (i64 but)::Zae 0 0::Zab::Zae 1 0::Zab::Zad (bo false)::Zad (i64 i)::bds 25 []) (Qz24 l sl of) b)):=by kernel_rfl
theorem BTu9 (l:LayT) (ns:List NearT) (sl:Int) (of:Int) (but:Int) (hl:(ns).length≤9223372036854775807) (hN:∀x∈ns,AAo9 x) (h1:(ns).any (fun x:NearT=>UsesS l x sl of (-1)&& !(x.fm==but))=false→∀i:Int,Q (.exit 0) ⟨AFi9 l ns sl of but false i, [layB l,cellB sl of],b0⟩) (h2:(ns).any (fun x:NearT=>UsesS l x sl of (-1)&& !(x.fm==but))=true→∀i:Int,Q .ret ⟨AFi9 l ns sl of but true i, [layB l,cellB sl of],b0⟩):
 WR Ev AMf9 ((ns).length+1) ⟨AFi9 l ns sl of but false (0:Nat), [layB l,cellB sl of],b0⟩ Q:=by
 refine Zfi (X:=⟨TUs, [],wlW Ev,Ev.Y,false⟩) (k:=100) [1,3,4,6,8,9] mixed (CX.Ok.of CJv9 Zar) (ns) (fun x:NearT=>UsesS l x sl of (-1)&& !(x.fm==but)) (fun i=>AFi9 l ns sl of but false (i:Nat)) (fun i=>AFi9 l ns sl of but true (i:Nat)) [layB l,cellB sl of] 0 (fun i x hi hx K k1 k2=> ?_) (fun K k1=> ?_) (fun h=>h1 h _) fun h i=>h2 h _
 ·refine Eq.mpr (BQz9 _ _ _ K l ns sl of but i) ?_;rw [ABe9,AAr9 hx];refine Zas (by simp;omega) (Zas (natI i) ⟨_,rfl, ?_⟩);refine ⟨l,x,sl,of, -1,_,rfl,⟨(hN x (Zbj hx)).1,rfl⟩, ?_⟩;refine Zax (fun g1=>Zas (natI i) ⟨_,rfl,Zax (fun g2=> ?_) fun g2=> ?_⟩) fun g1=> ?_;all_goals first|exact k1 (by simp_all)|(rw [wrapN (by omega)];exact k2 (by simp_all))
 ·refine Eq.mpr (BQz9 _ _ _ K l ns sl of but _) ?_;rw [ABe9];exact Zci (by simp) k1
def AWi9 {β:Type}:WLT β:=fun cd tm hp b K=>match cidO cd with
 |3=>∃(l:LayT) (ns:List NearT) (sl:Int) (of:Int) (but:Int) (q:Bool),cd= .loop AMf9∧AAn9 [1,3,4,6,8,9] 0 tm=AFi9 l ns sl of but false 0∧hp= [layB l,cellB sl of]∧((∀x∈ns,AAo9 x)∧(ns).length≤9223372036854775807∧q=(ns).any (fun x:NearT=>UsesS l x sl of (-1)&& !(x.fm==but)))∧BIf q (∀i:Int,K .ret (AFi9 l ns sl of but true i) [layB l,cellB sl of] b) (∀i:Int,K (.exit 0) (AFi9 l ns sl of but false i) [layB l,cellB sl of] b)
 |_=>False
theorem BCy9:WlOk Ev AWi9:=by
 intro c tm hp b K h;unfold AWi9 at h;split at h
 ·obtain ⟨l,ns,sl,of,but,q,rfl,htm,rfl,⟨hN,hl,hz⟩,hK⟩:=h;refine W.cast (htm▸AAc9 _ tm 0) (Zbg _) ?_;exact W.rounds (BTu9 (Q:=fun e s=>K e s.tm s.hp s.b) l ns sl of but hl hN (fun h=>by rw [hz,h] at hK;exact hK) fun h=>by rw [hz,h] at hK;exact hK)
 ·exact h.elim
def ANl9 (l:LayT) (ns:List NearT) (sl:Int) (of:Int) (but:Int):Bool:=(ns).any (fun x:NearT=>UsesS l x sl of (-1)&& !(x.fm==but))
abbrev Qz68 (v0:List NearT) (v1:Int):=Zab::Zad (Zaj 31 (rowsN v0))::Zab::Zad (i64 v1)::Zae 0 0::Zab::Zae 1 0::Zab::Zad (bo false)::Zad (i64 0)::bds 25 []
theorem BZc9 (l:LayT) (ns:List NearT) (sl:Int) (of:Int) (but:Int):wpFn prog ⟨[], [],AWi9,y,false⟩ 100 f63 [layA l, .d (.sl 31 (rowsN ns)),cellA sl of, .d (i64 but)] b R=(∃(l0:LayT) (ns1:List NearT) (sl2:Int) (of3:Int) (but4:Int) (q5:Bool),Zaq AMf9=Zaq AMf9∧(Qz68 ns but)=(Qz68 ns1 but4)∧(Qz24 l sl of)=(Qz24 l0 sl2 of3)∧((∀(x:NearT),x∈ns1→AAo9 x)∧Zaa ns1≤9223372036854775807∧q5=Zcp ns1 fun (x6:NearT)=>UsesS l0 x6 sl2 of3 (-1:Int)&& !NearT.fm x6==but4)∧BIf q5 (∀(i:Int),R (.d (bo true)) b) (∀(i:Int),R (.d (bo false)) b)):=by kernel_rfl
def CFv9:CF:=fun args K=>∃(l:LayT) (ns:List NearT) (sl:Int) (of:Int) (but:Int) (q:Bool),args= [layA l, .d (.sl 31 (rowsN ns)),cellA sl of, .d (i64 but)]∧((∀x∈ns,AAo9 x)∧(ns).length≤9223372036854775807∧q=ANl9 l ns sl of but)∧K (.d (bo q))
theorem BPc9:COk 63 CFv9:=by
 rintro _ K ⟨l,ns,sl,of,but,_,rfl,⟨hN,hl0,rfl⟩,hk⟩;refine ⟨_, ?_,hk⟩;refine pcW @AWi9 Zai BCy9 func63 fun Ev bb=> ?_;rw [BZc9];exact ⟨l,ns,sl,of,but,_,rfl,rfl,rfl,⟨hN,hl0,rfl⟩,Zax (fun h0 i=>by rw [ANl9,h0]) fun h0 i=>by rw [ANl9,h0]⟩
def TtU:CT:= [(108,BYg9),(95,BPf9),(118,BYh9)]
theorem BZd9:AAb9 prog TtU:=Zag AXv9 (Zag AQb9 (Zag AXw9 Zai))
noncomputable def lpEU:Code:=sub [1,1,0,1,2,3] (code f113)
noncomputable def lpEG:Code:=sub [1,1,0,1,2,3] (code f115)
noncomputable def lpEA:Code:=sub [1,1,0,1,2,3] (code f117)
def tmE (k cf:Nat) (xs:List (List Dv)) (acc:AV) (n i:Int):List AV:= [.bad, .fn (.func cf) [] [], .bad, .bad, .bad,acc, .bad, .bad, .d (.sl k xs), .d (i64 n), .d (i64 i)]++Zam 11 .bad
abbrev Qz13 (v0:UseT):= [i64 (Zdl v0),i64 (Zfs v0),i64 (UseT.pe v0),i64 (UseT.st v0)]
theorem rEU (l:List UseT) (xs:List (List Dv)) (n i:Int):wpc prog ⟨TtU, [],wl,y,false⟩ 100 lpEU (tmE 4 108 (rowsU l) (.own 149 4 xs) n i) [] b (maskK 0 [1,5,8,9,10] K)=(BIf (decide (i<n)) (BIf (true&&decide (0≤i)) (∃(x0:Int) (x1:Int) (x2:Int) (x3:Int),(rowsU l)[Zak i]? =some [i64 x0,i64 x1,i64 x2,i64 x3]∧∃(u6:UseT), [Zan (Qz30 x0 x1 x2 x3)]= [Zan (Qz6 u6)]∧BIf (true&&decide ((Zaa xs+1)*32≤140737488355328)) (K .normal (Zab::Zav (Fn.func 108) [] []::bds 3 (Zcc 149 4 (xs++ [Qz13 u6])::Zab::Zab::Zad (Zaj 4 (rowsU l))::Zad (i64 n)::Zad (i64 (Zac .i64 (i+1)))::bds 11 [])) [] b) False) False) (K (Zba 0) (Zab::Zav (Fn.func 108) [] []::bds 3 (Zcc 149 4 xs::Zab::Zab::Zad (Zaj 4 (rowsU l))::Zad (i64 n)::Zad (i64 i)::bds 11 [])) [] b)):=by kernel_rfl
abbrev Qz14 (v0:GraT):= [i64 (Zds v0),i64 (GraT.of v0),i64 (GraT.pe v0),i64 (GraT.st v0),i64 (Zel v0)]
theorem rEG (l:List GraT) (xs:List (List Dv)) (n i:Int):wpc prog ⟨TtU, [],wl,y,false⟩ 100 lpEG (tmE 5 95 (rowsG l) (.own 140 5 xs) n i) [] b (maskK 0 [1,5,8,9,10] K)=(BIf (decide (i<n)) (BIf (true&&decide (0≤i)) (∃(x0:Int) (x1:Int) (x2:Int) (x3:Int) (x4:Int),(rowsG l)[Zak i]? =some (Qz27 x0 x1 x2 x3 x4)∧∃(u7:GraT), [Zan (Qz15 x0 x1 x2 x3 x4)]= [Zan (Qz5 u7)]∧BIf (true&&decide ((Zaa xs+1)*40≤140737488355328)) (K .normal (Zab::Zav (Fn.func 95) [] []::bds 3 (Zcc 140 5 (xs++ [Qz14 u7])::Zab::Zab::Zad (Zaj 5 (rowsG l))::Zad (i64 n)::Zad (i64 (Zac .i64 (i+1)))::bds 11 [])) [] b) False) False) (K (Zba 0) (Zab::Zav (Fn.func 95) [] []::bds 3 (Zcc 140 5 xs::Zab::Zab::Zad (Zaj 5 (rowsG l))::Zad (i64 n)::Zad (i64 i)::bds 11 [])) [] b)):=by kernel_rfl
abbrev Qz11 (v0:AskT):List AV:= [Zad (i64 (Zde v0)),Zad (i64 (AskT.of v0)),Zad (i64 (AskT.pe v0))]
abbrev Qz22 (v0:Int) (v1:Int) (v2:Int):List AV:= [Zad (i64 v0),Zad (i64 v1),Zad (i64 v2)]
theorem rEA (l:List AskT) (xs:List (List Dv)) (n i:Int):wpc prog ⟨TtU, [],wl,y,false⟩ 100 lpEA (tmE 3 118 (rowsA l) (.own 162 3 xs) n i) [] b (maskK 0 [1,5,8,9,10] K)=(BIf (decide (i<n)) (BIf (true&&decide (0≤i)) (∃(x0:Int) (x1:Int) (x2:Int),(rowsA l)[Zak i]? =some [i64 x0,i64 x1,i64 x2]∧∃(u5:AskT), [Zan (Qz22 x0 x1 x2)]= [Zan (Qz11 u5)]∧BIf (true&&decide ((Zaa xs+1)*24≤140737488355328)) (K .normal (Zab::Zav (Fn.func 118) [] []::bds 3 (Zcc 162 3 (xs++ [[i64 (Zde u5),i64 (AskT.of u5),i64 (AskT.pe u5)]])::Zab::Zab::Zad (Zaj 3 (rowsA l))::Zad (i64 n)::Zad (i64 (Zac .i64 (i+1)))::bds 11 [])) [] b) False) False) (K (Zba 0) (Zab::Zav (Fn.func 118) [] []::bds 3 (Zcc 162 3 xs::Zab::Zab::Zad (Zaj 3 (rowsA l))::Zad (i64 n)::Zad (i64 i)::bds 11 [])) [] b)):=by kernel_rfl
variable {Ev:Env prog} {b0:Ev.β} {Q:Exit→St Ev.β→Prop}
theorem AIr9 (a b:List UseT):rowsU (a++b)=rowsU a++rowsU b:=by simp [rowsU]
theorem AFq9 (a b:List GraT):rowsG (a++b)=rowsG a++rowsG b:=by simp [rowsG]
theorem AGz9 (a b:List AskT):rowsA (a++b)=rowsA a++rowsA b:=by simp [rowsA]
theorem wrEU (l:List UseT) (hl:l.length<1000000) (hQ:∀i:Int,Q (.exit 0) ⟨tmE 4 108 (rowsU l) (.own 149 4 (rowsU l)) l.length i, [],b0⟩):
 WR Ev lpEU (l.length+1) ⟨tmE 4 108 (rowsU l) (.own 149 4 (rowsU [])) l.length (0:Nat), [],b0⟩ Q:=by
 refine WR.gathL (X:=⟨TtU, [],wlW Ev,Ev.Y,false⟩) (k:=100) [1,5,8,9,10] mixed (CX.Ok.of BZd9 Zar) l (fun x=> [x]) (fun _=>Zat _) (fun acc i=>tmE 4 108 (rowsU l) (.own 149 4 (rowsU acc)) l.length (i:Nat)) [] 0 (fun i x acc hi hx ha K k1=> ?_) (fun acc K k1=> ?_) ?_
 ·refine Eq.mpr (rEU _ _ _ K l _ l.length i) ?_;rw [ABl9 hx];refine Zas (by simp;omega) (Zas (natI i) ⟨_,_,_,_,rfl,x,rfl,Zas (by simp [AAe9];omega) ?_⟩);rw [AIr9] at k1;rw [wrapN (by omega)];exact k1
 ·refine Eq.mpr (rEU _ _ _ K l _ l.length _) ?_;exact Zci (by simp) k1
 ·rw [Zeq];exact hQ _
def wlEU {β:Type}:WLT β:=fun cd tm hp b K=>∃l:List UseT,cd= .loop lpEU∧AAn9 [1,5,8,9,10] 0 tm=tmE 4 108 (rowsU l) nilA (rowsU l).length 0∧hp= []∧l.length<1000000∧
 ∀i:Int,K (.exit 0) (tmE 4 108 (rowsU l) (.own 149 4 (rowsU l)) l.length i) [] b
theorem CBz9:WlOk Ev wlEU:=by
 rintro c tm hp b K ⟨l,rfl,htm,rfl,hl,hK⟩;rw [AAe9] at htm;refine W.cast (htm▸AAc9 _ tm 0) (Zbg _) ?_;refine W.cast (tm':=tmE 4 108 (rowsU l) (.own 149 4 (rowsU [])) l.length 0) (LeL.at [_,_,_,_,_] _ (Zfj rfl)) (Zbg _) ?_;exact W.rounds (wrEU (Q:=fun e s=>K e s.tm s.hp s.b) l hl hK)
theorem CFj9 (l:List UseT):wpFn prog ⟨[], [],wlEU,y,false⟩ 100 f113 [.d (.sl 4 (rowsU l)), .fn (.func 108) [] []] b R=(∃(l0:List UseT),Zaq lpEU=Zaq lpEU∧(Zab::Zav (Fn.func 108) [] []::bds 3 (Zad (Zdk (.slice none 0 0))::Zab::Zab::Zad (Zaj 4 (rowsU l))::Zad (i64 ((Zaa (rowsU l):Nat):Int))::Zad (i64 0)::bds 11 []))=(Zab::Zav (Fn.func 108) [] []::bds 3 (Zad (Zdk (.slice none 0 0))::Zab::Zab::Zad (Zaj 4 (rowsU l0))::Zad (i64 ((Zaa (rowsU l0):Nat):Int))::Zad (i64 0)::bds 11 []))∧([]:List Blk)= []∧Zaa l0<1000000∧∀(i:Int),R (.d (Zaj 4 (rowsU l0))) b):=by kernel_rfl
def cEU:CF:=fun args K=>∃l:List UseT,args= [.d (.sl 4 (rowsU l)), .fn (.func 108) [] []]∧l.length<1000000∧K (.d (.sl 4 (rowsU l)))
theorem CJn9:COk 113 cEU:=by
 rintro _ K ⟨l,rfl,hl,hk⟩;refine ⟨_, ?_,hk⟩;refine pcL @wlEU Zai CBz9 func113 fun Ev bb=> ?_;rw [CFj9];exact ⟨l,rfl,rfl,rfl,hl,fun i=> .base LeA.rfl⟩
theorem wrEG (l:List GraT) (hl:l.length<1000000) (hQ:∀i:Int,Q (.exit 0) ⟨tmE 5 95 (rowsG l) (.own 140 5 (rowsG l)) l.length i, [],b0⟩):
 WR Ev lpEG (l.length+1) ⟨tmE 5 95 (rowsG l) (.own 140 5 (rowsG [])) l.length (0:Nat), [],b0⟩ Q:=by
 refine WR.gathL (X:=⟨TtU, [],wlW Ev,Ev.Y,false⟩) (k:=100) [1,5,8,9,10] mixed (CX.Ok.of BZd9 Zar) l (fun x=> [x]) (fun _=>Zat _) (fun acc i=>tmE 5 95 (rowsG l) (.own 140 5 (rowsG acc)) l.length (i:Nat)) [] 0 (fun i x acc hi hx ha K k1=> ?_) (fun acc K k1=> ?_) ?_
 ·refine Eq.mpr (rEG _ _ _ K l _ l.length i) ?_;rw [ABb9 hx];refine Zas (by simp;omega) (Zas (natI i) ⟨_,_,_,_,_,rfl,x,rfl,Zas (by simp [AAd9];omega) ?_⟩);rw [AFq9] at k1;rw [wrapN (by omega)];exact k1
 ·refine Eq.mpr (rEG _ _ _ K l _ l.length _) ?_;exact Zci (by simp) k1
 ·rw [Zeq];exact hQ _
def wlEG {β:Type}:WLT β:=fun cd tm hp b K=>∃l:List GraT,cd= .loop lpEG∧AAn9 [1,5,8,9,10] 0 tm=tmE 5 95 (rowsG l) nilA (rowsG l).length 0∧hp= []∧l.length<1000000∧
 ∀i:Int,K (.exit 0) (tmE 5 95 (rowsG l) (.own 140 5 (rowsG l)) l.length i) [] b
theorem CCa9:WlOk Ev wlEG:=by
 rintro c tm hp b K ⟨l,rfl,htm,rfl,hl,hK⟩;rw [AAd9] at htm;refine W.cast (htm▸AAc9 _ tm 0) (Zbg _) ?_;refine W.cast (tm':=tmE 5 95 (rowsG l) (.own 140 5 (rowsG [])) l.length 0) (LeL.at [_,_,_,_,_] _ (Zfj rfl)) (Zbg _) ?_;exact W.rounds (wrEG (Q:=fun e s=>K e s.tm s.hp s.b) l hl hK)
theorem CFl9 (l:List GraT):wpFn prog ⟨[], [],wlEG,y,false⟩ 100 f115 [.d (.sl 5 (rowsG l)), .fn (.func 95) [] []] b R=(∃(l0:List GraT),Zaq lpEG=Zaq lpEG∧(Zab::Zav (Fn.func 95) [] []::bds 3 (Zad (Zdk (.slice none 0 0))::Zab::Zab::Zad (Zaj 5 (rowsG l))::Zad (i64 ((Zaa (rowsG l):Nat):Int))::Zad (i64 0)::bds 11 []))=(Zab::Zav (Fn.func 95) [] []::bds 3 (Zad (Zdk (.slice none 0 0))::Zab::Zab::Zad (Zaj 5 (rowsG l0))::Zad (i64 ((Zaa (rowsG l0):Nat):Int))::Zad (i64 0)::bds 11 []))∧([]:List Blk)= []∧Zaa l0<1000000∧∀(i:Int),R (.d (Zaj 5 (rowsG l0))) b):=by kernel_rfl
def cEG:CF:=fun args K=>∃l:List GraT,args= [.d (.sl 5 (rowsG l)), .fn (.func 95) [] []]∧l.length<1000000∧K (.d (.sl 5 (rowsG l)))
theorem CJo9:COk 115 cEG:=by
 rintro _ K ⟨l,rfl,hl,hk⟩;refine ⟨_, ?_,hk⟩;refine pcL @wlEG Zai CCa9 func115 fun Ev bb=> ?_;rw [CFl9];exact ⟨l,rfl,rfl,rfl,hl,fun i=> .base LeA.rfl⟩
theorem wrEA (l:List AskT) (hl:l.length<1000000) (hQ:∀i:Int,Q (.exit 0) ⟨tmE 3 118 (rowsA l) (.own 162 3 (rowsA l)) l.length i, [],b0⟩):
 WR Ev lpEA (l.length+1) ⟨tmE 3 118 (rowsA l) (.own 162 3 (rowsA [])) l.length (0:Nat), [],b0⟩ Q:=by
 refine WR.gathL (X:=⟨TtU, [],wlW Ev,Ev.Y,false⟩) (k:=100) [1,5,8,9,10] mixed (CX.Ok.of BZd9 Zar) l (fun x=> [x]) (fun _=>Zat _) (fun acc i=>tmE 3 118 (rowsA l) (.own 162 3 (rowsA acc)) l.length (i:Nat)) [] 0 (fun i x acc hi hx ha K k1=> ?_) (fun acc K k1=> ?_) ?_
 ·refine Eq.mpr (rEA _ _ _ K l _ l.length i) ?_;rw [ABd9 hx];refine Zas (by simp;omega) (Zas (natI i) ⟨_,_,_,rfl,x,rfl,Zas (by simp [AAi9];omega) ?_⟩);rw [AGz9] at k1;rw [wrapN (by omega)];exact k1
 ·refine Eq.mpr (rEA _ _ _ K l _ l.length _) ?_;exact Zci (by simp) k1
 ·rw [Zeq];exact hQ _
def wlEA {β:Type}:WLT β:=fun cd tm hp b K=>∃l:List AskT,cd= .loop lpEA∧AAn9 [1,5,8,9,10] 0 tm=tmE 3 118 (rowsA l) nilA (rowsA l).length 0∧hp= []∧l.length<1000000∧
 ∀i:Int,K (.exit 0) (tmE 3 118 (rowsA l) (.own 162 3 (rowsA l)) l.length i) [] b
theorem CCb9:WlOk Ev wlEA:=by
 rintro c tm hp b K ⟨l,rfl,htm,rfl,hl,hK⟩;rw [AAi9] at htm;refine W.cast (htm▸AAc9 _ tm 0) (Zbg _) ?_;refine W.cast (tm':=tmE 3 118 (rowsA l) (.own 162 3 (rowsA [])) l.length 0) (LeL.at [_,_,_,_,_] _ (Zfj rfl)) (Zbg _) ?_;exact W.rounds (wrEA (Q:=fun e s=>K e s.tm s.hp s.b) l hl hK)
theorem CFm9 (l:List AskT):wpFn prog ⟨[], [],wlEA,y,false⟩ 100 f117 [.d (.sl 3 (rowsA l)), .fn (.func 118) [] []] b R=(∃(l0:List AskT),Zaq lpEA=Zaq lpEA∧(Zab::Zav (Fn.func 118) [] []::bds 3 (Zad (Zdk (.slice none 0 0))::Zab::Zab::Zad (Zaj 3 (rowsA l))::Zad (i64 ((Zaa (rowsA l):Nat):Int))::Zad (i64 0)::bds 11 []))=(Zab::Zav (Fn.func 118) [] []::bds 3 (Zad (Zdk (.slice none 0 0))::Zab::Zab::Zad (Zaj 3 (rowsA l0))::Zad (i64 ((Zaa (rowsA l0):Nat):Int))::Zad (i64 0)::bds 11 []))∧([]:List Blk)= []∧Zaa l0<1000000∧∀(i:Int),R (.d (Zaj 3 (rowsA l0))) b):=by kernel_rfl
def cEA:CF:=fun args K=>∃l:List AskT,args= [.d (.sl 3 (rowsA l)), .fn (.func 118) [] []]∧l.length<1000000∧K (.d (.sl 3 (rowsA l)))
theorem CJp9:COk 117 cEA:=by
 rintro _ K ⟨l,rfl,hl,hk⟩;refine ⟨_, ?_,hk⟩;refine pcL @wlEA Zai CCb9 func117 fun Ev bb=> ?_;rw [CFm9];exact ⟨l,rfl,rfl,rfl,hl,fun i=> .base LeA.rfl⟩
open Go.Maps (Keyed)
variable {β:Type} (wl:WLT β) (y:ADo9 β) (b:β) (R:AV→β→Prop) (K:Exit→List AV→List Blk→β→Prop) (Q:β→Prop)
abbrev Cnt:=List (Int×Int)
def getC (k:Int) (ts:Cnt):Int:=((ts.find? fun p=>p.1==k).map (·.2)).getD 0
def hasC (k:Int) (ts:Cnt):Bool:=ts.any fun p=>p.1==k
def insC (h:Int×Int):Cnt→Cnt
 | []=> [h]
 |x::r=>if h.1<x.1 then h::x::r else x::insC h r
def putC (h:Int×Int) (ts:Cnt):Cnt:=insC h (ts.filter fun x=> !(x.1==h.1))
def entC (ts:Cnt):MC:=ts.map fun h=>(Lit.int .i64 h.1,Zad (i64 h.2))
abbrev CntG:=Option (Nat×Cnt)
def cnF:CntG→List MapC
 |none=> []
 |some (d,ts)=> [⟨d,3,entC ts⟩]
structure NoG (g:CntG):Prop where
 e:g=none
def mapA (d:Nat):AV:= .d (.s (.map (some d)))
def recA (r:Nat):AV:= .d (.s (.pointer (some ⟨r,0,none⟩)))
structure InI (k:Int):Prop where
 lo: -9223372036854775808≤k
 hi:k≤9223372036854775807
theorem ADy9 (a k:Int):(Lit.int .i64 a).sameKey (Lit.int .i64 k)=(a==k):=by
 by_cases h:a=k<;>simp [Lit.sameKey,h]
theorem BHh9 (k:Int) (ts:Cnt):atK (Lit.int .i64 k) (.d (i64 0)) (entC ts)= .d (i64 (getC k ts)):=by
 induction ts with
 |nil=>rfl
 | cons h t ih=>
  simp only [atK,entC,getC,Zdy,List.find?_cons,ADy9] at ih ⊢;cases h.1==k
  ·exact ih
  ·rfl
theorem BHg9 (k:Int) (ts:Cnt):hasK (Lit.int .i64 k) (entC ts)=hasC k ts:=by
 simp [hasK,entC,hasC,List.any_map,Function.comp_def,ADy9]
theorem BXq9 (k:Int) (ts:Cnt):delK (Lit.int .i64 k) (entC ts)=entC (ts.filter fun x=> !(x.1==k)):=by
 simp only [delK,entC,List.filter_map];congr 1;apply List.filter_congr;intro x _;simp only [Function.comp,ADy9]
theorem BXp9 (h:Int×Int) (ts:Cnt):insK (Lit.int .i64 h.1, .d (i64 h.2)) (entC ts)=entC (insC h ts):=by
 induction ts with
 |nil=>rfl
 | cons x t ih=>
  simp only [entC,Zdy,insK,insC,Lit.before] at ih ⊢;by_cases hx:h.1<x.1
  ·simp [hx]
  ·simp [hx,ih]
theorem BXo9 (h:Int×Int) (ts:Cnt):putK (Lit.int .i64 h.1) (.d (i64 h.2)) (entC ts)=entC (putC h ts):=by
 rw [putK,BXq9,BXp9];rfl
theorem BMf9:Tryz.prog.underlying 3=some (.int .i64):=by kernel_rfl
theorem AUx9:Keyed prog 3:=Go.Maps.int_keyed (q:= .i64) BMf9
theorem AUk9:Tryz.prog.underlying 154=some (.map 3 3):=by kernel_rfl
theorem key3 {k:Int} (h:InI k):keyOf prog 3 (.int .i64 k)=some (.int .i64 k):=Go.Maps.keyOf_int_mk BMf9 (by obtain ⟨h1,h2⟩:=h;simp [Lit.wf,IntKind.min,IntKind.max,IntKind.signed,IntKind.bits];omega)
theorem zero3 (w:World):(zeroValue 3).run prog w= .ok (.int .i64 0) w:=by rfl
theorem ATr9 (S:Pr) (w:World):RV S w [] none (.d (i64 0)) (.int .i64 0):= .d (.s _)
theorem inv3:∀key kl,keyOf prog 3 key=some kl→∃n,kl= .int .i64 n∧key= .int .i64 n:=by
 intro key kl h;rw [Go.keyOf_int BMf9] at h;unfold mapKey at h;rw [BMf9] at h;cases key<;>simp_all
def MCT (γ:Type):=List (Nat×(List AV→γ→(AV→γ→Prop)→Prop))
noncomputable def cnM (I:CT) (C:MCT CntG):MHook CntG:=fun o s g K=>match o.op with
 | .makeMap t none=>some (NoG g∧t=154∧∀d,K {tm:=putA s.tm o.dst (mapA d),hp:=s.hp,pv:=pvPut s.pv o.dst} (some (d, [])))
 | .lookup t m x false=>some (t=154∧∃(d:Nat) (ts:Cnt) (k v:Int),g=some (d,ts)∧evalA s.tm m=mapA d∧evalA s.tm x= .d (i64 k)∧InI k∧v=getC k ts∧
  K {tm:=putA s.tm o.dst (.d (i64 v)),hp:=s.hp,pv:=pvPut s.pv o.dst} g)
 | .mapUpdate t m x v=>some (t=154∧∃(d:Nat) (ts ts':Cnt) (k n:Int),g=some (d,ts)∧evalA s.tm m=mapA d∧evalA s.tm x= .d (i64 k)∧evalA s.tm v= .d (i64 n)∧InI k∧ts.length<1000000∧ts'=putC (k,n) ts∧
  K {tm:=putA s.tm o.dst (.d (.s undef)),hp:=s.hp,pv:=pvPut s.pv o.dst} (some (d,ts')))
 | .call c=>match c.callee with
  | .value _=>match AHv9 s.tm o with
   | some (k,args)=>match C.lookup k with
    |some f=>some (ABq9 args=true∧f args g fun x g'=>K {tm:=putA s.tm o.dst x.view,hp:=s.hp,pv:=pvPut s.pv o.dst} g')
    |none=>none
   |none=>none
  | .invoke _ _=>invH prog I o s g K
  |_=>none
 |_=>none
def MCTok (C:MCT CntG):Prop:=∀k f,C.lookup k=some f→∀args g K,f args g K→∃R,MCall prog cnF k args g R∧∀x g',R x g'→K x g'
theorem MCTok.nil:MCTok []:=fun _ _ h=>by cases h
theorem BRt9 {d:Nat} {ts:Cnt}:(⟨d,3,entC ts⟩:MapC)∈cnF (some (d,ts)):=by simp [cnF]
theorem CFs9 {I:CT} {C:MCT CntG} (hI:AAb9 prog I) (hC:MCTok C) (N:Nat) (w0:World) (lent:List Nat):MOk (Zfz prog none N w0 lent cnF) (cnM I C):=by
 intro o s g K p hp h;unfold cnM at hp;split at hp
 ·rename_i t ho;cases hp;obtain ⟨⟨rfl⟩,rfl,hk⟩:=h;refine ⟨_,ANy9 (g:=none) (mk:=fun d=>some (d, [])) (k:=3) ho (fun d=>rfl), ?_⟩;rintro s' b' ⟨d,rfl,rfl⟩;exact hk d
 ·rename_i t m x ho;cases hp;obtain ⟨rfl,d,ts,k,_,rfl,hm,hx,hi,rfl,hk⟩:=h;refine ⟨_,ASm9 (g:=some (d,ts)) (c:=⟨d,3,entC ts⟩) (z:= .d (i64 0)) ho BRt9 hm (key:= .int .i64 k) (by rw [hx];rfl) AUx9 AUk9 (key3 hi) zero3 ATr9 (by rfl), ?_⟩;rintro s' b' ⟨rfl,rfl⟩;simp only [Bool.false_eq_true,if_false,BHh9] at hk ⊢;exact hk
 ·rename_i t m x v ho;cases hp;obtain ⟨rfl,d,ts,_,k,n,rfl,hm,hx,hv,hi,hl,rfl,hk⟩:=h;refine ⟨_,AKj9 (g:=some (d,ts)) (g':=some (d,putC (k,n) ts)) (l1:= []) (l2:= []) (c:=⟨d,3,entC ts⟩) ho rfl hm (key:= .int .i64 k) (by rw [hx];rfl) AUx9 AUk9 (key3 hi) (by simp [entC,maxLen];omega) (by rw [hv];rfl) ?_, ?_⟩
  ·rw [hv];simp only [cnF,List.nil_append];rw [show (Zad (i64 n)).view=Zad (i64 n) from rfl];have:=BXo9 (k,n) ts;simp only at this;rw [this]
  ·rintro s' b' ⟨rfl,rfl⟩;exact hk
 ·rename_i c ho;split at hp
  ·rename_i fo hc;split at hp
   ·rename_i k args hcall;split at hp
    ·rename_i f hf;cases hp;obtain ⟨hcl,h⟩:=h;obtain ⟨R,h1,h2⟩:=hC k f hf args g _ h;refine ⟨_,BNf9 (g:=g) (g0:=g) (up:=id) (f':=cnF) (l1:= []) (l2:= []) hcall hcl (by simp) (by simp) h1, ?_⟩;rintro s' b' ⟨x,g1,hR,rfl,he⟩;cases he;exact h2 x _ hR
    ·cases hp
   ·cases hp
  ·exact BRl9 hI o s g K p hp h
  ·cases hp
 ·cases hp
noncomputable def cnR (I:CT) (C:MCT CntG):MHook (CntG×Option AFz9):=fun o s b K=>match b with
 | (g,none)=>match o.op with
  | .range t mo=>some (t=154∧∃(d:Nat) (ts:Cnt),g=some (d,ts)∧evalA s.tm mo=mapA d∧∀r,K {tm:=putA s.tm o.dst (recA r),hp:=s.hp,pv:=pvPut s.pv o.dst} (some (d,ts),some ⟨d,r,3,entC ts,fun kl=>hasK kl (entC ts),(entC ts).length,none⟩))
  |_=>cnM I C o s g fun s' g'=>K s' (g',none)
 | (g,some c)=>match o.op with
  | .next io false=>some (∃(d:Nat) (ts:Cnt),g=some (d,ts)∧c.k=3∧c.es=entC ts∧evalA s.tm io=recA c.r∧((∀kl,c.left kl=false)→K {tm:=putA s.tm o.dst (.tup [.d (bo false)]),hp:=s.hp,pv:=pvPut s.pv o.dst} (g,some c))∧
   ∀n cnt',c.left (.int .i64 n)=true→hasC n ts=true→cnt'<c.cnt→K {tm:=putA s.tm o.dst (.tup [.d (bo true), .d (i64 n), .d (i64 (getC n ts))]),hp:=s.hp,pv:=pvPut s.pv o.dst} (g,some {c with left:=fun x=>c.left x&& !x.sameKey (.int .i64 n),cnt:=cnt',cur:=some (.int .i64 n)}))
  | .entry io=>some (∃(d:Nat) (ts:Cnt) (n:Int),g=some (d,ts)∧c.k=3∧c.es=entC ts∧evalA s.tm io=recA c.r∧c.cur=some (.int .i64 n)∧K {tm:=putA s.tm o.dst (.tup [.d (i64 n), .d (i64 (getC n ts))]),hp:=s.hp,pv:=pvPut s.pv o.dst} (g,some c))
  |_=>none
theorem CJk9 {I:CT} {C:MCT CntG} (hI:AAb9 prog I) (hC:MCTok C) (N:Nat) (w0:World) (lent:List Nat):MOk (Env.rngd prog none N w0 lent cnF) (cnR I C):=by
 intro o s b K p hp h;obtain ⟨g,q⟩:=b;cases q with
 | none=>
  unfold cnR at hp;simp only at hp;split at hp
  ·rename_i t mo ho;cases hp;obtain ⟨rfl,d,ts,rfl,hm,hk⟩:=h;refine ⟨_,BMx9 (g:=some (d,ts)) (c:=⟨d,3,entC ts⟩) ho BRt9 hm AUx9 AUk9, ?_⟩;rintro s' b' ⟨r,rfl,rfl⟩;exact hk r
  ·obtain ⟨T,h1,h2⟩:=CFs9 hI hC N w0 lent o s g _ p hp h;refine ⟨_,h1.lift, ?_⟩;rintro s' ⟨g',q'⟩ ⟨rfl,hT⟩;exact h2 s' g' hT
 | some c=>
  unfold cnR at hp;simp only at hp;split at hp
  ·rename_i io ho;cases hp;obtain ⟨d,ts,rfl,hk3,hes,hm,h1,h2⟩:=h;refine ⟨_,BWc9 (g:=some (d,ts)) (c:=c) (z:= .d (i64 0)) ho hm (by rw [hk3];exact AUx9) (by rw [hk3];exact inv3) ATr9, ?_⟩;rintro s' b' (⟨rfl,rfl,hl⟩|⟨n,cnt',hl,hh,hc,rfl,rfl⟩)
   ·exact h1 hl
   ·rw [show atK (Lit.int .i64 n) (.d (i64 0)) c.es= .d (i64 (getC n ts)) by rw [hes,BHh9]];rw [hes,BHg9] at hh;exact h2 n cnt' hl hh hc
  ·rename_i io ho;cases hp;obtain ⟨d,ts,n,rfl,hk3,hes,hm,hcur,h1⟩:=h;refine ⟨_,BOh9 (g:=some (d,ts)) (c:=c) (z:= .d (i64 0)) ho hm (by rw [hk3];exact AUx9) (by rw [hk3];exact inv3) hcur ATr9, ?_⟩;rintro s' b' ⟨rfl,rfl⟩;rw [hes,BHh9];exact h1
  ·cases hp
def cNone (args:List AV) (K:AV→Prop):Prop:=False
theorem ABw9 (n:Nat):∀args K,cNone args K→∃x,PCall prog n args x∧K x:=fun args K h=>by cases h
def TSo:CT:= [(4000005,cNone),(4000007,cNone),(4000008,cNone)]
theorem BCf9:AAb9 prog TSo:=Zag (ABw9 _) (Zag (ABw9 _) (Zag (ABw9 _) Zai))
def IVa:CT:= [(171,ATb9),(168,ATf9),(173,BSu9),(170,BPu9),(167,BPv9),(172,BSt9)]
theorem ATn9:AAb9 prog IVa:=Zag BHy9 (Zag BJc9 (Zag BKi9 (Zag AQd9 (Zag AQe9 (Zag BKg9 Zai)))))
noncomputable def wlCn (T:CT) (I:CT) (C:MCT CntG):WLT CntG:=wlM prog ⟨T, [],fun _ _ _ _ _=>False,fun _ _ _=>False,false⟩ (cnM I C) fun _ _ _ _ _=>False
theorem CCe9 {T I:CT} {C:MCT CntG} (hT:AAb9 prog T) (hI:AAb9 prog I) (hC:MCTok C) (lent:List Nat) (N:Nat) (w0:World):
 ∀c tm hp b K,wlCn T I C c tm hp b K→W (Zfz prog none N w0 lent cnF) c ⟨tm,hp,b⟩ (fun e s=>K e s.tm s.hp s.b):=
 BUf9 (Ev:=Zfz prog none N w0 lent cnF) mixed (CX.Ok.ofWl (Ev:=Zfz prog none N w0 lent cnF) hT Zar fun _ _ _ _ _ h=>h.elim) (CFs9 hI hC N w0 lent) fun _ _ _ _ _ h=>h.elim
noncomputable def lpSU:Code:=sub [1,1,0,1,2,3] (code f112)
noncomputable def lpSG:Code:=sub [1,1,0,1,2,3] (code f114)
noncomputable def lpSA:Code:=sub [1,1,0,1,2,3] (code f116)
def tmSo (k:Nat) (xs:List (List Dv)) (d:Nat) (last n i:Int):List AV:= [.bad, .bad,mapA d, .bad, .ptr 0 0, .bad, .d (bo false), .d (i64 last), .bad, .bad, .d (.sl k xs), .d (i64 n), .d (i64 i)]++Zam 25 .bad
section
variable (y:ADo9 CntG) (K:Exit→List AV→List Blk→CntG→Prop)
abbrev Qz37 (v0:Nat) (v1:Int) (v2:List UseT) (v3:Int) (v4:Int):=Zab::Zab::Zad (Zdk (Zbo (some v0)))::Zab::Zae 0 0::Zab::Zad (bo false)::Zad (i64 v1)::Zab::Zab::Zad (Zaj 4 (rowsU v2))::Zad (i64 v3)::Zad (i64 v4)::bds 25 []
theorem rSU (us:List UseT) (d:Nat) (ts:Cnt) (l:LayT) (last n i:Int):wpc prog ⟨TSo, [],wlCn TSo IVa [],y,false⟩ 100 lpSU (tmSo 4 (rowsU us) d last n i) [layB l] (some (d,ts)) (maskK 1 [2,4,6,7,10,11,12] K)=(BIf (decide (i<n)) (BIf (true&&decide (0≤i)) (∃(x0:Int) (x1:Int) (x2:Int) (x3:Int),(rowsU us)[Zak i]? =some [i64 x0,i64 x1,i64 x2,i64 x3]∧true=true∧∃(u6:UseT) (l7:LayT) (z8:Bool), [Zan (Qz30 x0 x1 x2 x3),Zan (Qz3 l)]= [Zan (Qz6 u6),Zan (Qz3 l7)]∧z8=useOk u6 l7∧BIf (!z8) (K .ret (Qz37 d last us n i) [bk (Qz3 l)] (some (d,ts))) (true=true∧∃(u9:UseT), [Zan (Qz30 x0 x1 x2 x3)]= [Zan (Qz6 u9)]∧BIf (decide (Zdl u9≤last)) (K .ret (Qz37 d last us n i) [bk (Qz3 l)] (some (d,ts))) (true=true∧∃(u10:UseT), [Zan (Qz30 x0 x1 x2 x3)]= [Zan (Qz6 u10)]∧154=154∧∃(d11:Nat) (ts12:Cnt) (k13:Int) (v14:Int),some (d,ts)=some (d11,ts12)∧Zad (Zdk (Zbo (some d)))=Zad (Zdk (Zbo (some d11)))∧Zad (i64 (Zdl u10))=Zad (i64 k13)∧InI k13∧v14=getC k13 ts12∧154=154∧∃(d15:Nat) (ts16:Cnt) (ts17:Cnt) (k18:Int) (n19:Int),some (d,ts)=some (d15,ts16)∧Zad (Zdk (Zbo (some d)))=Zad (Zdk (Zbo (some d15)))∧Zad (i64 (Zdl u10))=Zad (i64 k18)∧Zad (i64 (Zac .i64 (v14+1)))=Zad (i64 n19)∧InI k18∧Zaa ts16<1000000∧ts17=putC (k18,n19) ts16∧K .normal (Zab::Zab::Zad (Zdk (Zbo (some d)))::Zab::Zae 0 0::Zab::Zad (bo false)::Zad (i64 (Zdl u10))::Zab::Zab::Zad (Zaj 4 (rowsU us))::Zad (i64 n)::Zad (i64 (Zac .i64 (i+1)))::bds 25 []) [bk (Qz3 l)] (some (d15,ts17))))) False) (K (Zba 0) (Qz37 d last us n i) [bk (Qz3 l)] (some (d,ts)))):=by kernel_rfl
abbrev Qz38 (v0:Nat) (v1:Int) (v2:List GraT) (v3:Int) (v4:Int):=Zab::Zab::Zad (Zdk (Zbo (some v0)))::Zab::Zae 0 0::Zab::Zad (bo false)::Zad (i64 v1)::Zab::Zab::Zad (Zaj 5 (rowsG v2))::Zad (i64 v3)::Zad (i64 v4)::bds 25 []
theorem rSG (us:List GraT) (d:Nat) (ts:Cnt) (l:LayT) (last n i:Int):wpc prog ⟨TSo, [],wlCn TSo IVa [],y,false⟩ 100 lpSG (tmSo 5 (rowsG us) d last n i) [layB l] (some (d,ts)) (maskK 1 [2,4,6,7,10,11,12] K)=(BIf (decide (i<n)) (BIf (true&&decide (0≤i)) (∃(x0:Int) (x1:Int) (x2:Int) (x3:Int) (x4:Int),(rowsG us)[Zak i]? =some (Qz27 x0 x1 x2 x3 x4)∧true=true∧∃(u7:GraT) (l8:LayT) (z9:Bool), [Zan (Qz15 x0 x1 x2 x3 x4),Zan (Qz3 l)]= [Zan (Qz5 u7),Zan (Qz3 l8)]∧z9=graOk u7 l8∧BIf (!z9) (K .ret (Qz38 d last us n i) [bk (Qz3 l)] (some (d,ts))) (true=true∧∃(u10:GraT), [Zan (Qz15 x0 x1 x2 x3 x4)]= [Zan (Qz5 u10)]∧BIf (decide (Zds u10≤last)) (K .ret (Qz38 d last us n i) [bk (Qz3 l)] (some (d,ts))) (true=true∧∃(u11:GraT), [Zan (Qz15 x0 x1 x2 x3 x4)]= [Zan (Qz5 u11)]∧154=154∧∃(d12:Nat) (ts13:Cnt) (k14:Int) (v15:Int),some (d,ts)=some (d12,ts13)∧Zad (Zdk (Zbo (some d)))=Zad (Zdk (Zbo (some d12)))∧Zad (i64 (Zds u11))=Zad (i64 k14)∧InI k14∧v15=getC k14 ts13∧154=154∧∃(d16:Nat) (ts17:Cnt) (ts18:Cnt) (k19:Int) (n20:Int),some (d,ts)=some (d16,ts17)∧Zad (Zdk (Zbo (some d)))=Zad (Zdk (Zbo (some d16)))∧Zad (i64 (Zds u11))=Zad (i64 k19)∧Zad (i64 (Zac .i64 (v15+1)))=Zad (i64 n20)∧InI k19∧Zaa ts17<1000000∧ts18=putC (k19,n20) ts17∧K .normal (Zab::Zab::Zad (Zdk (Zbo (some d)))::Zab::Zae 0 0::Zab::Zad (bo false)::Zad (i64 (Zds u11))::Zab::Zab::Zad (Zaj 5 (rowsG us))::Zad (i64 n)::Zad (i64 (Zac .i64 (i+1)))::bds 25 []) [bk (Qz3 l)] (some (d16,ts18))))) False) (K (Zba 0) (Qz38 d last us n i) [bk (Qz3 l)] (some (d,ts)))):=by kernel_rfl
abbrev Qz39 (v0:Nat) (v1:Int) (v2:List AskT) (v3:Int) (v4:Int):=Zab::Zab::Zad (Zdk (Zbo (some v0)))::Zab::Zae 0 0::Zab::Zad (bo false)::Zad (i64 v1)::Zab::Zab::Zad (Zaj 3 (rowsA v2))::Zad (i64 v3)::Zad (i64 v4)::bds 25 []
theorem rSA (us:List AskT) (d:Nat) (ts:Cnt) (l:LayT) (last n i:Int):wpc prog ⟨TSo, [],wlCn TSo IVa [],y,false⟩ 100 lpSA (tmSo 3 (rowsA us) d last n i) [layB l] (some (d,ts)) (maskK 1 [2,4,6,7,10,11,12] K)=(BIf (decide (i<n)) (BIf (true&&decide (0≤i)) (∃(x0:Int) (x1:Int) (x2:Int),(rowsA us)[Zak i]? =some [i64 x0,i64 x1,i64 x2]∧true=true∧∃(u5:AskT) (l6:LayT) (z7:Bool), [Zan (Qz22 x0 x1 x2),Zan (Qz3 l)]= [Zan (Qz11 u5),Zan (Qz3 l6)]∧z7=askOk u5 l6∧BIf (!z7) (K .ret (Qz39 d last us n i) [bk (Qz3 l)] (some (d,ts))) (true=true∧∃(u8:AskT), [Zan (Qz22 x0 x1 x2)]= [Zan (Qz11 u8)]∧BIf (decide (Zde u8≤last)) (K .ret (Qz39 d last us n i) [bk (Qz3 l)] (some (d,ts))) (true=true∧∃(u9:AskT), [Zan (Qz22 x0 x1 x2)]= [Zan (Qz11 u9)]∧154=154∧∃(d10:Nat) (ts11:Cnt) (k12:Int) (v13:Int),some (d,ts)=some (d10,ts11)∧Zad (Zdk (Zbo (some d)))=Zad (Zdk (Zbo (some d10)))∧Zad (i64 (Zde u9))=Zad (i64 k12)∧InI k12∧v13=getC k12 ts11∧154=154∧∃(d14:Nat) (ts15:Cnt) (ts16:Cnt) (k17:Int) (n18:Int),some (d,ts)=some (d14,ts15)∧Zad (Zdk (Zbo (some d)))=Zad (Zdk (Zbo (some d14)))∧Zad (i64 (Zde u9))=Zad (i64 k17)∧Zad (i64 (Zac .i64 (v13+1)))=Zad (i64 n18)∧InI k17∧Zaa ts15<1000000∧ts16=putC (k17,n18) ts15∧K .normal (Zab::Zab::Zad (Zdk (Zbo (some d)))::Zab::Zae 0 0::Zab::Zad (bo false)::Zad (i64 (Zde u9))::Zab::Zab::Zad (Zaj 3 (rowsA us))::Zad (i64 n)::Zad (i64 (Zac .i64 (i+1)))::bds 25 []) [bk (Qz3 l)] (some (d14,ts16))))) False) (K (Zba 0) (Qz39 d last us n i) [bk (Qz3 l)] (some (d,ts)))):=by kernel_rfl
end
def incC (k:Int) (ts:Cnt):Cnt:=putC (k,Zac Zbb (getC k ts+1)) ts
def ABg9 {α:Type} (ok:α→Bool) (sl:α→Int):Int→List α→Cnt→Bool×Cnt
 |_, [],ts=>(true,ts)
 |last,x::r,ts=>if (!ok x)=true then (false,ts) else if sl x≤last then (false,ts) else ABg9 ok sl (sl x) r (incC (sl x) ts)
theorem BWr9 (h:Int×Int) (l:Cnt):(insC h l).length=l.length+1:=by
 induction l with
 |nil=>rfl
 |cons x r ih=>simp only [insC];split<;>simp [ih]
theorem APn9 (k:Int) (ts:Cnt):(incC k ts).length≤ts.length+1:=by
 rw [incC,putC,BWr9];exact Nat.succ_le_succ (List.length_filter_le _ _)
theorem ALq9 {α:Type} (ok:α→Bool) (sl:α→Int):∀(last:Int) (r:List α) (ts:Cnt),(ABg9 ok sl last r ts).2.length≤ts.length+r.length
 |_, [],ts=>by simp [ABg9]
 | last,x::r,ts=>by
  have:=ALq9 ok sl (sl x) r (incC (sl x) ts);have h2:=APn9 (sl x) ts;unfold ABg9;repeat' split
  all_goals simp only [Zfr];omega
theorem BHi9 {α:Type} {l rest:List α} {x:α} {i:Nat} (hd:l.drop i=x::rest):l[i]? =some x∧l.drop (i+1)=rest∧i<l.length:=by
 have h1:l[i]? =some x:=by
  have:=congrArg (fun l=>l[0]?) hd;simpa using this
 refine ⟨h1, ?_,(Zaf.1 h1).1⟩;have:=congrArg List.tail hd;simpa using this
abbrev EvC (N:Nat) (w0:World) (lent:List Nat):Env prog:=Zfz prog none N w0 lent cnF
theorem BBf9 {T I:CT} {C:MCT CntG} (hT:AAb9 prog T) (hI:AAb9 prog I) (hC:MCTok C) (lent:List Nat) (N:Nat) (w0:World):CX.Ok (EvC N w0 lent) ⟨T, [],wlCn T I C,fun _ _ _=>False,false⟩:=
 CX.Ok.ofWl (Ev:=EvC N w0 lent) hT Zar (CCe9 hT hI hC lent N w0)
theorem AMa9 {sl of pe:Int} {l:LayT} (h:ABc9 sl of pe l=true) (hd:l.da≤60):InI sl:=by
 simp only [ABc9,Zal,decide_eq_true_eq] at h;exact ⟨by omega,by omega⟩
def ABy9 (l:LayT) (us:List UseT) (ts:Cnt):Bool×Cnt:=ABg9 (fun x:UseT=>useOk x l) (fun x=>x.sl) (-1) us ts
theorem wrSU {N:Nat} {w0:World} {lent:List Nat} {Q:Exit→St CntG→Prop} (us:List UseT) (d:Nat) (l:LayT) (hd:l.da≤60) (hl:us.length<100000):∀(rest:List UseT) (i:Nat) (last:Int) (ts:Cnt),us.drop i=rest→ts.length+rest.length<1000000→
 ((ABg9 (fun x:UseT=>useOk x l) (fun x=>x.sl) last rest ts).1=true→∀last':Int,Q (.exit 0) ⟨tmSo 4 (rowsU us) d last' us.length us.length, [layB l],some (d,(ABg9 (fun x:UseT=>useOk x l) (fun x=>x.sl) last rest ts).2)⟩)→
 ((ABg9 (fun x:UseT=>useOk x l) (fun x=>x.sl) last rest ts).1=false→∀last' i':Int,Q .ret ⟨tmSo 4 (rowsU us) d last' us.length i', [layB l],some (d,(ABg9 (fun x:UseT=>useOk x l) (fun x=>x.sl) last rest ts).2)⟩)→
 i≤us.length→WR (EvC N w0 lent) lpSU (rest.length+1) ⟨tmSo 4 (rowsU us) d last us.length i, [layB l],some (d,ts)⟩ Q
 | [],i,last,ts,hdr,hlen,h1,h2,hi=>by
  refine Zdr [2,4,6,7,10,11,12] mixed (BBf9 BCf9 ATn9 MCTok.nil lent N w0) (k:=100) ?_;refine Eq.mpr (rSU _ _ us d ts l last us.length i) ?_;have:=List.drop_eq_nil_iff.1 hdr;obtain rfl:i=us.length:=by omega
  exact Zci (by simp) (h1 rfl last)
 | x::rest,i,last,ts,hdr,hlen,h1,h2,hi=>by
  refine Zdr [2,4,6,7,10,11,12] mixed (BBf9 BCf9 ATn9 MCTok.nil lent N w0) (k:=100) ?_;refine Eq.mpr (rSU _ _ us d ts l last us.length i) ?_;obtain ⟨hx,hdr',hi'⟩:=BHi9 hdr;rw [ABl9 hx];simp only [Zfr] at hlen;refine Zas (by simp;omega) (Zas (natI i) ⟨_,_,_,_,rfl,rfl,x,l,_,rfl,rfl,Zax (fun g1=> ?_) fun g1=>⟨rfl,x,rfl,Zax (fun g2=> ?_) fun g2=> ?_⟩⟩)
  ·have e:ABg9 (fun x:UseT=>useOk x l) (fun x=>x.sl) last (x::rest) ts=(false,ts):=by rw [ABg9,if_pos g1]
   rw [e] at h2;exact h2 rfl _ _
  ·have g2:=of_decide_eq_true g2;have e:ABg9 (fun x:UseT=>useOk x l) (fun x=>x.sl) last (x::rest) ts=(false,ts):=by rw [ABg9,if_neg (by rw [g1];decide),if_pos g2]
   rw [e] at h2;exact h2 rfl _ _
  ·have g2:=of_decide_eq_false g2;have h:useOk x l=true:=by simpa using g1
   have hI:InI x.sl:=AMa9 (by simp only [useOk,Zal] at h;exact h.1) hd;have e:ABg9 (fun x:UseT=>useOk x l) (fun x=>x.sl) last (x::rest) ts=ABg9 (fun x:UseT=>useOk x l) (fun x=>x.sl) x.sl rest (incC x.sl ts):=by rw [ABg9,if_neg (by rw [g1];decide),if_neg g2]
   rw [e] at h1 h2;refine ⟨rfl,x,rfl,rfl,d,ts,x.sl,_,rfl,rfl,rfl,hI,rfl,rfl,d,ts,_,x.sl,_,rfl,rfl,rfl,rfl,hI,by omega,rfl, ?_⟩;rw [wrapN (by omega)];have:=APn9 x.sl ts;exact wrSU us d l hd hl rest (i+1) x.sl (incC x.sl ts) hdr' (by omega) h1 h2 (by omega)
noncomputable def wlSU (T:CT):WLT CntG:=fun cd tm hp b K=>∃(us:List UseT) (d:Nat) (l:LayT) (ts ts':Cnt) (q:Bool),cd= .loop lpSU∧AAn9 [2,4,6,7,10,11,12] 0 tm=tmSo 4 (rowsU us) d (-1) (rowsU us).length 0∧hp= [layB l]∧b=some (d,ts)∧(l.da≤60∧us.length<100000∧ts.length<100000∧q=(ABy9 l us ts).1∧ts'=(ABy9 l us ts).2)∧
 BIf q (∀last':Int,K (.exit 0) (tmSo 4 (rowsU us) d last' us.length us.length) [layB l] (some (d,ts'))) (∀last' i':Int,K .ret (tmSo 4 (rowsU us) d last' us.length i') [layB l] (some (d,ts')))
theorem CBf9 {T:CT} (lent:List Nat) (N:Nat) (w0:World) (c:Code) (tm:List AV) (hp:List Blk) (b:CntG) (K:Exit→List AV→List Blk→CntG→Prop) (h:wlSU T c tm hp b K):W (EvC N w0 lent) c ⟨tm,hp,b⟩ (fun e s=>K e s.tm s.hp s.b):=by
 obtain ⟨us,d,l,ts,ts',q,rfl,htm,rfl,rfl,⟨hd,hl,ht,hq,rfl⟩,hK⟩:=h;rw [AAe9] at htm;refine W.cast (htm▸AAc9 _ tm 0) (Zbg _) ?_;refine W.rounds (wrSU (N:=N) (w0:=w0) (lent:=lent) (Q:=fun e s=>K e s.tm s.hp s.b) us d l hd hl us 0 (-1) ts rfl (by omega) (fun h=> ?_) (fun h=> ?_) (Nat.zero_le _))
 ·rw [hq,show (ABy9 l us ts).1=true from h] at hK;exact hK
 ·rw [hq,show (ABy9 l us ts).1=false from h] at hK;exact hK
section
variable (y:ADo9 CntG) (R:AV→CntG→Prop)
theorem BMn9 (us:List UseT) (d:Nat) (ts:Cnt) (l:LayT):wpFn prog ⟨[], [],wlSU [],y,false⟩ 100 f112 [.d (.sl 4 (rowsU us)),layA l,mapA d] (some (d,ts)) R=(∃(us0:List UseT) (d1:Nat) (l2:LayT) (ts3:Cnt) (ts4:Cnt) (q5:Bool),Zaq lpSU=Zaq lpSU∧(Zab::Zab::Zad (Zdk (Zbo (some d)))::Zab::Zae 0 0::Zab::Zad (bo false)::Zad (i64 (-1))::Zab::Zab::Zad (Zaj 4 (rowsU us))::Zad (i64 ((Zaa (rowsU us):Nat):Int))::Zad (i64 0)::bds 25 [])=(Zab::Zab::Zad (Zdk (Zbo (some d1)))::Zab::Zae 0 0::Zab::Zad (bo false)::Zad (i64 (-1))::Zab::Zab::Zad (Zaj 4 (rowsU us0))::Zad (i64 ((Zaa (rowsU us0):Nat):Int))::Zad (i64 0)::bds 25 [])∧ [bk (Qz3 l)]= [bk (Qz3 l2)]∧some (d,ts)=some (d1,ts3)∧(Zbr l2≤(60:Int)∧Zaa us0<100000∧Zaa ts3<100000∧q5=Prod.fst (ABy9 l2 us0 ts3)∧ts4=Prod.snd (ABy9 l2 us0 ts3))∧BIf q5 (∀(last':Int),R (.d (bo true)) (some (d1,ts4))) (∀(last' i':Int),R (.d (bo false)) (some (d1,ts4)))):=by kernel_rfl
end
theorem BWg9 (us:List UseT) (d:Nat) (ts:Cnt) (l:LayT) (hd:l.da≤60) (hl:us.length<100000) (ht:ts.length<100000):
 MCall prog cnF 112 [.d (.sl 4 (rowsU us)),layA l,mapA d] (some (d,ts)) fun x g=>x= .d (bo (ABy9 l us ts).1)∧g=some (d,(ABy9 l us ts).2):=by
 refine MCall.ofFn (n:=100) (u:=false) (wlSU []) mixed Zai Zar (fun N w0=>CBf9 _ N w0) func112 (by rfl) (by rfl) ?_;rw [BMn9];exact ⟨us,d,l,ts,_,_,rfl,rfl,rfl,rfl,⟨hd,hl,ht,rfl,rfl⟩,Zax (fun h last'=>⟨by rw [h],rfl⟩) fun h last' i'=>⟨by rw [h],rfl⟩⟩
def BRu9 (args:List AV) (g:CntG) (K:AV→CntG→Prop):Prop:=∃(us:List UseT) (d:Nat) (ts ts':Cnt) (l:LayT) (q:Bool),args= [.d (.sl 4 (rowsU us)),layA l,mapA d]∧g=some (d,ts)∧(l.da≤60∧us.length<100000∧ts.length<100000∧q=(ABy9 l us ts).1∧ts'=(ABy9 l us ts).2)∧K (.d (bo q)) (some (d,ts'))
theorem BIc9:∀args g K,BRu9 args g K→∃R,MCall prog cnF 112 args g R∧∀x g',R x g'→K x g':=by
 rintro _ _ K ⟨us,d,ts,_,l,_,rfl,rfl,⟨hd,hl,ht,rfl,rfl⟩,hk⟩;refine ⟨_,BWg9 us d ts l hd hl ht, ?_⟩;rintro x g' ⟨rfl,rfl⟩;exact hk
def ADb9 (l:LayT) (us:List GraT) (ts:Cnt):Bool×Cnt:=ABg9 (fun x:GraT=>graOk x l) (fun x=>x.sl) (-1) us ts
theorem wrSG {N:Nat} {w0:World} {lent:List Nat} {Q:Exit→St CntG→Prop} (us:List GraT) (d:Nat) (l:LayT) (hd:l.da≤60) (hl:us.length<100000):∀(rest:List GraT) (i:Nat) (last:Int) (ts:Cnt),us.drop i=rest→ts.length+rest.length<1000000→
 ((ABg9 (fun x:GraT=>graOk x l) (fun x=>x.sl) last rest ts).1=true→∀last':Int,Q (.exit 0) ⟨tmSo 5 (rowsG us) d last' us.length us.length, [layB l],some (d,(ABg9 (fun x:GraT=>graOk x l) (fun x=>x.sl) last rest ts).2)⟩)→
 ((ABg9 (fun x:GraT=>graOk x l) (fun x=>x.sl) last rest ts).1=false→∀last' i':Int,Q .ret ⟨tmSo 5 (rowsG us) d last' us.length i', [layB l],some (d,(ABg9 (fun x:GraT=>graOk x l) (fun x=>x.sl) last rest ts).2)⟩)→
 i≤us.length→WR (EvC N w0 lent) lpSG (rest.length+1) ⟨tmSo 5 (rowsG us) d last us.length i, [layB l],some (d,ts)⟩ Q
 | [],i,last,ts,hdr,hlen,h1,h2,hi=>by
  refine Zdr [2,4,6,7,10,11,12] mixed (BBf9 BCf9 ATn9 MCTok.nil lent N w0) (k:=100) ?_;refine Eq.mpr (rSG _ _ us d ts l last us.length i) ?_;have:=List.drop_eq_nil_iff.1 hdr;obtain rfl:i=us.length:=by omega
  exact Zci (by simp) (h1 rfl last)
 | x::rest,i,last,ts,hdr,hlen,h1,h2,hi=>by
  refine Zdr [2,4,6,7,10,11,12] mixed (BBf9 BCf9 ATn9 MCTok.nil lent N w0) (k:=100) ?_;refine Eq.mpr (rSG _ _ us d ts l last us.length i) ?_;obtain ⟨hx,hdr',hi'⟩:=BHi9 hdr;rw [ABb9 hx];simp only [Zfr] at hlen;refine Zas (by simp;omega) (Zas (natI i) ⟨_,_,_,_,_,rfl,rfl,x,l,_,rfl,rfl,Zax (fun g1=> ?_) fun g1=>⟨rfl,x,rfl,Zax (fun g2=> ?_) fun g2=> ?_⟩⟩)
  ·have e:ABg9 (fun x:GraT=>graOk x l) (fun x=>x.sl) last (x::rest) ts=(false,ts):=by rw [ABg9,if_pos g1]
   rw [e] at h2;exact h2 rfl _ _
  ·have g2:=of_decide_eq_true g2;have e:ABg9 (fun x:GraT=>graOk x l) (fun x=>x.sl) last (x::rest) ts=(false,ts):=by rw [ABg9,if_neg (by rw [g1];decide),if_pos g2]
   rw [e] at h2;exact h2 rfl _ _
  ·have g2:=of_decide_eq_false g2;have h:graOk x l=true:=by simpa using g1
   have hI:InI x.sl:=AMa9 (by simp only [graOk,Zal] at h;exact h.1) hd;have e:ABg9 (fun x:GraT=>graOk x l) (fun x=>x.sl) last (x::rest) ts=ABg9 (fun x:GraT=>graOk x l) (fun x=>x.sl) x.sl rest (incC x.sl ts):=by rw [ABg9,if_neg (by rw [g1];decide),if_neg g2]
   rw [e] at h1 h2;refine ⟨rfl,x,rfl,rfl,d,ts,x.sl,_,rfl,rfl,rfl,hI,rfl,rfl,d,ts,_,x.sl,_,rfl,rfl,rfl,rfl,hI,by omega,rfl, ?_⟩;rw [wrapN (by omega)];have:=APn9 x.sl ts;exact wrSG us d l hd hl rest (i+1) x.sl (incC x.sl ts) hdr' (by omega) h1 h2 (by omega)
noncomputable def wlSG (T:CT):WLT CntG:=fun cd tm hp b K=>∃(us:List GraT) (d:Nat) (l:LayT) (ts ts':Cnt) (q:Bool),cd= .loop lpSG∧AAn9 [2,4,6,7,10,11,12] 0 tm=tmSo 5 (rowsG us) d (-1) (rowsG us).length 0∧hp= [layB l]∧b=some (d,ts)∧(l.da≤60∧us.length<100000∧ts.length<100000∧q=(ADb9 l us ts).1∧ts'=(ADb9 l us ts).2)∧
 BIf q (∀last':Int,K (.exit 0) (tmSo 5 (rowsG us) d last' us.length us.length) [layB l] (some (d,ts'))) (∀last' i':Int,K .ret (tmSo 5 (rowsG us) d last' us.length i') [layB l] (some (d,ts')))
theorem CBg9 {T:CT} (lent:List Nat) (N:Nat) (w0:World) (c:Code) (tm:List AV) (hp:List Blk) (b:CntG) (K:Exit→List AV→List Blk→CntG→Prop) (h:wlSG T c tm hp b K):W (EvC N w0 lent) c ⟨tm,hp,b⟩ (fun e s=>K e s.tm s.hp s.b):=by
 obtain ⟨us,d,l,ts,ts',q,rfl,htm,rfl,rfl,⟨hd,hl,ht,hq,rfl⟩,hK⟩:=h;rw [AAd9] at htm;refine W.cast (htm▸AAc9 _ tm 0) (Zbg _) ?_;refine W.rounds (wrSG (N:=N) (w0:=w0) (lent:=lent) (Q:=fun e s=>K e s.tm s.hp s.b) us d l hd hl us 0 (-1) ts rfl (by omega) (fun h=> ?_) (fun h=> ?_) (Nat.zero_le _))
 ·rw [hq,show (ADb9 l us ts).1=true from h] at hK;exact hK
 ·rw [hq,show (ADb9 l us ts).1=false from h] at hK;exact hK
section
variable (y:ADo9 CntG) (R:AV→CntG→Prop)
theorem BMo9 (us:List GraT) (d:Nat) (ts:Cnt) (l:LayT):wpFn prog ⟨[], [],wlSG [],y,false⟩ 100 f114 [.d (.sl 5 (rowsG us)),layA l,mapA d] (some (d,ts)) R=(∃(us0:List GraT) (d1:Nat) (l2:LayT) (ts3:Cnt) (ts4:Cnt) (q5:Bool),Zaq lpSG=Zaq lpSG∧(Zab::Zab::Zad (Zdk (Zbo (some d)))::Zab::Zae 0 0::Zab::Zad (bo false)::Zad (i64 (-1))::Zab::Zab::Zad (Zaj 5 (rowsG us))::Zad (i64 ((Zaa (rowsG us):Nat):Int))::Zad (i64 0)::bds 25 [])=(Zab::Zab::Zad (Zdk (Zbo (some d1)))::Zab::Zae 0 0::Zab::Zad (bo false)::Zad (i64 (-1))::Zab::Zab::Zad (Zaj 5 (rowsG us0))::Zad (i64 ((Zaa (rowsG us0):Nat):Int))::Zad (i64 0)::bds 25 [])∧ [bk (Qz3 l)]= [bk (Qz3 l2)]∧some (d,ts)=some (d1,ts3)∧(Zbr l2≤(60:Int)∧Zaa us0<100000∧Zaa ts3<100000∧q5=Prod.fst (ADb9 l2 us0 ts3)∧ts4=Prod.snd (ADb9 l2 us0 ts3))∧BIf q5 (∀(last':Int),R (.d (bo true)) (some (d1,ts4))) (∀(last' i':Int),R (.d (bo false)) (some (d1,ts4)))):=by kernel_rfl
end
theorem BWh9 (us:List GraT) (d:Nat) (ts:Cnt) (l:LayT) (hd:l.da≤60) (hl:us.length<100000) (ht:ts.length<100000):
 MCall prog cnF 114 [.d (.sl 5 (rowsG us)),layA l,mapA d] (some (d,ts)) fun x g=>x= .d (bo (ADb9 l us ts).1)∧g=some (d,(ADb9 l us ts).2):=by
 refine MCall.ofFn (n:=100) (u:=false) (wlSG []) mixed Zai Zar (fun N w0=>CBg9 _ N w0) func114 (by rfl) (by rfl) ?_;rw [BMo9];exact ⟨us,d,l,ts,_,_,rfl,rfl,rfl,rfl,⟨hd,hl,ht,rfl,rfl⟩,Zax (fun h last'=>⟨by rw [h],rfl⟩) fun h last' i'=>⟨by rw [h],rfl⟩⟩
def BRv9 (args:List AV) (g:CntG) (K:AV→CntG→Prop):Prop:=∃(us:List GraT) (d:Nat) (ts ts':Cnt) (l:LayT) (q:Bool),args= [.d (.sl 5 (rowsG us)),layA l,mapA d]∧g=some (d,ts)∧(l.da≤60∧us.length<100000∧ts.length<100000∧q=(ADb9 l us ts).1∧ts'=(ADb9 l us ts).2)∧K (.d (bo q)) (some (d,ts'))
theorem BId9:∀args g K,BRv9 args g K→∃R,MCall prog cnF 114 args g R∧∀x g',R x g'→K x g':=by
 rintro _ _ K ⟨us,d,ts,_,l,_,rfl,rfl,⟨hd,hl,ht,rfl,rfl⟩,hk⟩;refine ⟨_,BWh9 us d ts l hd hl ht, ?_⟩;rintro x g' ⟨rfl,rfl⟩;exact hk
def AEp9 (l:LayT) (us:List AskT) (ts:Cnt):Bool×Cnt:=ABg9 (fun x:AskT=>askOk x l) (fun x=>x.sl) (-1) us ts
theorem wrSA {N:Nat} {w0:World} {lent:List Nat} {Q:Exit→St CntG→Prop} (us:List AskT) (d:Nat) (l:LayT) (hd:l.da≤60) (hl:us.length<100000):∀(rest:List AskT) (i:Nat) (last:Int) (ts:Cnt),us.drop i=rest→ts.length+rest.length<1000000→
 ((ABg9 (fun x:AskT=>askOk x l) (fun x=>x.sl) last rest ts).1=true→∀last':Int,Q (.exit 0) ⟨tmSo 3 (rowsA us) d last' us.length us.length, [layB l],some (d,(ABg9 (fun x:AskT=>askOk x l) (fun x=>x.sl) last rest ts).2)⟩)→
 ((ABg9 (fun x:AskT=>askOk x l) (fun x=>x.sl) last rest ts).1=false→∀last' i':Int,Q .ret ⟨tmSo 3 (rowsA us) d last' us.length i', [layB l],some (d,(ABg9 (fun x:AskT=>askOk x l) (fun x=>x.sl) last rest ts).2)⟩)→
 i≤us.length→WR (EvC N w0 lent) lpSA (rest.length+1) ⟨tmSo 3 (rowsA us) d last us.length i, [layB l],some (d,ts)⟩ Q
 | [],i,last,ts,hdr,hlen,h1,h2,hi=>by
  refine Zdr [2,4,6,7,10,11,12] mixed (BBf9 BCf9 ATn9 MCTok.nil lent N w0) (k:=100) ?_;refine Eq.mpr (rSA _ _ us d ts l last us.length i) ?_;have:=List.drop_eq_nil_iff.1 hdr;obtain rfl:i=us.length:=by omega
  exact Zci (by simp) (h1 rfl last)
 | x::rest,i,last,ts,hdr,hlen,h1,h2,hi=>by
  refine Zdr [2,4,6,7,10,11,12] mixed (BBf9 BCf9 ATn9 MCTok.nil lent N w0) (k:=100) ?_;refine Eq.mpr (rSA _ _ us d ts l last us.length i) ?_;obtain ⟨hx,hdr',hi'⟩:=BHi9 hdr;rw [ABd9 hx];simp only [Zfr] at hlen;refine Zas (by simp;omega) (Zas (natI i) ⟨_,_,_,rfl,rfl,x,l,_,rfl,rfl,Zax (fun g1=> ?_) fun g1=>⟨rfl,x,rfl,Zax (fun g2=> ?_) fun g2=> ?_⟩⟩)
  ·have e:ABg9 (fun x:AskT=>askOk x l) (fun x=>x.sl) last (x::rest) ts=(false,ts):=by rw [ABg9,if_pos g1]
   rw [e] at h2;exact h2 rfl _ _
  ·have g2:=of_decide_eq_true g2;have e:ABg9 (fun x:AskT=>askOk x l) (fun x=>x.sl) last (x::rest) ts=(false,ts):=by rw [ABg9,if_neg (by rw [g1];decide),if_pos g2]
   rw [e] at h2;exact h2 rfl _ _
  ·have g2:=of_decide_eq_false g2;have h:askOk x l=true:=by simpa using g1
   have hI:InI x.sl:=AMa9 (by simpa only [askOk] using h) hd;have e:ABg9 (fun x:AskT=>askOk x l) (fun x=>x.sl) last (x::rest) ts=ABg9 (fun x:AskT=>askOk x l) (fun x=>x.sl) x.sl rest (incC x.sl ts):=by rw [ABg9,if_neg (by rw [g1];decide),if_neg g2]
   rw [e] at h1 h2;refine ⟨rfl,x,rfl,rfl,d,ts,x.sl,_,rfl,rfl,rfl,hI,rfl,rfl,d,ts,_,x.sl,_,rfl,rfl,rfl,rfl,hI,by omega,rfl, ?_⟩;rw [wrapN (by omega)];have:=APn9 x.sl ts;exact wrSA us d l hd hl rest (i+1) x.sl (incC x.sl ts) hdr' (by omega) h1 h2 (by omega)
noncomputable def wlSA (T:CT):WLT CntG:=fun cd tm hp b K=>∃(us:List AskT) (d:Nat) (l:LayT) (ts ts':Cnt) (q:Bool),cd= .loop lpSA∧AAn9 [2,4,6,7,10,11,12] 0 tm=tmSo 3 (rowsA us) d (-1) (rowsA us).length 0∧hp= [layB l]∧b=some (d,ts)∧(l.da≤60∧us.length<100000∧ts.length<100000∧q=(AEp9 l us ts).1∧ts'=(AEp9 l us ts).2)∧
 BIf q (∀last':Int,K (.exit 0) (tmSo 3 (rowsA us) d last' us.length us.length) [layB l] (some (d,ts'))) (∀last' i':Int,K .ret (tmSo 3 (rowsA us) d last' us.length i') [layB l] (some (d,ts')))
theorem CBh9 {T:CT} (lent:List Nat) (N:Nat) (w0:World) (c:Code) (tm:List AV) (hp:List Blk) (b:CntG) (K:Exit→List AV→List Blk→CntG→Prop) (h:wlSA T c tm hp b K):W (EvC N w0 lent) c ⟨tm,hp,b⟩ (fun e s=>K e s.tm s.hp s.b):=by
 obtain ⟨us,d,l,ts,ts',q,rfl,htm,rfl,rfl,⟨hd,hl,ht,hq,rfl⟩,hK⟩:=h;rw [AAi9] at htm;refine W.cast (htm▸AAc9 _ tm 0) (Zbg _) ?_;refine W.rounds (wrSA (N:=N) (w0:=w0) (lent:=lent) (Q:=fun e s=>K e s.tm s.hp s.b) us d l hd hl us 0 (-1) ts rfl (by omega) (fun h=> ?_) (fun h=> ?_) (Nat.zero_le _))
 ·rw [hq,show (AEp9 l us ts).1=true from h] at hK;exact hK
 ·rw [hq,show (AEp9 l us ts).1=false from h] at hK;exact hK
section
variable (y:ADo9 CntG) (R:AV→CntG→Prop)
theorem BMp9 (us:List AskT) (d:Nat) (ts:Cnt) (l:LayT):wpFn prog ⟨[], [],wlSA [],y,false⟩ 100 f116 [.d (.sl 3 (rowsA us)),layA l,mapA d] (some (d,ts)) R=(∃(us0:List AskT) (d1:Nat) (l2:LayT) (ts3:Cnt) (ts4:Cnt) (q5:Bool),Zaq lpSA=Zaq lpSA∧(Zab::Zab::Zad (Zdk (Zbo (some d)))::Zab::Zae 0 0::Zab::Zad (bo false)::Zad (i64 (-1))::Zab::Zab::Zad (Zaj 3 (rowsA us))::Zad (i64 ((Zaa (rowsA us):Nat):Int))::Zad (i64 0)::bds 25 [])=(Zab::Zab::Zad (Zdk (Zbo (some d1)))::Zab::Zae 0 0::Zab::Zad (bo false)::Zad (i64 (-1))::Zab::Zab::Zad (Zaj 3 (rowsA us0))::Zad (i64 ((Zaa (rowsA us0):Nat):Int))::Zad (i64 0)::bds 25 [])∧ [bk (Qz3 l)]= [bk (Qz3 l2)]∧some (d,ts)=some (d1,ts3)∧(Zbr l2≤(60:Int)∧Zaa us0<100000∧Zaa ts3<100000∧q5=Prod.fst (AEp9 l2 us0 ts3)∧ts4=Prod.snd (AEp9 l2 us0 ts3))∧BIf q5 (∀(last':Int),R (.d (bo true)) (some (d1,ts4))) (∀(last' i':Int),R (.d (bo false)) (some (d1,ts4)))):=by kernel_rfl
end
theorem BWi9 (us:List AskT) (d:Nat) (ts:Cnt) (l:LayT) (hd:l.da≤60) (hl:us.length<100000) (ht:ts.length<100000):
 MCall prog cnF 116 [.d (.sl 3 (rowsA us)),layA l,mapA d] (some (d,ts)) fun x g=>x= .d (bo (AEp9 l us ts).1)∧g=some (d,(AEp9 l us ts).2):=by
 refine MCall.ofFn (n:=100) (u:=false) (wlSA []) mixed Zai Zar (fun N w0=>CBh9 _ N w0) func116 (by rfl) (by rfl) ?_;rw [BMp9];exact ⟨us,d,l,ts,_,_,rfl,rfl,rfl,rfl,⟨hd,hl,ht,rfl,rfl⟩,Zax (fun h last'=>⟨by rw [h],rfl⟩) fun h last' i'=>⟨by rw [h],rfl⟩⟩
def BRw9 (args:List AV) (g:CntG) (K:AV→CntG→Prop):Prop:=∃(us:List AskT) (d:Nat) (ts ts':Cnt) (l:LayT) (q:Bool),args= [.d (.sl 3 (rowsA us)),layA l,mapA d]∧g=some (d,ts)∧(l.da≤60∧us.length<100000∧ts.length<100000∧q=(AEp9 l us ts).1∧ts'=(AEp9 l us ts).2)∧K (.d (bo q)) (some (d,ts'))
theorem BIe9:∀args g K,BRw9 args g K→∃R,MCall prog cnF 116 args g R∧∀x g',R x g'→K x g':=by
 rintro _ _ K ⟨us,d,ts,_,l,_,rfl,rfl,⟨hd,hl,ht,rfl,rfl⟩,hk⟩;refine ⟨_,BWi9 us d ts l hd hl ht, ?_⟩;rintro x g' ⟨rfl,rfl⟩;exact hk
def TVd:CT:= [(113,cEU),(115,cEG),(117,cEA),(4000003,cNone),(4000004,cNone),(4000006,cNone),(4000007,cNone),(4000008,cNone)]
theorem BZe9:AAb9 prog TVd:=Zag CJn9 (Zag CJo9 (Zag CJp9 (Zag (ABw9 _) (Zag (ABw9 _) (Zag (ABw9 _) (Zag (ABw9 _) (Zag (ABw9 _) Zai)))))))
def CVd:MCT CntG:= [(112,BRu9),(114,BRv9),(116,BRw9)]
theorem CLf9:MCTok CVd:=by
 intro k f hk args g K h;simp only [CVd,List.lookup] at hk;split at hk
 ·rename_i e;cases hk;have:=eq_of_beq e;subst this;exact BIc9 args g K h
 ·split at hk
  ·rename_i e;cases hk;have:=eq_of_beq e;subst this;exact BId9 args g K h
  ·split at hk
   ·rename_i e;cases hk;have:=eq_of_beq e;subst this;exact BIe9 args g K h
   ·cases hk
abbrev CntR:=CntG×Option AFz9
noncomputable def wlRn (wl:WLT CntR):WLT CntR:=wlS prog ⟨TVd, [],fun _ _ _ _ _=>False,fun _ _ _=>False,false⟩ (cnR [] CVd) wl
noncomputable def lpVd:Code:=sub [1,1,1,1,0,1,2,3] (code f73)
def tmVd (r:Nat):List AV:= [.bad, .bad, .bad, .bad, .d (bo false)]++Zam 64 .bad++ [recA r]++Zam 6 .bad
section
variable (y:ADo9 CntR) (K:Exit→List AV→List Blk→CntR→Prop)
abbrev Qz32 (v0:Nat):List AV:=bds 4 (Zad (bo false)::bds 64 (Zad (Zdk (Zbz (some (Addr.mk v0 0 none))))::bds 6 []))
theorem rVd (t:TabT) (l:LayT) (d r cnt:Nat) (ts:Cnt) (left:Lit→Bool) (cur:Option Lit):wpc prog ⟨TVd, [],wlRn (fun _ _ _ _ _=>False),y,false⟩ 100 lpVd (tmVd r) [tabB t,layB l] (some (d,ts),some ⟨d,r,3,entC ts,left,cnt,cur⟩) (maskK 2 [4,69] K)=(∃(d0:Nat) (ts1:Cnt),some (d,ts)=some (d0,ts1)∧3=3∧entC ts=entC ts1∧Zad (Zdk (Zbz (some (Addr.mk r 0 none))))=Zad (Zdk (Zbz (some (Addr.mk r 0 none))))∧((∀(kl:Lit),AFz9.left (AFz9.mk d r (3:TypeId) (entC ts) left cnt cur) kl=false)→K (Zba 0) (Qz32 r) [bk (Qz1 t),bk (Qz3 l)] (some (d,ts),some (AFz9.mk d r 3 (entC ts) left cnt cur)))∧∀(n:Int) (cnt':Nat),AFz9.left (AFz9.mk d r (3:TypeId) (entC ts) left cnt cur) (Lit.int Zbb n)=true→hasC n ts1=true→cnt'<AFz9.cnt (AFz9.mk d r (3:TypeId) (entC ts) left cnt cur)→∃(d2:Nat) (ts3:Cnt) (n4:Int),some (d,ts)=some (d2,ts3)∧3=3∧entC ts=entC ts3∧Zad (Zdk (Zbz (some (Addr.mk r 0 none))))=Zad (Zdk (Zbz (some (Addr.mk r 0 none))))∧some (Lit.int Zbb n)=some (Lit.int Zbb n4)∧BIf (decide (getC n4 ts3>(1:Int))) (K .ret (Qz32 r) [bk (Qz1 t),bk (Qz3 l)] (some (d,ts),some (AFz9.mk d r 3 (entC ts) (fun (x5:Lit)=>left x5&& !Lit.sameKey x5 (Lit.int Zbb n)) cnt' (some (Lit.int Zbb n))))) (K .normal (Qz32 r) [bk (Qz1 t),bk (Qz3 l)] (some (d,ts),some (AFz9.mk d r 3 (entC ts) (fun (x6:Lit)=>left x6&& !Lit.sameKey x6 (Lit.int Zbb n)) cnt' (some (Lit.int Zbb n)))))):=by kernel_rfl
end
def okC (ts:Cnt):Bool:=ts.all fun p=>decide (getC p.1 ts≤1)
abbrev EvR (N:Nat) (w0:World) (lent:List Nat):Env prog:=Env.rngd prog none N w0 lent cnF
theorem rn_ok {wl:WLT CntR} (lent:List Nat) (N:Nat) (w0:World) (hwl:∀c tm hp b K,wl c tm hp b K→W (EvR N w0 lent) c ⟨tm,hp,b⟩ (fun e s=>K e s.tm s.hp s.b)):∀c tm hp b K,wlRn wl c tm hp b K→W (EvR N w0 lent) c ⟨tm,hp,b⟩ (fun e s=>K e s.tm s.hp s.b):=
 CIm9 (Ev:=EvR N w0 lent) mixed (CX.Ok.ofWl (Ev:=EvR N w0 lent) BZe9 Zar fun _ _ _ _ _ h=>h.elim) (CJk9 Zai CLf9 N w0 lent) hwl
theorem CDc9 {wl:WLT CntR} (lent:List Nat) (N:Nat) (w0:World) (hwl:∀c tm hp b K,wl c tm hp b K→W (EvR N w0 lent) c ⟨tm,hp,b⟩ (fun e s=>K e s.tm s.hp s.b)):CX.Ok (EvR N w0 lent) ⟨TVd, [],wlRn wl,fun _ _ _=>False,false⟩:=
 CX.Ok.ofWl (Ev:=EvR N w0 lent) BZe9 Zar (rn_ok lent N w0 hwl)
theorem BGh9 {k:Int} {ts:Cnt}:hasC k ts=true↔∃p∈ts,p.1=k:=by simp [hasC]
theorem wrVd {N:Nat} {w0:World} {lent:List Nat} {Q:Exit→St CntR→Prop} (t:TabT) (l:LayT) (d r:Nat) (ts:Cnt) (hQ1:okC ts=true→∀c,Q (.exit 0) ⟨tmVd r, [tabB t,layB l],(some (d,ts),some c)⟩) (hQ2:okC ts=false→∀c,Q .ret ⟨tmVd r, [tabB t,layB l],(some (d,ts),some c)⟩):
 ∀(n cnt:Nat) (left:Lit→Bool) (cur:Option Lit),cnt≤n→(∀p∈ts,1<getC p.1 ts→left (.int .i64 p.1)=true)→WR (EvR N w0 lent) lpVd (n+1) ⟨tmVd r, [tabB t,layB l],(some (d,ts),some ⟨d,r,3,entC ts,left,cnt,cur⟩)⟩ Q:=by
 have fin:∀(left:Lit→Bool),(∀p∈ts,1<getC p.1 ts→left (.int .i64 p.1)=true)→(∀kl,left kl=false)→okC ts=true:=fun left hin hno=>by
  rw [okC,Zbk];intro p hp;refine decide_eq_true ?_;rcases Int.lt_or_le 1 (getC p.1 ts) with h|h
  ·have:=hin p hp h;rw [hno] at this;cases this
  ·exact h
 intro n;induction n with
 | zero=>
  intro cnt left cur hcnt hin;refine Zdr [4,69] mixed (CDc9 (wl:=fun _ _ _ _ _=>False) lent N w0 fun _ _ _ _ _ h=>h.elim) (k:=100) ?_;refine Eq.mpr (rVd _ _ t l d r cnt ts left cur) ?_;refine ⟨d,ts,rfl,rfl,rfl,rfl,fun hno=>hQ1 (fin left hin hno) _,fun m cnt' hl hh hc=> ?_⟩;have hc:cnt'<cnt:=hc;omega
 | succ n ih=>
  intro cnt left cur hcnt hin;refine Zdr [4,69] mixed (CDc9 (wl:=fun _ _ _ _ _=>False) lent N w0 fun _ _ _ _ _ h=>h.elim) (k:=100) ?_;refine Eq.mpr (rVd _ _ t l d r cnt ts left cur) ?_;refine ⟨d,ts,rfl,rfl,rfl,rfl,fun hno=>hQ1 (fin left hin hno) _,fun m cnt' hl hh hc=>⟨d,ts,m,rfl,rfl,rfl,rfl,rfl,Zax (fun g=> ?_) fun g=> ?_⟩⟩
  ·refine hQ2 ?_ _;obtain ⟨p,hp,rfl⟩:=BGh9.1 hh;have g:=of_decide_eq_true g;cases ho:okC ts with
   |false=>rfl
   | true=>
    have:=of_decide_eq_true (Zbk.1 ho p hp);omega
  ·have hc:cnt'<cnt:=hc;have g:=of_decide_eq_false g;refine ih cnt' _ _ (by omega) fun p hp h1=> ?_;have h2:=hin p hp h1;have hne:p.1≠m:=fun e=>by subst e;omega
   rw [h2,ADy9];simp [hne]
noncomputable def wlVdL:WLT CntR:=fun cd tm hp b K=>∃(t:TabT) (l:LayT) (d r:Nat) (ts:Cnt) (q:Bool),cd= .loop lpVd∧AAn9 [4,69] 0 tm=tmVd r∧hp= [tabB t,layB l]∧b=(some (d,ts),some ⟨d,r,3,entC ts,fun kl=>hasK kl (entC ts),(entC ts).length,none⟩)∧q=okC ts∧
 BIf q (∀c,K (.exit 0) (tmVd r) [tabB t,layB l] (some (d,ts),some c)) (∀c,K .ret (tmVd r) [tabB t,layB l] (some (d,ts),some c))
theorem BUc9 (lent:List Nat) (N:Nat) (w0:World) (c:Code) (tm:List AV) (hp:List Blk) (b:CntR) (K:Exit→List AV→List Blk→CntR→Prop) (h:wlVdL c tm hp b K):W (EvR N w0 lent) c ⟨tm,hp,b⟩ (fun e s=>K e s.tm s.hp s.b):=by
 obtain ⟨t,l,d,r,ts,q,rfl,htm,rfl,rfl,hq,hK⟩:=h;refine W.cast (htm▸AAc9 _ tm 0) (Zbg _) ?_;refine W.rounds (wrVd (N:=N) (w0:=w0) (lent:=lent) (Q:=fun e s=>K e s.tm s.hp s.b) t l d r ts (fun h=> ?_) (fun h=> ?_) (entC ts).length (entC ts).length _ none (Zat _) fun p hp _=> ?_)
 ·rw [hq,h] at hK;exact hK
 ·rw [hq,h] at hK;exact hK
 ·rw [BHg9];exact BGh9.2 ⟨p,hp,rfl⟩
section
variable (y:ADo9 CntR) (R:AV→CntR→Prop)
theorem BUp9 (t:TabT) (l:LayT):wpFn prog ⟨TVd, [],wlRn wlVdL,y,false⟩ 100 f73 [tabA t,layA l] (none,none) R=(BIf (decide (Zeg l<(1:Int))) (R (.d (bo false)) (none,none)) (BIf (decide (Zeg l>(60:Int))) (R (.d (bo false)) (none,none)) (BIf (decide (Zbr l<(1:Int))) (R (.d (bo false)) (none,none)) (BIf (decide (Zbr l>(60:Int))) (R (.d (bo false)) (none,none)) (BIf (decide (Zac .i64 (((Zaa (rowsU (Zbv t)):Nat):Int)+((Zaa (rowsG (Zbx t)):Nat):Int))>(24:Int))) (R (.d (bo false)) (none,none)) (BIf (decide (((Zaa (rowsA (Zck t)):Nat):Int)>(24:Int))) (R (.d (bo false)) (none,none)) (NoG none∧154=154∧∀(d:Nat),∃(l0:List UseT), [Zad (Zaj 4 (rowsU (Zbv t))),Zav (Fn.func 108) [] []]= [Zad (Zaj 4 (rowsU l0)),Zav (Fn.func 108) [] []]∧Zaa l0<1000000∧true=true∧∃(us1:List UseT) (d2:Nat) (ts3:Cnt) (ts4:Cnt) (l5:LayT) (q6:Bool), [Zad (Zaj 4 (rowsU l0)),Zan (Qz3 l),Zad (Zdk (Zbo (some d)))]= [Zad (Zaj 4 (rowsU us1)),Zan (Qz3 l5),Zad (Zdk (Zbo (some d2)))]∧some (d, [])=some (d2,ts3)∧(Zbr l5≤(60:Int)∧Zaa us1<100000∧Zaa ts3<100000∧q6=Prod.fst (ABy9 l5 us1 ts3)∧ts4=Prod.snd (ABy9 l5 us1 ts3))∧BIf (!q6) (R (.d (bo false)) (some (d2,ts4),none)) (∃(l7:List GraT), [Zad (Zaj 5 (rowsG (Zbx t))),Zav (Fn.func 95) [] []]= [Zad (Zaj 5 (rowsG l7)),Zav (Fn.func 95) [] []]∧Zaa l7<1000000∧true=true∧∃(us8:List GraT) (d9:Nat) (ts10:Cnt) (ts11:Cnt) (l12:LayT) (q13:Bool), [Zad (Zaj 5 (rowsG l7)),Zan (Qz3 l),Zad (Zdk (Zbo (some d)))]= [Zad (Zaj 5 (rowsG us8)),Zan (Qz3 l12),Zad (Zdk (Zbo (some d9)))]∧some (d2,ts4)=some (d9,ts10)∧(Zbr l12≤(60:Int)∧Zaa us8<100000∧Zaa ts10<100000∧q13=Prod.fst (ADb9 l12 us8 ts10)∧ts11=Prod.snd (ADb9 l12 us8 ts10))∧BIf (!q13) (R (.d (bo false)) (some (d9,ts11),none)) (∃(l14:List AskT), [Zad (Zaj 3 (rowsA (Zck t))),Zav (Fn.func 118) [] []]= [Zad (Zaj 3 (rowsA l14)),Zav (Fn.func 118) [] []]∧Zaa l14<1000000∧true=true∧∃(us15:List AskT) (d16:Nat) (ts17:Cnt) (ts18:Cnt) (l19:LayT) (q20:Bool), [Zad (Zaj 3 (rowsA l14)),Zan (Qz3 l),Zad (Zdk (Zbo (some d)))]= [Zad (Zaj 3 (rowsA us15)),Zan (Qz3 l19),Zad (Zdk (Zbo (some d16)))]∧some (d9,ts11)=some (d16,ts17)∧(Zbr l19≤(60:Int)∧Zaa us15<100000∧Zaa ts17<100000∧q20=Prod.fst (AEp9 l19 us15 ts17)∧ts18=Prod.snd (AEp9 l19 us15 ts17))∧BIf (!q20) (R (.d (bo false)) (some (d16,ts18),none)) (154=154∧∃(d21:Nat) (ts22:Cnt),some (d16,ts18)=some (d21,ts22)∧Zad (Zdk (Zbo (some d)))=Zad (Zdk (Zbo (some d21)))∧∀(r:Nat),∃(t23:TabT) (l24:LayT) (d25:Nat) (r26:Nat) (ts27:Cnt) (q28:Bool),Zaq lpVd=Zaq lpVd∧(Qz32 r)=(Qz32 r26)∧ [bk (Qz1 t),bk (Qz3 l)]= [bk (Qz1 t23),bk (Qz3 l24)]∧(some (d21,ts22),some (AFz9.mk d21 r 3 (entC ts22) (fun (kl29:Lit)=>Zcp (entC ts22) fun (p30:Lit×AV)=>Lit.sameKey (Prod.fst p30) kl29) (Zaa (entC ts22)) none))=(some (d25,ts27),some (AFz9.mk d25 r26 3 (entC ts27) (fun (kl31:Lit)=>Zcp (entC ts27) fun (p32:Lit×AV)=>Lit.sameKey (Prod.fst p32) kl31) (Zaa (entC ts27)) none))∧q28=okC ts27∧BIf q28 (∀(c:AFz9),R (.d (bo true)) (some (d25,ts27),some c)) (∀(c:AFz9),R (.d (bo false)) (some (d25,ts27),some c)))))))))))):=by kernel_rfl
end
def TabOk (t:TabT):Prop:=t.us.length<10000∧t.gs.length<10000∧t.ak.length<10000
def ACq9 (t:TabT) (l:LayT):Bool:=
 if l.no<1 then false else if l.no>60 then false else if l.da<1 then false else if l.da>60 then false else if (t.us.length:Int)+(t.gs.length:Int)>24 then false else if (t.ak.length:Int)>24 then false
 else if (!(ABy9 l t.us []).1)=true then false else if (!(ADb9 l t.gs (ABy9 l t.us []).2).1)=true then false else if (!(AEp9 l t.ak (ADb9 l t.gs (ABy9 l t.us []).2).2).1)=true then false
 else okC (AEp9 l t.ak (ADb9 l t.gs (ABy9 l t.us []).2).2).2
theorem CEo9 (t:TabT) (l:LayT) (ht:TabOk t):MCall prog cnF 73 [tabA t,layA l] none fun x _=>x= .d (bo (ACq9 t l)):=by
 obtain ⟨t1,t2,t3⟩:=ht;refine MCall.ofFnR (n:=100) (u:=false) (wlRn wlVdL) mixed BZe9 Zar (fun N w0=>rn_ok _ N w0 (BUc9 _ N w0)) func73 (by rfl) (by rfl) ?_;rw [BUp9,AAe9,AAd9,AAi9];have hw:Zac Zbb ((t.us.length:Int)+(t.gs.length:Int))=(t.us.length:Int)+(t.gs.length:Int):=AAw9 (by omega) (by omega);rw [hw];have e1:(ABy9 l t.us []).2.length≤t.us.length:=by
  have h:(ABy9 l t.us []).2.length≤([]:Cnt).length+t.us.length:=ALq9 (fun x:UseT=>useOk x l) (fun x=>x.sl) (-1) t.us [];simpa using h
 have e2:=ALq9 (fun x:GraT=>graOk x l) (fun x=>x.sl) (-1) t.gs (ABy9 l t.us []).2;have e2:(ADb9 l t.gs (ABy9 l t.us []).2).2.length≤(ABy9 l t.us []).2.length+t.gs.length:=e2;refine Zax (fun h1=> ?_) fun h1=>Zax (fun h2=> ?_) fun h2=>Zax (fun h3=> ?_) fun h3=>Zax (fun h4=> ?_) fun h4=>Zax (fun h5=> ?_) fun h5=>Zax (fun h6=> ?_) fun h6=> ?_;all_goals
  try simp only [decide_eq_true_eq,decide_eq_false_iff_not] at h1
  try simp only [decide_eq_true_eq,decide_eq_false_iff_not] at h2
  try simp only [decide_eq_true_eq,decide_eq_false_iff_not] at h3
  try simp only [decide_eq_true_eq,decide_eq_false_iff_not] at h4
  try simp only [decide_eq_true_eq,decide_eq_false_iff_not] at h5
  try simp only [decide_eq_true_eq,decide_eq_false_iff_not] at h6
 ·rw [ACq9,if_pos h1]
 ·rw [ACq9,if_neg h1,if_pos h2]
 ·rw [ACq9,if_neg h1,if_neg h2,if_pos h3]
 ·rw [ACq9,if_neg h1,if_neg h2,if_neg h3,if_pos h4]
 ·rw [ACq9,if_neg h1,if_neg h2,if_neg h3,if_neg h4,if_pos h5]
 ·rw [ACq9,if_neg h1,if_neg h2,if_neg h3,if_neg h4,if_neg h5,if_pos h6]
 ·have hv:ACq9 t l=(if (!(ABy9 l t.us []).1)=true then false else if (!(ADb9 l t.gs (ABy9 l t.us []).2).1)=true then false else if (!(AEp9 l t.ak (ADb9 l t.gs (ABy9 l t.us []).2).2).1)=true then false
   else okC (AEp9 l t.ak (ADb9 l t.gs (ABy9 l t.us []).2).2).2):=by
   rw [ACq9,if_neg h1,if_neg h2,if_neg h3,if_neg h4,if_neg h5,if_neg h6]
  refine ⟨⟨rfl⟩,rfl,fun d=>⟨t.us,rfl,by omega,rfl,t.us,d, [],_,l,_,rfl,rfl,⟨by omega,by omega,by simp,rfl,rfl⟩,Zax (fun g1=> ?_) fun g1=>⟨t.gs,rfl,by omega,rfl,t.gs,d,_,_,l,_,rfl,rfl,⟨by omega,by omega,by omega,rfl,rfl⟩,Zax (fun g2=> ?_) fun g2=>
   ⟨t.ak,rfl,by omega,rfl,t.ak,d,_,_,l,_,rfl,rfl,⟨by omega,by omega,by omega,rfl,rfl⟩,Zax (fun g3=> ?_) fun g3=>⟨rfl,d,_,rfl,rfl,fun r=>⟨t,l,d,r,_,_,rfl,rfl,rfl,rfl,rfl,Zax (fun g4 c=> ?_) fun g4 c=> ?_⟩⟩⟩⟩⟩⟩
  ·rw [hv,if_pos g1]
  ·rw [hv,if_neg (by rw [g1];decide),if_pos g2]
  ·rw [hv,if_neg (by rw [g1];decide),if_neg (by rw [g2];decide),if_pos g3]
  ·rw [hv,if_neg (by rw [g1];decide),if_neg (by rw [g2];decide),if_neg (by rw [g3];decide),g4]
  ·rw [hv,if_neg (by rw [g1];decide),if_neg (by rw [g2];decide),if_neg (by rw [g3];decide),g4]
theorem CDz9 (t:TabT) (l:LayT) (ht:TabOk t):PCall prog 73 [tabA t,layA l] (.d (bo (ACq9 t l))):=(CEo9 t l ht).toP rfl
def BPb9:CF:=fun args K=>∃(t:TabT) (l:LayT) (q:Bool),args= [tabA t,layA l]∧(TabOk t∧q=ACq9 t l)∧K (.d (bo q))
theorem AQa9:COk 73 BPb9:=by
 rintro _ K ⟨t,l,_,rfl,⟨ht,rfl⟩,hk⟩;exact ⟨_,CDz9 t l ht,hk⟩
variable {Ev:Env prog} {b0:Ev.β} {Q:Exit→St Ev.β→Prop}
def idxS {α:Type} (p:α→Bool) (l:List α):Int:=match l.findIdx? p with
 |some j=>(j:Int)
 |none=> -1
theorem AAq9 {α:Type} {p:α→Bool} {l:List α} (h:l.findIdx? p=none):idxS p l= -1:=by simp [idxS,h]
theorem AAj9 {α:Type} {p:α→Bool} {l:List α} {j:Nat} (h:l.findIdx? p=some j):idxS p l=(j:Int):=by simp [idxS,h]
theorem AFt9 {α:Type} {p:α→Bool} {l:List α}:decide (idxS p l≥0)=l.any p:=by
 cases h:l.findIdx? p with
 | none=>
  rw [AAq9 h];have:=Zes.1 h;symm;rw [show decide ((-1:Int)≥0)=false by decide,List.any_eq_false];intro x hx;rw [this x hx];decide
 | some j=>
  rw [AAj9 h];obtain ⟨hj,hp,_⟩:=Zfn.1 h;rw [show decide ((j:Int)≥0)=true by simp];exact (List.any_eq_true.2 ⟨l[j],List.getElem_mem hj,hp⟩).symm
theorem WR.findL {α:Type} {P:Program} {Ev:Env P} {X:CX Ev.β} {lp:Code} {b:Ev.β} {Q:Exit→St Ev.β→Prop} {k:Nat} (keep:List Nat) (hm:P.follows .mixedOrders=true) (hX:X.Ok) (xs:List α) (p:α→Bool) (tmOf tmR:Nat→List AV) (hp:List Blk) (id:Nat)
 (hr:∀(i:Nat) (x:α),i<xs.length→xs[i]? =some x→∀K:Exit→List AV→List Blk→Ev.β→Prop,(p x=true→K .ret (tmR i) hp b)→(p x=false→K .normal (tmOf (i+1)) hp b)→wpc P X k lp (tmOf i) hp b (maskK hp.length keep K))
 (he:∀K:Exit→List AV→List Blk→Ev.β→Prop,K (.exit id) (tmOf xs.length) hp b→wpc P X k lp (tmOf xs.length) hp b (maskK hp.length keep K))
 (h1:xs.findIdx? p=none→Q (.exit id) ⟨tmOf xs.length,hp,b⟩) (h2:∀j,xs.findIdx? p=some j→Q .ret ⟨tmR j,hp,b⟩):WR Ev lp (xs.length+1) ⟨tmOf 0,hp,b⟩ Q:=by
 have key:∀(m i:Nat),i+m=xs.length→(∀(j:Nat) (x:α),j<i→xs[j]? =some x→p x=false)→WR Ev lp (m+1) ⟨tmOf i,hp,b⟩ Q:=by
  intro m;induction m with
  | zero=>
   intro i hi hj;have:i=xs.length:=by omega
   subst this;refine Zdr keep hm hX (he _ (h1 ?_));rw [Zes];intro x hx;obtain ⟨j,hjx⟩:=List.mem_iff_getElem?.1 hx;exact hj j x (Zaf.1 hjx).1 hjx
  | succ m ih=>
   intro i hi hj;have hil:i<xs.length:=by omega
   refine Zdr keep hm hX (hr i xs[i] hil (by simp [hil]) _ (fun h=>h2 i ?_) fun h=> ?_)
   ·rw [Zfn];refine ⟨hil,h,fun j hji=> ?_⟩;have:=hj j xs[j] hji (by simp);simp [this]
   ·refine ih (i+1) (by omega) fun j x hji hjx=> ?_;rcases Nat.lt_or_ge j i with h'|h'
    ·exact hj j x h' hjx
    ·obtain rfl:j=i:=by omega
     have:xs[j]? =some xs[j]:=by simp [hil]
     rw [this] at hjx;cases hjx;exact h
 exact key xs.length 0 (by omega) fun j x hj=>by omega
theorem BHu9 (x:UseT) (s:Int):wpFn prog ⟨[], [],wl,y,false⟩ 100 f119 ([useA x]++ [.rptr [i64 s]]) b R=(R (Zad (bo (Zdl x==s))) b):=by kernel_rfl
def BKe9:CF:=fun args K=>∃(x:UseT) (s:Int) (q:Bool),args= [useA x]++ [.rptr [i64 s]]∧(q=(fun x:UseT=>x.sl==s) x)∧K (.d (bo q))
theorem BBx9:COk 119 BKe9:=by
 rintro _ K ⟨x,s,_,rfl,rfl,hk⟩;refine ⟨_, ?_,hk⟩;refine pcO Zai func119 fun Ev bb=> ?_;rw [BHu9]
def BLd9:CT:= [(119,BKe9)]
theorem BLc9:AAb9 prog BLd9:=Zag BBx9 Zai
noncomputable def AMk9:Code:=sub [1,0,1,2,3] (code f133)
def AFn9 (l:List UseT) (s:Int) (q i:Int):List AV:= [.d (.sl 4 (rowsU l)), .fn (.func 119) [] [.rptr [i64 s]], .bad, .bad, .d (i64 q), .bad, .bad, .d (i64 l.length), .d (i64 i)]++Zam 10 .bad
theorem BRe9 (l:List UseT) (s:Int) (i:Int):wpc prog ⟨BLd9, [],wl,y,false⟩ 100 AMk9 (AFn9 l s 0 i) [] b (maskK 0 [0,1,4,7,8] K)=(BIf (decide (i<((Zaa l:Nat):Int))) (BIf (true&&decide (0≤i)) (∃(x0:Int) (x1:Int) (x2:Int) (x3:Int),(rowsU l)[Zak i]? =some [i64 x0,i64 x1,i64 x2,i64 x3]∧∃(x6:UseT) (s7:Int) (q8:Bool), [Zan (Qz30 x0 x1 x2 x3),Zah [i64 s]]= [Zan (Qz6 x6),Zah [i64 s7]]∧q8=(Zdl x6==s7)∧BIf q8 (K .ret (Zad (Zaj 4 (rowsU l))::Zav (Fn.func 119) [] [Zah [i64 s]]::Zab::Zab::Zad (i64 i)::Zab::Zab::Zad (i64 ((Zaa l:Nat):Int))::Zad (i64 i)::bds 10 []) [] b) (K .normal (Zad (Zaj 4 (rowsU l))::Zav (Fn.func 119) [] [Zah [i64 s]]::Zab::Zab::Zad (i64 0)::Zab::Zab::Zad (i64 ((Zaa l:Nat):Int))::Zad (i64 (Zac .i64 (i+1)))::bds 10 []) [] b)) False) (K (Zba 0) (Zad (Zaj 4 (rowsU l))::Zav (Fn.func 119) [] [Zah [i64 s]]::Zab::Zab::Zad (i64 0)::Zab::Zab::Zad (i64 ((Zaa l:Nat):Int))::Zad (i64 i)::bds 10 []) [] b)):=by kernel_rfl
theorem BTz9 (l:List UseT) (s:Int) (hl:l.length≤9223372036854775807) (h1:l.findIdx? (fun x:UseT=>x.sl==s)=none→∀i:Int,Q (.exit 0) ⟨AFn9 l s 0 i, [],b0⟩) (h2:∀j:Nat,l.findIdx? (fun x:UseT=>x.sl==s)=some j→Q .ret ⟨AFn9 l s j j, [],b0⟩):
 WR Ev AMk9 (l.length+1) ⟨AFn9 l s 0 (0:Nat), [],b0⟩ Q:=by
 refine WR.findL (X:=⟨BLd9, [],wlW Ev,Ev.Y,false⟩) (k:=100) [0,1,4,7,8] mixed (CX.Ok.of BLc9 Zar) l (fun x:UseT=>x.sl==s) (fun i=>AFn9 l s 0 (i:Nat)) (fun i=>AFn9 l s (i:Nat) (i:Nat)) [] 0 (fun i x hi hxi K k1 k2=> ?_) (fun K k1=> ?_) (fun h=>h1 h _) h2
 ·refine Eq.mpr (BRe9 _ _ _ K l s i) ?_;rw [ABl9 hxi];refine Zas (by simp;omega) (Zas (natI i) ⟨_,_,_,_,rfl,x,s,_,rfl,rfl,Zax (fun g=>k1 g) fun g=> ?_⟩);rw [wrapN (by omega)];exact k2 g
 ·refine Eq.mpr (BRe9 _ _ _ K l s _) ?_;exact Zci (by simp) k1
def AUi9 {β:Type}:WLT β:=fun cd tm hp b K=>∃(l:List UseT) (s:Int) (q:Int),cd= .loop AMk9∧AAn9 [0,1,4,7,8] 0 tm=AFn9 l s 0 0∧hp= []∧(l.length≤9223372036854775807∧q=idxS (fun x:UseT=>x.sl==s) l)∧(∀i:Int,q= -1→K (.exit 0) (AFn9 l s 0 i) [] b)∧(∀i:Int,0≤q→K .ret (AFn9 l s q i) [] b)
theorem AZj9:WlOk Ev AUi9:=by
 rintro c tm hp b K ⟨l,s,q,rfl,htm,rfl,⟨hl,rfl⟩,hK1,hK2⟩;refine W.cast (htm▸AAc9 _ tm 0) (Zbg _) ?_;exact W.rounds (BTz9 (Q:=fun e s=>K e s.tm s.hp s.b) l s hl (fun h i=>hK1 i (AAq9 h)) fun j h=>by have:=hK2 j (by rw [AAj9 h];omega);rwa [AAj9 h] at this)
theorem BAn9 (l:List UseT) (s:Int):wpFn prog ⟨[], [],AUi9,y,false⟩ 100 f133 [.d (.sl 4 (rowsU l)), .fn (.func 119) [] [.rptr [i64 s]]] b R=(∃(l0:List UseT) (s1:Int) (q2:Int),Zaq AMk9=Zaq AMk9∧(Zad (Zaj 4 (rowsU l))::Zav (Fn.func 119) [] [Zah [i64 s]]::Zab::Zab::Zad (i64 0)::Zab::Zab::Zad (i64 ((Zaa (rowsU l):Nat):Int))::Zad (i64 0)::bds 10 [])=(Zad (Zaj 4 (rowsU l0))::Zav (Fn.func 119) [] [Zah [i64 s1]]::Zab::Zab::Zad (i64 0)::Zab::Zab::Zad (i64 ((Zaa l0:Nat):Int))::Zad (i64 0)::bds 10 [])∧([]:List Blk)= []∧(Zaa l0≤9223372036854775807∧q2=idxS (fun (x3:UseT)=>Zdl x3==s1) l0)∧(∀(i:Int),q2=(-1:Int)→R (.d (i64 (-1))) b)∧∀(i:Int),(0:Int)≤q2→R (.d (i64 q2)) b):=by kernel_rfl
def AYh9:CF:=fun args K=>∃(l:List UseT) (s:Int) (q:Int),args= [.d (.sl 4 (rowsU l)), .fn (.func 119) [] [.rptr [i64 s]]]∧(l.length≤9223372036854775807∧q=idxS (fun x:UseT=>x.sl==s) l)∧K (.d (i64 q))
theorem AVr9:COk 133 AYh9:=by
 rintro _ K ⟨l,s,_,rfl,⟨hl,rfl⟩,hk⟩;refine ⟨_, ?_,hk⟩;refine pcW @AUi9 Zai AZj9 func133 fun Ev bb=> ?_;rw [BAn9,AAe9];exact ⟨l,s,_,rfl,rfl,rfl,⟨hl,rfl⟩,fun i h=>by rw [h],fun i h=>rfl⟩
def BTj9:CT:= [(133,AYh9)]
theorem BLj9:AAb9 prog BTj9:=Zag AVr9 Zai
theorem BBd9 (l:List UseT) (s:Int):wpFn prog ⟨BTj9, [],wl,y,false⟩ 100 f98 [.d (.sl 4 (rowsU l)), .fn (.func 119) [] [.rptr [i64 s]]] b R=(∃(l0:List UseT) (s1:Int) (q2:Int), [Zad (Zaj 4 (rowsU l)),Zav (Fn.func 119) [] [Zah [i64 s]]]= [Zad (Zaj 4 (rowsU l0)),Zav (Fn.func 119) [] [Zah [i64 s1]]]∧(Zaa l0≤9223372036854775807∧q2=idxS (fun (x3:UseT)=>Zdl x3==s1) l0)∧R (.d (bo (decide (q2≥(0:Int))))) b):=by kernel_rfl
def AYq9:CF:=fun args K=>∃(l:List UseT) (s:Int) (q:Bool),args= [.d (.sl 4 (rowsU l)), .fn (.func 119) [] [.rptr [i64 s]]]∧(l.length≤9223372036854775807∧q=l.any (fun x:UseT=>x.sl==s))∧K (.d (bo q))
theorem AVz9:COk 98 AYq9:=by
 rintro _ K ⟨l,s,_,rfl,⟨hl,rfl⟩,hk⟩;refine ⟨_, ?_,hk⟩;refine pcO BLj9 func98 fun Ev bb=> ?_;rw [BBd9];exact ⟨l,s,_,rfl,⟨hl,rfl⟩,by rw [AFt9]⟩
theorem BHv9 (x:GraT) (s:Int):wpFn prog ⟨[], [],wl,y,false⟩ 100 f120 ([graA x]++ [.rptr [i64 s]]) b R=(R (Zad (bo (Zds x==s))) b):=by kernel_rfl
def BKf9:CF:=fun args K=>∃(x:GraT) (s:Int) (q:Bool),args= [graA x]++ [.rptr [i64 s]]∧(q=(fun x:GraT=>x.sl==s) x)∧K (.d (bo q))
theorem BBy9:COk 120 BKf9:=by
 rintro _ K ⟨x,s,_,rfl,rfl,hk⟩;refine ⟨_, ?_,hk⟩;refine pcO Zai func120 fun Ev bb=> ?_;rw [BHv9]
def BLf9:CT:= [(120,BKf9)]
theorem BLe9:AAb9 prog BLf9:=Zag BBy9 Zai
noncomputable def AMl9:Code:=sub [1,0,1,2,3] (code f54)
def AFo9 (l:List GraT) (s:Int) (q i:Int):List AV:= [.d (.sl 5 (rowsG l)), .fn (.func 120) [] [.rptr [i64 s]], .bad, .bad, .d (i64 q), .bad, .bad, .d (i64 l.length), .d (i64 i)]++Zam 10 .bad
theorem BRf9 (l:List GraT) (s:Int) (i:Int):wpc prog ⟨BLf9, [],wl,y,false⟩ 100 AMl9 (AFo9 l s 0 i) [] b (maskK 0 [0,1,4,7,8] K)=(BIf (decide (i<((Zaa l:Nat):Int))) (BIf (true&&decide (0≤i)) (∃(x0:Int) (x1:Int) (x2:Int) (x3:Int) (x4:Int),(rowsG l)[Zak i]? =some (Qz27 x0 x1 x2 x3 x4)∧∃(x7:GraT) (s8:Int) (q9:Bool), [Zan (Qz15 x0 x1 x2 x3 x4),Zah [i64 s]]= [Zan (Qz5 x7),Zah [i64 s8]]∧q9=(Zds x7==s8)∧BIf q9 (K .ret (Zad (Zaj 5 (rowsG l))::Zav (Fn.func 120) [] [Zah [i64 s]]::Zab::Zab::Zad (i64 i)::Zab::Zab::Zad (i64 ((Zaa l:Nat):Int))::Zad (i64 i)::bds 10 []) [] b) (K .normal (Zad (Zaj 5 (rowsG l))::Zav (Fn.func 120) [] [Zah [i64 s]]::Zab::Zab::Zad (i64 0)::Zab::Zab::Zad (i64 ((Zaa l:Nat):Int))::Zad (i64 (Zac .i64 (i+1)))::bds 10 []) [] b)) False) (K (Zba 0) (Zad (Zaj 5 (rowsG l))::Zav (Fn.func 120) [] [Zah [i64 s]]::Zab::Zab::Zad (i64 0)::Zab::Zab::Zad (i64 ((Zaa l:Nat):Int))::Zad (i64 i)::bds 10 []) [] b)):=by kernel_rfl
theorem BUa9 (l:List GraT) (s:Int) (hl:l.length≤9223372036854775807) (h1:l.findIdx? (fun x:GraT=>x.sl==s)=none→∀i:Int,Q (.exit 0) ⟨AFo9 l s 0 i, [],b0⟩) (h2:∀j:Nat,l.findIdx? (fun x:GraT=>x.sl==s)=some j→Q .ret ⟨AFo9 l s j j, [],b0⟩):
 WR Ev AMl9 (l.length+1) ⟨AFo9 l s 0 (0:Nat), [],b0⟩ Q:=by
 refine WR.findL (X:=⟨BLf9, [],wlW Ev,Ev.Y,false⟩) (k:=100) [0,1,4,7,8] mixed (CX.Ok.of BLe9 Zar) l (fun x:GraT=>x.sl==s) (fun i=>AFo9 l s 0 (i:Nat)) (fun i=>AFo9 l s (i:Nat) (i:Nat)) [] 0 (fun i x hi hxi K k1 k2=> ?_) (fun K k1=> ?_) (fun h=>h1 h _) h2
 ·refine Eq.mpr (BRf9 _ _ _ K l s i) ?_;rw [ABb9 hxi];refine Zas (by simp;omega) (Zas (natI i) ⟨_,_,_,_,_,rfl,x,s,_,rfl,rfl,Zax (fun g=>k1 g) fun g=> ?_⟩);rw [wrapN (by omega)];exact k2 g
 ·refine Eq.mpr (BRf9 _ _ _ K l s _) ?_;exact Zci (by simp) k1
def AUj9 {β:Type}:WLT β:=fun cd tm hp b K=>∃(l:List GraT) (s:Int) (q:Int),cd= .loop AMl9∧AAn9 [0,1,4,7,8] 0 tm=AFo9 l s 0 0∧hp= []∧(l.length≤9223372036854775807∧q=idxS (fun x:GraT=>x.sl==s) l)∧(∀i:Int,q= -1→K (.exit 0) (AFo9 l s 0 i) [] b)∧(∀i:Int,0≤q→K .ret (AFo9 l s q i) [] b)
theorem AZk9:WlOk Ev AUj9:=by
 rintro c tm hp b K ⟨l,s,q,rfl,htm,rfl,⟨hl,rfl⟩,hK1,hK2⟩;refine W.cast (htm▸AAc9 _ tm 0) (Zbg _) ?_;exact W.rounds (BUa9 (Q:=fun e s=>K e s.tm s.hp s.b) l s hl (fun h i=>hK1 i (AAq9 h)) fun j h=>by have:=hK2 j (by rw [AAj9 h];omega);rwa [AAj9 h] at this)
theorem BAo9 (l:List GraT) (s:Int):wpFn prog ⟨[], [],AUj9,y,false⟩ 100 f54 [.d (.sl 5 (rowsG l)), .fn (.func 120) [] [.rptr [i64 s]]] b R=(∃(l0:List GraT) (s1:Int) (q2:Int),Zaq AMl9=Zaq AMl9∧(Zad (Zaj 5 (rowsG l))::Zav (Fn.func 120) [] [Zah [i64 s]]::Zab::Zab::Zad (i64 0)::Zab::Zab::Zad (i64 ((Zaa (rowsG l):Nat):Int))::Zad (i64 0)::bds 10 [])=(Zad (Zaj 5 (rowsG l0))::Zav (Fn.func 120) [] [Zah [i64 s1]]::Zab::Zab::Zad (i64 0)::Zab::Zab::Zad (i64 ((Zaa l0:Nat):Int))::Zad (i64 0)::bds 10 [])∧([]:List Blk)= []∧(Zaa l0≤9223372036854775807∧q2=idxS (fun (x3:GraT)=>Zds x3==s1) l0)∧(∀(i:Int),q2=(-1:Int)→R (.d (i64 (-1))) b)∧∀(i:Int),(0:Int)≤q2→R (.d (i64 q2)) b):=by kernel_rfl
def AYi9:CF:=fun args K=>∃(l:List GraT) (s:Int) (q:Int),args= [.d (.sl 5 (rowsG l)), .fn (.func 120) [] [.rptr [i64 s]]]∧(l.length≤9223372036854775807∧q=idxS (fun x:GraT=>x.sl==s) l)∧K (.d (i64 q))
theorem AVs9:COk 54 AYi9:=by
 rintro _ K ⟨l,s,_,rfl,⟨hl,rfl⟩,hk⟩;refine ⟨_, ?_,hk⟩;refine pcW @AUj9 Zai AZk9 func54 fun Ev bb=> ?_;rw [BAo9,AAd9];exact ⟨l,s,_,rfl,rfl,rfl,⟨hl,rfl⟩,fun i h=>by rw [h],fun i h=>rfl⟩
def BTk9:CT:= [(54,AYi9)]
theorem BLk9:AAb9 prog BTk9:=Zag AVs9 Zai
theorem BBe9 (l:List GraT) (s:Int):wpFn prog ⟨BTk9, [],wl,y,false⟩ 100 f87 [.d (.sl 5 (rowsG l)), .fn (.func 120) [] [.rptr [i64 s]]] b R=(∃(l0:List GraT) (s1:Int) (q2:Int), [Zad (Zaj 5 (rowsG l)),Zav (Fn.func 120) [] [Zah [i64 s]]]= [Zad (Zaj 5 (rowsG l0)),Zav (Fn.func 120) [] [Zah [i64 s1]]]∧(Zaa l0≤9223372036854775807∧q2=idxS (fun (x3:GraT)=>Zds x3==s1) l0)∧R (.d (bo (decide (q2≥(0:Int))))) b):=by kernel_rfl
def AYr9:CF:=fun args K=>∃(l:List GraT) (s:Int) (q:Bool),args= [.d (.sl 5 (rowsG l)), .fn (.func 120) [] [.rptr [i64 s]]]∧(l.length≤9223372036854775807∧q=l.any (fun x:GraT=>x.sl==s))∧K (.d (bo q))
theorem AWa9:COk 87 AYr9:=by
 rintro _ K ⟨l,s,_,rfl,⟨hl,rfl⟩,hk⟩;refine ⟨_, ?_,hk⟩;refine pcO BLk9 func87 fun Ev bb=> ?_;rw [BBe9];exact ⟨l,s,_,rfl,⟨hl,rfl⟩,by rw [AFt9]⟩
variable {Ev:Env prog} {b0:Ev.β} {Q:Exit→St Ev.β→Prop}
structure SideT where
 lay:LayT
 me:Int
 ns:List NearT
 fr:Int
def sideD (s:SideT):List Dv:= [i64 s.lay.no,i64 s.lay.da,i64 s.me, .sl 31 (rowsN s.ns),i64 s.fr]
theorem BOw9 (x:NearT) (pe:Int):wpFn prog ⟨[], [],wl,y,false⟩ 100 f83 ([nearA x]++ [.rptr [i64 pe]]) b R=(R (Zad (bo (Zcy x==pe))) b):=by kernel_rfl
def BSr9:CF:=fun args K=>∃(x:NearT) (pe:Int) (q:Bool),args= [nearA x]++ [.rptr [i64 pe]]∧(q=(fun x:NearT=>x.fm==pe) x)∧K (.d (bo q))
theorem BKb9:COk 83 BSr9:=by
 rintro _ K ⟨x,pe,_,rfl,rfl,hk⟩;refine ⟨_, ?_,hk⟩;refine pcO Zai func83 fun Ev bb=> ?_;rw [BOw9]
def BZt9:CT:= [(83,BSr9)]
theorem BQn9:AAb9 prog BZt9:=Zag BKb9 Zai
noncomputable def ASh9:Code:=sub [1,0,1,2,3] (code f82)
def AIj9 (l:List NearT) (pe:Int) (q i:Int):List AV:= [.d (.sl 31 (rowsN l)), .fn (.func 83) [] [.rptr [i64 pe]], .bad, .bad, .d (i64 q), .bad, .bad, .d (i64 l.length), .d (i64 i)]++Zam 10 .bad
theorem CDq9 (l:List NearT) (pe:Int) (i:Int):wpc prog ⟨BZt9, [],wl,y,false⟩ 100 ASh9 (AIj9 l pe 0 i) [] b (maskK 0 [0,1,4,7,8] K)=(BIf (decide (i<((Zaa l:Nat):Int))) (BIf (true&&decide (0≤i)) (∃(n0:NearT),(rowsN l)[Zak i]? =some (nearR n0)∧∃(x3:NearT) (pe4:Int) (q5:Bool), [nearA n0,Zah [i64 pe]]= [nearA x3,Zah [i64 pe4]]∧q5=(Zcy x3==pe4)∧BIf q5 (K .ret (Zad (Zaj 31 (rowsN l))::Zav (Fn.func 83) [] [Zah [i64 pe]]::Zab::Zab::Zad (i64 i)::Zab::Zab::Zad (i64 ((Zaa l:Nat):Int))::Zad (i64 i)::bds 10 []) [] b) (K .normal (Zad (Zaj 31 (rowsN l))::Zav (Fn.func 83) [] [Zah [i64 pe]]::Zab::Zab::Zad (i64 0)::Zab::Zab::Zad (i64 ((Zaa l:Nat):Int))::Zad (i64 (Zac .i64 (i+1)))::bds 10 []) [] b)) False) (K (Zba 0) (Zad (Zaj 31 (rowsN l))::Zav (Fn.func 83) [] [Zah [i64 pe]]::Zab::Zab::Zad (i64 0)::Zab::Zab::Zad (i64 ((Zaa l:Nat):Int))::Zad (i64 i)::bds 10 []) [] b)):=by kernel_rfl
theorem CAp9 (l:List NearT) (pe:Int) (hl:l.length≤9223372036854775807) (h1:l.findIdx? (fun x:NearT=>x.fm==pe)=none→∀i:Int,Q (.exit 0) ⟨AIj9 l pe 0 i, [],b0⟩) (h2:∀j:Nat,l.findIdx? (fun x:NearT=>x.fm==pe)=some j→Q .ret ⟨AIj9 l pe j j, [],b0⟩):
 WR Ev ASh9 (l.length+1) ⟨AIj9 l pe 0 (0:Nat), [],b0⟩ Q:=by
 refine WR.findL (X:=⟨BZt9, [],wlW Ev,Ev.Y,false⟩) (k:=100) [0,1,4,7,8] mixed (CX.Ok.of BQn9 Zar) l (fun x:NearT=>x.fm==pe) (fun i=>AIj9 l pe 0 (i:Nat)) (fun i=>AIj9 l pe (i:Nat) (i:Nat)) [] 0 (fun i x hi hxi K k1 k2=> ?_) (fun K k1=> ?_) (fun h=>h1 h _) h2
 ·refine Eq.mpr (CDq9 _ _ _ K l pe i) ?_;rw [AAr9 hxi];refine Zas (by simp;omega) (Zas (natI i) ⟨_,rfl,x,pe,_,rfl,rfl,Zax (fun g=>k1 g) fun g=> ?_⟩);rw [wrapN (by omega)];exact k2 g
 ·refine Eq.mpr (CDq9 _ _ _ K l pe _) ?_;exact Zci (by simp) k1
def BDs9 {β:Type}:WLT β:=fun cd tm hp b K=>∃(l:List NearT) (pe:Int) (q:Int),cd= .loop ASh9∧AAn9 [0,1,4,7,8] 0 tm=AIj9 l pe 0 0∧hp= []∧(l.length≤9223372036854775807∧q=idxS (fun x:NearT=>x.fm==pe) l)∧(∀i:Int,q= -1→K (.exit 0) (AIj9 l pe 0 i) [] b)∧(∀i:Int,0≤q→K .ret (AIj9 l pe q i) [] b)
theorem BDr9:WlOk Ev BDs9:=by
 rintro c tm hp b K ⟨l,pe,q,rfl,htm,rfl,⟨hl,rfl⟩,hK1,hK2⟩;refine W.cast (htm▸AAc9 _ tm 0) (Zbg _) ?_;exact W.rounds (CAp9 (Q:=fun e s=>K e s.tm s.hp s.b) l pe hl (fun h i=>hK1 i (AAq9 h)) fun j h=>by have:=hK2 j (by rw [AAj9 h];omega);rwa [AAj9 h] at this)
theorem BGe9 (l:List NearT) (pe:Int):wpFn prog ⟨[], [],BDs9,y,false⟩ 100 f82 [.d (.sl 31 (rowsN l)), .fn (.func 83) [] [.rptr [i64 pe]]] b R=(∃(l0:List NearT) (pe1:Int) (q2:Int),Zaq ASh9=Zaq ASh9∧(Zad (Zaj 31 (rowsN l))::Zav (Fn.func 83) [] [Zah [i64 pe]]::Zab::Zab::Zad (i64 0)::Zab::Zab::Zad (i64 ((Zaa (rowsN l):Nat):Int))::Zad (i64 0)::bds 10 [])=(Zad (Zaj 31 (rowsN l0))::Zav (Fn.func 83) [] [Zah [i64 pe1]]::Zab::Zab::Zad (i64 0)::Zab::Zab::Zad (i64 ((Zaa l0:Nat):Int))::Zad (i64 0)::bds 10 [])∧([]:List Blk)= []∧(Zaa l0≤9223372036854775807∧q2=idxS (fun (x3:NearT)=>Zcy x3==pe1) l0)∧(∀(i:Int),q2=(-1:Int)→R (.d (i64 (-1))) b)∧∀(i:Int),(0:Int)≤q2→R (.d (i64 q2)) b):=by kernel_rfl
def BIz9:CF:=fun args K=>∃(l:List NearT) (pe:Int) (q:Int),args= [.d (.sl 31 (rowsN l)), .fn (.func 83) [] [.rptr [i64 pe]]]∧(l.length≤9223372036854775807∧q=idxS (fun x:NearT=>x.fm==pe) l)∧K (.d (i64 q))
theorem BBo9:COk 82 BIz9:=by
 rintro _ K ⟨l,pe,_,rfl,⟨hl,rfl⟩,hk⟩;refine ⟨_, ?_,hk⟩;refine pcW @BDs9 Zai BDr9 func82 fun Ev bb=> ?_;rw [BGe9,ABe9];exact ⟨l,pe,_,rfl,rfl,rfl,⟨hl,rfl⟩,fun i h=>by rw [h],fun i h=>rfl⟩
theorem BYb9 (x:GraT) (sl:Int) (of:Int) (s:SideT):wpFn prog ⟨[], [],wl,y,false⟩ 100 f88 ([graA x]++ [.rptr [i64 sl,i64 of], .rptr [.pt (sideD s)]]) b R=(BIf (Zds x==sl&&(GraT.of x==of&&true)) (R (.d (bo (GraT.pe x !=SideT.me s))) b) (R (.d (bo false)) b)):=by kernel_rfl
def CGl9:CF:=fun args K=>∃(x:GraT) (sl:Int) (of:Int) (s:SideT) (q:Bool),args= [graA x]++ [.rptr [i64 sl,i64 of], .rptr [.pt (sideD s)]]∧(q=(fun x:GraT=>(x.sl==sl&&x.of==of)&& !(x.pe==s.me)) x)∧K (.d (bo q))
theorem BPt9:COk 88 CGl9:=by
 rintro _ K ⟨x,sl,of,s,_,rfl,rfl,hk⟩;refine ⟨_, ?_,hk⟩;refine pcO Zai func88 fun Ev bb=> ?_;rw [BYb9];have e:(x.sl==sl&&(x.of==of&&true))=(x.sl==sl&&x.of==of):=by simp
 rw [e];refine Zax (fun h=> ?_) fun h=> ?_
 ·simp only [h,Zec]<;>rfl
 ·simp only [h,Zdb]
def TIFgn:CT:= [(88,CGl9)]
theorem BZu9:AAb9 prog TIFgn:=Zag BPt9 Zai
noncomputable def BFo9:Code:=sub [1,0,1,2,3] (code f54)
def AOt9 (l:List GraT) (sl:Int) (of:Int) (s:SideT) (q i:Int):List AV:= [.d (.sl 5 (rowsG l)), .fn (.func 88) [] [.rptr [i64 sl,i64 of], .rptr [.pt (sideD s)]], .bad, .bad, .d (i64 q), .bad, .bad, .d (i64 l.length), .d (i64 i)]++Zam 10 .bad
abbrev Qz2 (v0:SideT):= [i64 (Zeg (SideT.lay v0)),i64 (Zbr (SideT.lay v0)),i64 (SideT.me v0),Zaj 31 (rowsN (SideT.ns v0)),i64 (SideT.fr v0)]
abbrev Qz17 (v0:Int) (v1:Int) (v2:SideT):List AV:= [Zah [i64 v0,i64 v1],Zah [Zdo (Qz2 v2)]]
theorem rIFgn (l:List GraT) (sl:Int) (of:Int) (s:SideT) (i:Int):wpc prog ⟨TIFgn, [],wl,y,false⟩ 100 BFo9 (AOt9 l sl of s 0 i) [] b (maskK 0 [0,1,4,7,8] K)=(BIf (decide (i<((Zaa l:Nat):Int))) (BIf (true&&decide (0≤i)) (∃(x0:Int) (x1:Int) (x2:Int) (x3:Int) (x4:Int),(rowsG l)[Zak i]? =some (Qz27 x0 x1 x2 x3 x4)∧∃(x7:GraT) (sl8:Int) (of9:Int) (s10:SideT) (q11:Bool), [Zan (Qz15 x0 x1 x2 x3 x4),Zah [i64 sl,i64 of],Zah [Zdo (Qz2 s)]]= [Zan (Qz5 x7),Zah [i64 sl8,i64 of9],Zah [Zdo (Qz2 s10)]]∧q11=(Zds x7==sl8&&GraT.of x7==of9&& !GraT.pe x7==SideT.me s10)∧BIf q11 (K .ret (Zad (Zaj 5 (rowsG l))::Zav (Fn.func 88) [] (Qz17 sl of s)::Zab::Zab::Zad (i64 i)::Zab::Zab::Zad (i64 ((Zaa l:Nat):Int))::Zad (i64 i)::bds 10 []) [] b) (K .normal (Zad (Zaj 5 (rowsG l))::Zav (Fn.func 88) [] (Qz17 sl of s)::Zab::Zab::Zad (i64 0)::Zab::Zab::Zad (i64 ((Zaa l:Nat):Int))::Zad (i64 (Zac .i64 (i+1)))::bds 10 []) [] b)) False) (K (Zba 0) (Zad (Zaj 5 (rowsG l))::Zav (Fn.func 88) [] (Qz17 sl of s)::Zab::Zab::Zad (i64 0)::Zab::Zab::Zad (i64 ((Zaa l:Nat):Int))::Zad (i64 i)::bds 10 []) [] b)):=by kernel_rfl
theorem CIb9 (l:List GraT) (sl:Int) (of:Int) (s:SideT) (hl:l.length≤9223372036854775807) (h1:l.findIdx? (fun x:GraT=>(x.sl==sl&&x.of==of)&& !(x.pe==s.me))=none→∀i:Int,Q (.exit 0) ⟨AOt9 l sl of s 0 i, [],b0⟩) (h2:∀j:Nat,l.findIdx? (fun x:GraT=>(x.sl==sl&&x.of==of)&& !(x.pe==s.me))=some j→Q .ret ⟨AOt9 l sl of s j j, [],b0⟩):
 WR Ev BFo9 (l.length+1) ⟨AOt9 l sl of s 0 (0:Nat), [],b0⟩ Q:=by
 refine WR.findL (X:=⟨TIFgn, [],wlW Ev,Ev.Y,false⟩) (k:=100) [0,1,4,7,8] mixed (CX.Ok.of BZu9 Zar) l (fun x:GraT=>(x.sl==sl&&x.of==of)&& !(x.pe==s.me)) (fun i=>AOt9 l sl of s 0 (i:Nat)) (fun i=>AOt9 l sl of s (i:Nat) (i:Nat)) [] 0 (fun i x hi hxi K k1 k2=> ?_) (fun K k1=> ?_) (fun h=>h1 h _) h2
 ·refine Eq.mpr (rIFgn _ _ _ K l sl of s i) ?_;rw [ABb9 hxi];refine Zas (by simp;omega) (Zas (natI i) ⟨_,_,_,_,_,rfl,x,sl,of,s,_,rfl,rfl,Zax (fun g=>k1 g) fun g=> ?_⟩);rw [wrapN (by omega)];exact k2 g
 ·refine Eq.mpr (rIFgn _ _ _ K l sl of s _) ?_;exact Zci (by simp) k1
def BUg9 {β:Type}:WLT β:=fun cd tm hp b K=>∃(l:List GraT) (sl:Int) (of:Int) (s:SideT) (q:Int),cd= .loop BFo9∧AAn9 [0,1,4,7,8] 0 tm=AOt9 l sl of s 0 0∧hp= []∧(l.length≤9223372036854775807∧q=idxS (fun x:GraT=>(x.sl==sl&&x.of==of)&& !(x.pe==s.me)) l)∧(∀i:Int,q= -1→K (.exit 0) (AOt9 l sl of s 0 i) [] b)∧(∀i:Int,0≤q→K .ret (AOt9 l sl of s q i) [] b)
theorem BLs9:WlOk Ev BUg9:=by
 rintro c tm hp b K ⟨l,sl,of,s,q,rfl,htm,rfl,⟨hl,rfl⟩,hK1,hK2⟩;refine W.cast (htm▸AAc9 _ tm 0) (Zbg _) ?_;exact W.rounds (CIb9 (Q:=fun e s=>K e s.tm s.hp s.b) l sl of s hl (fun h i=>hK1 i (AAq9 h)) fun j h=>by have:=hK2 j (by rw [AAj9 h];omega);rwa [AAj9 h] at this)
theorem BNs9 (l:List GraT) (sl:Int) (of:Int) (s:SideT):wpFn prog ⟨[], [],BUg9,y,false⟩ 100 f54 [.d (.sl 5 (rowsG l)), .fn (.func 88) [] [.rptr [i64 sl,i64 of], .rptr [.pt (sideD s)]]] b R=(∃(l0:List GraT) (sl1:Int) (of2:Int) (s3:SideT) (q4:Int),Zaq BFo9=Zaq BFo9∧(Zad (Zaj 5 (rowsG l))::Zav (Fn.func 88) [] (Qz17 sl of s)::Zab::Zab::Zad (i64 0)::Zab::Zab::Zad (i64 ((Zaa (rowsG l):Nat):Int))::Zad (i64 0)::bds 10 [])=(Zad (Zaj 5 (rowsG l0))::Zav (Fn.func 88) [] (Qz17 sl1 of2 s3)::Zab::Zab::Zad (i64 0)::Zab::Zab::Zad (i64 ((Zaa l0:Nat):Int))::Zad (i64 0)::bds 10 [])∧([]:List Blk)= []∧(Zaa l0≤9223372036854775807∧q4=idxS (fun (x5:GraT)=>Zds x5==sl1&&GraT.of x5==of2&& !GraT.pe x5==SideT.me s3) l0)∧(∀(i:Int),q4=(-1:Int)→R (.d (i64 (-1))) b)∧∀(i:Int),(0:Int)≤q4→R (.d (i64 q4)) b):=by kernel_rfl
def BSc9:CF:=fun args K=>∃(l:List GraT) (sl:Int) (of:Int) (s:SideT) (q:Int),args= [.d (.sl 5 (rowsG l)), .fn (.func 88) [] [.rptr [i64 sl,i64 of], .rptr [.pt (sideD s)]]]∧(l.length≤9223372036854775807∧q=idxS (fun x:GraT=>(x.sl==sl&&x.of==of)&& !(x.pe==s.me)) l)∧K (.d (i64 q))
theorem BJa9:COk 54 BSc9:=by
 rintro _ K ⟨l,sl,of,s,_,rfl,⟨hl,rfl⟩,hk⟩;refine ⟨_, ?_,hk⟩;refine pcW @BUg9 Zai BLs9 func54 fun Ev bb=> ?_;rw [BNs9,AAd9];exact ⟨l,sl,of,s,_,rfl,rfl,rfl,⟨hl,rfl⟩,fun i h=>by rw [h],fun i h=>rfl⟩
def TCFgn:CT:= [(54,BSc9)]
theorem BZw9:AAb9 prog TCFgn:=Zag BJa9 Zai
theorem BOi9 (l:List GraT) (sl:Int) (of:Int) (s:SideT):wpFn prog ⟨TCFgn, [],wl,y,false⟩ 100 f87 [.d (.sl 5 (rowsG l)), .fn (.func 88) [] [.rptr [i64 sl,i64 of], .rptr [.pt (sideD s)]]] b R=(∃(l0:List GraT) (sl1:Int) (of2:Int) (s3:SideT) (q4:Int), [Zad (Zaj 5 (rowsG l)),Zav (Fn.func 88) [] (Qz17 sl of s)]= [Zad (Zaj 5 (rowsG l0)),Zav (Fn.func 88) [] (Qz17 sl1 of2 s3)]∧(Zaa l0≤9223372036854775807∧q4=idxS (fun (x5:GraT)=>Zds x5==sl1&&GraT.of x5==of2&& !GraT.pe x5==SideT.me s3) l0)∧R (.d (bo (decide (q4≥(0:Int))))) b):=by kernel_rfl
def BSh9:CF:=fun args K=>∃(l:List GraT) (sl:Int) (of:Int) (s:SideT) (q:Bool),args= [.d (.sl 5 (rowsG l)), .fn (.func 88) [] [.rptr [i64 sl,i64 of], .rptr [.pt (sideD s)]]]∧(l.length≤9223372036854775807∧q=l.any (fun x:GraT=>(x.sl==sl&&x.of==of)&& !(x.pe==s.me)))∧K (.d (bo q))
theorem BJk9:COk 87 BSh9:=by
 rintro _ K ⟨l,sl,of,s,_,rfl,⟨hl,rfl⟩,hk⟩;refine ⟨_, ?_,hk⟩;refine pcO BZw9 func87 fun Ev bb=> ?_;rw [BOi9];exact ⟨l,sl,of,s,_,rfl,⟨hl,rfl⟩,by rw [AFt9]⟩
theorem BOn9 (x:AskT) (sl:Int) (of:Int):wpFn prog ⟨[], [],wl,y,false⟩ 100 f44 ([askA x]++ [.rptr [i64 sl,i64 of]]) b R=(R (Zad (bo (Zde x==sl))) b):=by kernel_rfl
def BSk9:CF:=fun args K=>∃(x:AskT) (sl:Int) (of:Int) (q:Bool),args= [askA x]++ [.rptr [i64 sl,i64 of]]∧(q=(fun x:AskT=>x.sl==sl) x)∧K (.d (bo q))
theorem BJs9:COk 44 BSk9:=by
 rintro _ K ⟨x,sl,of,_,rfl,rfl,hk⟩;refine ⟨_, ?_,hk⟩;refine pcO Zai func44 fun Ev bb=> ?_;rw [BOn9]
def BZo9:CT:= [(44,BSk9)]
theorem BQi9:AAb9 prog BZo9:=Zag BJs9 Zai
noncomputable def ASc9:Code:=sub [1,0,1,2,3] (code f90)
def AIe9 (l:List AskT) (sl:Int) (of:Int) (q i:Int):List AV:= [.d (.sl 3 (rowsA l)), .fn (.func 44) [] [.rptr [i64 sl,i64 of]], .bad, .bad, .d (i64 q), .bad, .bad, .d (i64 l.length), .d (i64 i)]++Zam 10 .bad
theorem CDl9 (l:List AskT) (sl:Int) (of:Int) (i:Int):wpc prog ⟨BZo9, [],wl,y,false⟩ 100 ASc9 (AIe9 l sl of 0 i) [] b (maskK 0 [0,1,4,7,8] K)=(BIf (decide (i<((Zaa l:Nat):Int))) (BIf (true&&decide (0≤i)) (∃(x0:Int) (x1:Int) (x2:Int),(rowsA l)[Zak i]? =some [i64 x0,i64 x1,i64 x2]∧∃(x5:AskT) (sl6:Int) (of7:Int) (q8:Bool), [Zan (Qz22 x0 x1 x2),Zah [i64 sl,i64 of]]= [Zan (Qz11 x5),Zah [i64 sl6,i64 of7]]∧q8=(Zde x5==sl6)∧BIf q8 (K .ret (Zad (Zaj 3 (rowsA l))::Zav (Fn.func 44) [] [Zah [i64 sl,i64 of]]::Zab::Zab::Zad (i64 i)::Zab::Zab::Zad (i64 ((Zaa l:Nat):Int))::Zad (i64 i)::bds 10 []) [] b) (K .normal (Zad (Zaj 3 (rowsA l))::Zav (Fn.func 44) [] [Zah [i64 sl,i64 of]]::Zab::Zab::Zad (i64 0)::Zab::Zab::Zad (i64 ((Zaa l:Nat):Int))::Zad (i64 (Zac .i64 (i+1)))::bds 10 []) [] b)) False) (K (Zba 0) (Zad (Zaj 3 (rowsA l))::Zav (Fn.func 44) [] [Zah [i64 sl,i64 of]]::Zab::Zab::Zad (i64 0)::Zab::Zab::Zad (i64 ((Zaa l:Nat):Int))::Zad (i64 i)::bds 10 []) [] b)):=by kernel_rfl
theorem CAk9 (l:List AskT) (sl:Int) (of:Int) (hl:l.length≤9223372036854775807) (h1:l.findIdx? (fun x:AskT=>x.sl==sl)=none→∀i:Int,Q (.exit 0) ⟨AIe9 l sl of 0 i, [],b0⟩) (h2:∀j:Nat,l.findIdx? (fun x:AskT=>x.sl==sl)=some j→Q .ret ⟨AIe9 l sl of j j, [],b0⟩):
 WR Ev ASc9 (l.length+1) ⟨AIe9 l sl of 0 (0:Nat), [],b0⟩ Q:=by
 refine WR.findL (X:=⟨BZo9, [],wlW Ev,Ev.Y,false⟩) (k:=100) [0,1,4,7,8] mixed (CX.Ok.of BQi9 Zar) l (fun x:AskT=>x.sl==sl) (fun i=>AIe9 l sl of 0 (i:Nat)) (fun i=>AIe9 l sl of (i:Nat) (i:Nat)) [] 0 (fun i x hi hxi K k1 k2=> ?_) (fun K k1=> ?_) (fun h=>h1 h _) h2
 ·refine Eq.mpr (CDl9 _ _ _ K l sl of i) ?_;rw [ABd9 hxi];refine Zas (by simp;omega) (Zas (natI i) ⟨_,_,_,rfl,x,sl,of,_,rfl,rfl,Zax (fun g=>k1 g) fun g=> ?_⟩);rw [wrapN (by omega)];exact k2 g
 ·refine Eq.mpr (CDl9 _ _ _ K l sl of _) ?_;exact Zci (by simp) k1
def BDi9 {β:Type}:WLT β:=fun cd tm hp b K=>∃(l:List AskT) (sl:Int) (of:Int) (q:Int),cd= .loop ASc9∧AAn9 [0,1,4,7,8] 0 tm=AIe9 l sl of 0 0∧hp= []∧(l.length≤9223372036854775807∧q=idxS (fun x:AskT=>x.sl==sl) l)∧(∀i:Int,q= -1→K (.exit 0) (AIe9 l sl of 0 i) [] b)∧(∀i:Int,0≤q→K .ret (AIe9 l sl of q i) [] b)
theorem BDh9:WlOk Ev BDi9:=by
 rintro c tm hp b K ⟨l,sl,of,q,rfl,htm,rfl,⟨hl,rfl⟩,hK1,hK2⟩;refine W.cast (htm▸AAc9 _ tm 0) (Zbg _) ?_;exact W.rounds (CAk9 (Q:=fun e s=>K e s.tm s.hp s.b) l sl of hl (fun h i=>hK1 i (AAq9 h)) fun j h=>by have:=hK2 j (by rw [AAj9 h];omega);rwa [AAj9 h] at this)
theorem BFz9 (l:List AskT) (sl:Int) (of:Int):wpFn prog ⟨[], [],BDi9,y,false⟩ 100 f90 [.d (.sl 3 (rowsA l)), .fn (.func 44) [] [.rptr [i64 sl,i64 of]]] b R=(∃(l0:List AskT) (sl1:Int) (of2:Int) (q3:Int),Zaq ASc9=Zaq ASc9∧(Zad (Zaj 3 (rowsA l))::Zav (Fn.func 44) [] [Zah [i64 sl,i64 of]]::Zab::Zab::Zad (i64 0)::Zab::Zab::Zad (i64 ((Zaa (rowsA l):Nat):Int))::Zad (i64 0)::bds 10 [])=(Zad (Zaj 3 (rowsA l0))::Zav (Fn.func 44) [] [Zah [i64 sl1,i64 of2]]::Zab::Zab::Zad (i64 0)::Zab::Zab::Zad (i64 ((Zaa l0:Nat):Int))::Zad (i64 0)::bds 10 [])∧([]:List Blk)= []∧(Zaa l0≤9223372036854775807∧q3=idxS (fun (x4:AskT)=>Zde x4==sl1) l0)∧(∀(i:Int),q3=(-1:Int)→R (.d (i64 (-1))) b)∧∀(i:Int),(0:Int)≤q3→R (.d (i64 q3)) b):=by kernel_rfl
def BIu9:CF:=fun args K=>∃(l:List AskT) (sl:Int) (of:Int) (q:Int),args= [.d (.sl 3 (rowsA l)), .fn (.func 44) [] [.rptr [i64 sl,i64 of]]]∧(l.length≤9223372036854775807∧q=idxS (fun x:AskT=>x.sl==sl) l)∧K (.d (i64 q))
theorem BBj9:COk 90 BIu9:=by
 rintro _ K ⟨l,sl,of,_,rfl,⟨hl,rfl⟩,hk⟩;refine ⟨_, ?_,hk⟩;refine pcW @BDi9 Zai BDh9 func90 fun Ev bb=> ?_;rw [BFz9,AAi9];exact ⟨l,sl,of,_,rfl,rfl,rfl,⟨hl,rfl⟩,fun i h=>by rw [h],fun i h=>rfl⟩
def CHs9:CT:= [(90,BIu9)]
theorem BQq9:AAb9 prog CHs9:=Zag BBj9 Zai
theorem BHn9 (l:List AskT) (sl:Int) (of:Int):wpFn prog ⟨CHs9, [],wl,y,false⟩ 100 f43 [.d (.sl 3 (rowsA l)), .fn (.func 44) [] [.rptr [i64 sl,i64 of]]] b R=(∃(l0:List AskT) (sl1:Int) (of2:Int) (q3:Int), [Zad (Zaj 3 (rowsA l)),Zav (Fn.func 44) [] [Zah [i64 sl,i64 of]]]= [Zad (Zaj 3 (rowsA l0)),Zav (Fn.func 44) [] [Zah [i64 sl1,i64 of2]]]∧(Zaa l0≤9223372036854775807∧q3=idxS (fun (x4:AskT)=>Zde x4==sl1) l0)∧R (.d (bo (decide (q3≥(0:Int))))) b):=by kernel_rfl
def BJi9:CF:=fun args K=>∃(l:List AskT) (sl:Int) (of:Int) (q:Bool),args= [.d (.sl 3 (rowsA l)), .fn (.func 44) [] [.rptr [i64 sl,i64 of]]]∧(l.length≤9223372036854775807∧q=l.any (fun x:AskT=>x.sl==sl))∧K (.d (bo q))
theorem AOe9:COk 43 BJi9:=by
 rintro _ K ⟨l,sl,of,_,rfl,⟨hl,rfl⟩,hk⟩;refine ⟨_, ?_,hk⟩;refine pcO BQq9 func43 fun Ev bb=> ?_;rw [BHn9];exact ⟨l,sl,of,_,rfl,⟨hl,rfl⟩,by rw [AFt9]⟩
theorem BHr9 (x:UseT) (sl:Int) (of:Int) (s:SideT):wpFn prog ⟨[], [],wl,y,false⟩ 100 f99 ([useA x]++ [.rptr [i64 sl,i64 of], .rptr [.pt (sideD s)]]) b R=(BIf (Zdl x==sl&&(Zfs x==of&&true)) (R (.d (bo (UseT.pe x==SideT.me s))) b) (R (.d (bo false)) b)):=by kernel_rfl
def BJq9:CF:=fun args K=>∃(x:UseT) (sl:Int) (of:Int) (s:SideT) (q:Bool),args= [useA x]++ [.rptr [i64 sl,i64 of], .rptr [.pt (sideD s)]]∧(q=(fun x:UseT=>(x.sl==sl&&x.of==of)&&x.pe==s.me) x)∧K (.d (bo q))
theorem BBu9:COk 99 BJq9:=by
 rintro _ K ⟨x,sl,of,s,_,rfl,rfl,hk⟩;refine ⟨_, ?_,hk⟩;refine pcO Zai func99 fun Ev bb=> ?_;rw [BHr9];have e:(x.sl==sl&&(x.of==of&&true))=(x.sl==sl&&x.of==of):=by simp
 rw [e];refine Zax (fun h=> ?_) fun h=> ?_
 ·simp only [h,Zec]<;>rfl
 ·simp only [h,Zdb]
def BKx9:CT:= [(99,BJq9)]
theorem BKw9:AAb9 prog BKx9:=Zag BBu9 Zai
noncomputable def AMh9:Code:=sub [1,0,1,2,3] (code f133)
def AFk9 (l:List UseT) (sl:Int) (of:Int) (s:SideT) (q i:Int):List AV:= [.d (.sl 4 (rowsU l)), .fn (.func 99) [] [.rptr [i64 sl,i64 of], .rptr [.pt (sideD s)]], .bad, .bad, .d (i64 q), .bad, .bad, .d (i64 l.length), .d (i64 i)]++Zam 10 .bad
theorem BRb9 (l:List UseT) (sl:Int) (of:Int) (s:SideT) (i:Int):wpc prog ⟨BKx9, [],wl,y,false⟩ 100 AMh9 (AFk9 l sl of s 0 i) [] b (maskK 0 [0,1,4,7,8] K)=(BIf (decide (i<((Zaa l:Nat):Int))) (BIf (true&&decide (0≤i)) (∃(x0:Int) (x1:Int) (x2:Int) (x3:Int),(rowsU l)[Zak i]? =some [i64 x0,i64 x1,i64 x2,i64 x3]∧∃(x6:UseT) (sl7:Int) (of8:Int) (s9:SideT) (q10:Bool), [Zan (Qz30 x0 x1 x2 x3),Zah [i64 sl,i64 of],Zah [Zdo (Qz2 s)]]= [Zan (Qz6 x6),Zah [i64 sl7,i64 of8],Zah [Zdo (Qz2 s9)]]∧q10=(Zdl x6==sl7&&Zfs x6==of8&&UseT.pe x6==SideT.me s9)∧BIf q10 (K .ret (Zad (Zaj 4 (rowsU l))::Zav (Fn.func 99) [] (Qz17 sl of s)::Zab::Zab::Zad (i64 i)::Zab::Zab::Zad (i64 ((Zaa l:Nat):Int))::Zad (i64 i)::bds 10 []) [] b) (K .normal (Zad (Zaj 4 (rowsU l))::Zav (Fn.func 99) [] (Qz17 sl of s)::Zab::Zab::Zad (i64 0)::Zab::Zab::Zad (i64 ((Zaa l:Nat):Int))::Zad (i64 (Zac .i64 (i+1)))::bds 10 []) [] b)) False) (K (Zba 0) (Zad (Zaj 4 (rowsU l))::Zav (Fn.func 99) [] (Qz17 sl of s)::Zab::Zab::Zad (i64 0)::Zab::Zab::Zad (i64 ((Zaa l:Nat):Int))::Zad (i64 i)::bds 10 []) [] b)):=by kernel_rfl
theorem BTw9 (l:List UseT) (sl:Int) (of:Int) (s:SideT) (hl:l.length≤9223372036854775807) (h1:l.findIdx? (fun x:UseT=>(x.sl==sl&&x.of==of)&&x.pe==s.me)=none→∀i:Int,Q (.exit 0) ⟨AFk9 l sl of s 0 i, [],b0⟩) (h2:∀j:Nat,l.findIdx? (fun x:UseT=>(x.sl==sl&&x.of==of)&&x.pe==s.me)=some j→Q .ret ⟨AFk9 l sl of s j j, [],b0⟩):
 WR Ev AMh9 (l.length+1) ⟨AFk9 l sl of s 0 (0:Nat), [],b0⟩ Q:=by
 refine WR.findL (X:=⟨BKx9, [],wlW Ev,Ev.Y,false⟩) (k:=100) [0,1,4,7,8] mixed (CX.Ok.of BKw9 Zar) l (fun x:UseT=>(x.sl==sl&&x.of==of)&&x.pe==s.me) (fun i=>AFk9 l sl of s 0 (i:Nat)) (fun i=>AFk9 l sl of s (i:Nat) (i:Nat)) [] 0 (fun i x hi hxi K k1 k2=> ?_) (fun K k1=> ?_) (fun h=>h1 h _) h2
 ·refine Eq.mpr (BRb9 _ _ _ K l sl of s i) ?_;rw [ABl9 hxi];refine Zas (by simp;omega) (Zas (natI i) ⟨_,_,_,_,rfl,x,sl,of,s,_,rfl,rfl,Zax (fun g=>k1 g) fun g=> ?_⟩);rw [wrapN (by omega)];exact k2 g
 ·refine Eq.mpr (BRb9 _ _ _ K l sl of s _) ?_;exact Zci (by simp) k1
def AUf9 {β:Type}:WLT β:=fun cd tm hp b K=>∃(l:List UseT) (sl:Int) (of:Int) (s:SideT) (q:Int),cd= .loop AMh9∧AAn9 [0,1,4,7,8] 0 tm=AFk9 l sl of s 0 0∧hp= []∧(l.length≤9223372036854775807∧q=idxS (fun x:UseT=>(x.sl==sl&&x.of==of)&&x.pe==s.me) l)∧(∀i:Int,q= -1→K (.exit 0) (AFk9 l sl of s 0 i) [] b)∧(∀i:Int,0≤q→K .ret (AFk9 l sl of s q i) [] b)
theorem AZg9:WlOk Ev AUf9:=by
 rintro c tm hp b K ⟨l,sl,of,s,q,rfl,htm,rfl,⟨hl,rfl⟩,hK1,hK2⟩;refine W.cast (htm▸AAc9 _ tm 0) (Zbg _) ?_;exact W.rounds (BTw9 (Q:=fun e s=>K e s.tm s.hp s.b) l sl of s hl (fun h i=>hK1 i (AAq9 h)) fun j h=>by have:=hK2 j (by rw [AAj9 h];omega);rwa [AAj9 h] at this)
theorem BAk9 (l:List UseT) (sl:Int) (of:Int) (s:SideT):wpFn prog ⟨[], [],AUf9,y,false⟩ 100 f133 [.d (.sl 4 (rowsU l)), .fn (.func 99) [] [.rptr [i64 sl,i64 of], .rptr [.pt (sideD s)]]] b R=(∃(l0:List UseT) (sl1:Int) (of2:Int) (s3:SideT) (q4:Int),Zaq AMh9=Zaq AMh9∧(Zad (Zaj 4 (rowsU l))::Zav (Fn.func 99) [] (Qz17 sl of s)::Zab::Zab::Zad (i64 0)::Zab::Zab::Zad (i64 ((Zaa (rowsU l):Nat):Int))::Zad (i64 0)::bds 10 [])=(Zad (Zaj 4 (rowsU l0))::Zav (Fn.func 99) [] (Qz17 sl1 of2 s3)::Zab::Zab::Zad (i64 0)::Zab::Zab::Zad (i64 ((Zaa l0:Nat):Int))::Zad (i64 0)::bds 10 [])∧([]:List Blk)= []∧(Zaa l0≤9223372036854775807∧q4=idxS (fun (x5:UseT)=>Zdl x5==sl1&&Zfs x5==of2&&UseT.pe x5==SideT.me s3) l0)∧(∀(i:Int),q4=(-1:Int)→R (.d (i64 (-1))) b)∧∀(i:Int),(0:Int)≤q4→R (.d (i64 q4)) b):=by kernel_rfl
def AYe9:CF:=fun args K=>∃(l:List UseT) (sl:Int) (of:Int) (s:SideT) (q:Int),args= [.d (.sl 4 (rowsU l)), .fn (.func 99) [] [.rptr [i64 sl,i64 of], .rptr [.pt (sideD s)]]]∧(l.length≤9223372036854775807∧q=idxS (fun x:UseT=>(x.sl==sl&&x.of==of)&&x.pe==s.me) l)∧K (.d (i64 q))
theorem AVo9:COk 133 AYe9:=by
 rintro _ K ⟨l,sl,of,s,_,rfl,⟨hl,rfl⟩,hk⟩;refine ⟨_, ?_,hk⟩;refine pcW @AUf9 Zai AZg9 func133 fun Ev bb=> ?_;rw [BAk9,AAe9];exact ⟨l,sl,of,s,_,rfl,rfl,rfl,⟨hl,rfl⟩,fun i h=>by rw [h],fun i h=>rfl⟩
def BTh9:CT:= [(133,AYe9)]
theorem BLh9:AAb9 prog BTh9:=Zag AVo9 Zai
theorem BBb9 (l:List UseT) (sl:Int) (of:Int) (s:SideT):wpFn prog ⟨BTh9, [],wl,y,false⟩ 100 f98 [.d (.sl 4 (rowsU l)), .fn (.func 99) [] [.rptr [i64 sl,i64 of], .rptr [.pt (sideD s)]]] b R=(∃(l0:List UseT) (sl1:Int) (of2:Int) (s3:SideT) (q4:Int), [Zad (Zaj 4 (rowsU l)),Zav (Fn.func 99) [] (Qz17 sl of s)]= [Zad (Zaj 4 (rowsU l0)),Zav (Fn.func 99) [] (Qz17 sl1 of2 s3)]∧(Zaa l0≤9223372036854775807∧q4=idxS (fun (x5:UseT)=>Zdl x5==sl1&&Zfs x5==of2&&UseT.pe x5==SideT.me s3) l0)∧R (.d (bo (decide (q4≥(0:Int))))) b):=by kernel_rfl
def AYo9:CF:=fun args K=>∃(l:List UseT) (sl:Int) (of:Int) (s:SideT) (q:Bool),args= [.d (.sl 4 (rowsU l)), .fn (.func 99) [] [.rptr [i64 sl,i64 of], .rptr [.pt (sideD s)]]]∧(l.length≤9223372036854775807∧q=l.any (fun x:UseT=>(x.sl==sl&&x.of==of)&&x.pe==s.me))∧K (.d (bo q))
theorem AVx9:COk 98 AYo9:=by
 rintro _ K ⟨l,sl,of,s,_,rfl,⟨hl,rfl⟩,hk⟩;refine ⟨_, ?_,hk⟩;refine pcO BLh9 func98 fun Ev bb=> ?_;rw [BBb9];exact ⟨l,sl,of,s,_,rfl,⟨hl,rfl⟩,by rw [AFt9]⟩
theorem BHt9 (x:UseT) (sl:Int) (of:Int):wpFn prog ⟨[], [],wl,y,false⟩ 100 f102 ([useA x]++ [.rptr [i64 sl,i64 of]]) b R=(R (Zad (bo (Zdl x==sl&&(Zfs x==of&&true)))) b):=by kernel_rfl
def BKd9:CF:=fun args K=>∃(x:UseT) (sl:Int) (of:Int) (q:Bool),args= [useA x]++ [.rptr [i64 sl,i64 of]]∧(q=(fun x:UseT=>(x.sl==sl&&x.of==of)) x)∧K (.d (bo q))
theorem BBw9:COk 102 BKd9:=by
 rintro _ K ⟨x,sl,of,_,rfl,rfl,hk⟩;refine ⟨_, ?_,hk⟩;refine pcO Zai func102 fun Ev bb=> ?_;rw [BHt9];simp
def BLb9:CT:= [(102,BKd9)]
theorem BLa9:AAb9 prog BLb9:=Zag BBw9 Zai
noncomputable def AMj9:Code:=sub [1,0,1,2,3] (code f133)
def AFm9 (l:List UseT) (sl:Int) (of:Int) (q i:Int):List AV:= [.d (.sl 4 (rowsU l)), .fn (.func 102) [] [.rptr [i64 sl,i64 of]], .bad, .bad, .d (i64 q), .bad, .bad, .d (i64 l.length), .d (i64 i)]++Zam 10 .bad
theorem BRd9 (l:List UseT) (sl:Int) (of:Int) (i:Int):wpc prog ⟨BLb9, [],wl,y,false⟩ 100 AMj9 (AFm9 l sl of 0 i) [] b (maskK 0 [0,1,4,7,8] K)=(BIf (decide (i<((Zaa l:Nat):Int))) (BIf (true&&decide (0≤i)) (∃(x0:Int) (x1:Int) (x2:Int) (x3:Int),(rowsU l)[Zak i]? =some [i64 x0,i64 x1,i64 x2,i64 x3]∧∃(x6:UseT) (sl7:Int) (of8:Int) (q9:Bool), [Zan (Qz30 x0 x1 x2 x3),Zah [i64 sl,i64 of]]= [Zan (Qz6 x6),Zah [i64 sl7,i64 of8]]∧q9=(Zdl x6==sl7&&Zfs x6==of8)∧BIf q9 (K .ret (Zad (Zaj 4 (rowsU l))::Zav (Fn.func 102) [] [Zah [i64 sl,i64 of]]::Zab::Zab::Zad (i64 i)::Zab::Zab::Zad (i64 ((Zaa l:Nat):Int))::Zad (i64 i)::bds 10 []) [] b) (K .normal (Zad (Zaj 4 (rowsU l))::Zav (Fn.func 102) [] [Zah [i64 sl,i64 of]]::Zab::Zab::Zad (i64 0)::Zab::Zab::Zad (i64 ((Zaa l:Nat):Int))::Zad (i64 (Zac .i64 (i+1)))::bds 10 []) [] b)) False) (K (Zba 0) (Zad (Zaj 4 (rowsU l))::Zav (Fn.func 102) [] [Zah [i64 sl,i64 of]]::Zab::Zab::Zad (i64 0)::Zab::Zab::Zad (i64 ((Zaa l:Nat):Int))::Zad (i64 i)::bds 10 []) [] b)):=by kernel_rfl
theorem BTy9 (l:List UseT) (sl:Int) (of:Int) (hl:l.length≤9223372036854775807) (h1:l.findIdx? (fun x:UseT=>(x.sl==sl&&x.of==of))=none→∀i:Int,Q (.exit 0) ⟨AFm9 l sl of 0 i, [],b0⟩) (h2:∀j:Nat,l.findIdx? (fun x:UseT=>(x.sl==sl&&x.of==of))=some j→Q .ret ⟨AFm9 l sl of j j, [],b0⟩):
 WR Ev AMj9 (l.length+1) ⟨AFm9 l sl of 0 (0:Nat), [],b0⟩ Q:=by
 refine WR.findL (X:=⟨BLb9, [],wlW Ev,Ev.Y,false⟩) (k:=100) [0,1,4,7,8] mixed (CX.Ok.of BLa9 Zar) l (fun x:UseT=>(x.sl==sl&&x.of==of)) (fun i=>AFm9 l sl of 0 (i:Nat)) (fun i=>AFm9 l sl of (i:Nat) (i:Nat)) [] 0 (fun i x hi hxi K k1 k2=> ?_) (fun K k1=> ?_) (fun h=>h1 h _) h2
 ·refine Eq.mpr (BRd9 _ _ _ K l sl of i) ?_;rw [ABl9 hxi];refine Zas (by simp;omega) (Zas (natI i) ⟨_,_,_,_,rfl,x,sl,of,_,rfl,rfl,Zax (fun g=>k1 g) fun g=> ?_⟩);rw [wrapN (by omega)];exact k2 g
 ·refine Eq.mpr (BRd9 _ _ _ K l sl of _) ?_;exact Zci (by simp) k1
def AUh9 {β:Type}:WLT β:=fun cd tm hp b K=>∃(l:List UseT) (sl:Int) (of:Int) (q:Int),cd= .loop AMj9∧AAn9 [0,1,4,7,8] 0 tm=AFm9 l sl of 0 0∧hp= []∧(l.length≤9223372036854775807∧q=idxS (fun x:UseT=>(x.sl==sl&&x.of==of)) l)∧(∀i:Int,q= -1→K (.exit 0) (AFm9 l sl of 0 i) [] b)∧(∀i:Int,0≤q→K .ret (AFm9 l sl of q i) [] b)
theorem AZi9:WlOk Ev AUh9:=by
 rintro c tm hp b K ⟨l,sl,of,q,rfl,htm,rfl,⟨hl,rfl⟩,hK1,hK2⟩;refine W.cast (htm▸AAc9 _ tm 0) (Zbg _) ?_;exact W.rounds (BTy9 (Q:=fun e s=>K e s.tm s.hp s.b) l sl of hl (fun h i=>hK1 i (AAq9 h)) fun j h=>by have:=hK2 j (by rw [AAj9 h];omega);rwa [AAj9 h] at this)
theorem BAm9 (l:List UseT) (sl:Int) (of:Int):wpFn prog ⟨[], [],AUh9,y,false⟩ 100 f133 [.d (.sl 4 (rowsU l)), .fn (.func 102) [] [.rptr [i64 sl,i64 of]]] b R=(∃(l0:List UseT) (sl1:Int) (of2:Int) (q3:Int),Zaq AMj9=Zaq AMj9∧(Zad (Zaj 4 (rowsU l))::Zav (Fn.func 102) [] [Zah [i64 sl,i64 of]]::Zab::Zab::Zad (i64 0)::Zab::Zab::Zad (i64 ((Zaa (rowsU l):Nat):Int))::Zad (i64 0)::bds 10 [])=(Zad (Zaj 4 (rowsU l0))::Zav (Fn.func 102) [] [Zah [i64 sl1,i64 of2]]::Zab::Zab::Zad (i64 0)::Zab::Zab::Zad (i64 ((Zaa l0:Nat):Int))::Zad (i64 0)::bds 10 [])∧([]:List Blk)= []∧(Zaa l0≤9223372036854775807∧q3=idxS (fun (x4:UseT)=>Zdl x4==sl1&&Zfs x4==of2) l0)∧(∀(i:Int),q3=(-1:Int)→R (.d (i64 (-1))) b)∧∀(i:Int),(0:Int)≤q3→R (.d (i64 q3)) b):=by kernel_rfl
def AYg9:CF:=fun args K=>∃(l:List UseT) (sl:Int) (of:Int) (q:Int),args= [.d (.sl 4 (rowsU l)), .fn (.func 102) [] [.rptr [i64 sl,i64 of]]]∧(l.length≤9223372036854775807∧q=idxS (fun x:UseT=>(x.sl==sl&&x.of==of)) l)∧K (.d (i64 q))
theorem AVq9:COk 133 AYg9:=by
 rintro _ K ⟨l,sl,of,_,rfl,⟨hl,rfl⟩,hk⟩;refine ⟨_, ?_,hk⟩;refine pcW @AUh9 Zai AZi9 func133 fun Ev bb=> ?_;rw [BAm9,AAe9];exact ⟨l,sl,of,_,rfl,rfl,rfl,⟨hl,rfl⟩,fun i h=>by rw [h],fun i h=>rfl⟩
def BTi9:CT:= [(133,AYg9)]
theorem BLi9:AAb9 prog BTi9:=Zag AVq9 Zai
theorem BBc9 (l:List UseT) (sl:Int) (of:Int):wpFn prog ⟨BTi9, [],wl,y,false⟩ 100 f98 [.d (.sl 4 (rowsU l)), .fn (.func 102) [] [.rptr [i64 sl,i64 of]]] b R=(∃(l0:List UseT) (sl1:Int) (of2:Int) (q3:Int), [Zad (Zaj 4 (rowsU l)),Zav (Fn.func 102) [] [Zah [i64 sl,i64 of]]]= [Zad (Zaj 4 (rowsU l0)),Zav (Fn.func 102) [] [Zah [i64 sl1,i64 of2]]]∧(Zaa l0≤9223372036854775807∧q3=idxS (fun (x4:UseT)=>Zdl x4==sl1&&Zfs x4==of2) l0)∧R (.d (bo (decide (q3≥(0:Int))))) b):=by kernel_rfl
def AYp9:CF:=fun args K=>∃(l:List UseT) (sl:Int) (of:Int) (q:Bool),args= [.d (.sl 4 (rowsU l)), .fn (.func 102) [] [.rptr [i64 sl,i64 of]]]∧(l.length≤9223372036854775807∧q=l.any (fun x:UseT=>(x.sl==sl&&x.of==of)))∧K (.d (bo q))
theorem AVy9:COk 98 AYp9:=by
 rintro _ K ⟨l,sl,of,_,rfl,⟨hl,rfl⟩,hk⟩;refine ⟨_, ?_,hk⟩;refine pcO BLi9 func98 fun Ev bb=> ?_;rw [BBc9];exact ⟨l,sl,of,_,rfl,⟨hl,rfl⟩,by rw [AFt9]⟩
theorem BHs9 (x:GraT) (u:UseT):wpFn prog ⟨[], [],wl,y,false⟩ 100 f55 ([graA x]++ [.rptr [i64 u.sl,i64 u.of,i64 u.pe,i64 u.st]]) b R=(R (Zad (bo (Zds x==Zdl u&&(GraT.of x==Zfs u&&true)))) b):=by kernel_rfl
def BJr9:CF:=fun args K=>∃(x:GraT) (u:UseT) (q:Bool),args= [graA x]++ [.rptr [i64 u.sl,i64 u.of,i64 u.pe,i64 u.st]]∧(q=(fun x:GraT=>x.sl==u.sl&&x.of==u.of) x)∧K (.d (bo q))
theorem BBv9:COk 55 BJr9:=by
 rintro _ K ⟨x,u,_,rfl,rfl,hk⟩;refine ⟨_, ?_,hk⟩;refine pcO Zai func55 fun Ev bb=> ?_;rw [BHs9];simp
def BKz9:CT:= [(55,BJr9)]
theorem BKy9:AAb9 prog BKz9:=Zag BBv9 Zai
noncomputable def AMi9:Code:=sub [1,0,1,2,3] (code f54)
def AFl9 (l:List GraT) (u:UseT) (q i:Int):List AV:= [.d (.sl 5 (rowsG l)), .fn (.func 55) [] [.rptr [i64 u.sl,i64 u.of,i64 u.pe,i64 u.st]], .bad, .bad, .d (i64 q), .bad, .bad, .d (i64 l.length), .d (i64 i)]++Zam 10 .bad
theorem BRc9 (l:List GraT) (u:UseT) (i:Int):wpc prog ⟨BKz9, [],wl,y,false⟩ 100 AMi9 (AFl9 l u 0 i) [] b (maskK 0 [0,1,4,7,8] K)=(BIf (decide (i<((Zaa l:Nat):Int))) (BIf (true&&decide (0≤i)) (∃(x0:Int) (x1:Int) (x2:Int) (x3:Int) (x4:Int),(rowsG l)[Zak i]? =some (Qz27 x0 x1 x2 x3 x4)∧∃(x7:GraT) (u8:UseT) (q9:Bool), [Zan (Qz15 x0 x1 x2 x3 x4),Zah (Qz13 u)]= [Zan (Qz5 x7),Zah (Qz13 u8)]∧q9=(Zds x7==Zdl u8&&GraT.of x7==Zfs u8)∧BIf q9 (K .ret (Zad (Zaj 5 (rowsG l))::Zav (Fn.func 55) [] [Zah (Qz13 u)]::Zab::Zab::Zad (i64 i)::Zab::Zab::Zad (i64 ((Zaa l:Nat):Int))::Zad (i64 i)::bds 10 []) [] b) (K .normal (Zad (Zaj 5 (rowsG l))::Zav (Fn.func 55) [] [Zah (Qz13 u)]::Zab::Zab::Zad (i64 0)::Zab::Zab::Zad (i64 ((Zaa l:Nat):Int))::Zad (i64 (Zac .i64 (i+1)))::bds 10 []) [] b)) False) (K (Zba 0) (Zad (Zaj 5 (rowsG l))::Zav (Fn.func 55) [] [Zah (Qz13 u)]::Zab::Zab::Zad (i64 0)::Zab::Zab::Zad (i64 ((Zaa l:Nat):Int))::Zad (i64 i)::bds 10 []) [] b)):=by kernel_rfl
theorem BTx9 (l:List GraT) (u:UseT) (hl:l.length≤9223372036854775807) (h1:l.findIdx? (fun x:GraT=>x.sl==u.sl&&x.of==u.of)=none→∀i:Int,Q (.exit 0) ⟨AFl9 l u 0 i, [],b0⟩) (h2:∀j:Nat,l.findIdx? (fun x:GraT=>x.sl==u.sl&&x.of==u.of)=some j→Q .ret ⟨AFl9 l u j j, [],b0⟩):
 WR Ev AMi9 (l.length+1) ⟨AFl9 l u 0 (0:Nat), [],b0⟩ Q:=by
 refine WR.findL (X:=⟨BKz9, [],wlW Ev,Ev.Y,false⟩) (k:=100) [0,1,4,7,8] mixed (CX.Ok.of BKy9 Zar) l (fun x:GraT=>x.sl==u.sl&&x.of==u.of) (fun i=>AFl9 l u 0 (i:Nat)) (fun i=>AFl9 l u (i:Nat) (i:Nat)) [] 0 (fun i x hi hxi K k1 k2=> ?_) (fun K k1=> ?_) (fun h=>h1 h _) h2
 ·refine Eq.mpr (BRc9 _ _ _ K l u i) ?_;rw [ABb9 hxi];refine Zas (by simp;omega) (Zas (natI i) ⟨_,_,_,_,_,rfl,x,u,_,rfl,rfl,Zax (fun g=>k1 g) fun g=> ?_⟩);rw [wrapN (by omega)];exact k2 g
 ·refine Eq.mpr (BRc9 _ _ _ K l u _) ?_;exact Zci (by simp) k1
def AUg9 {β:Type}:WLT β:=fun cd tm hp b K=>∃(l:List GraT) (u:UseT) (q:Int),cd= .loop AMi9∧AAn9 [0,1,4,7,8] 0 tm=AFl9 l u 0 0∧hp= []∧(l.length≤9223372036854775807∧q=idxS (fun x:GraT=>x.sl==u.sl&&x.of==u.of) l)∧(∀i:Int,q= -1→K (.exit 0) (AFl9 l u 0 i) [] b)∧(∀i:Int,0≤q→K .ret (AFl9 l u q i) [] b)
theorem AZh9:WlOk Ev AUg9:=by
 rintro c tm hp b K ⟨l,u,q,rfl,htm,rfl,⟨hl,rfl⟩,hK1,hK2⟩;refine W.cast (htm▸AAc9 _ tm 0) (Zbg _) ?_;exact W.rounds (BTx9 (Q:=fun e s=>K e s.tm s.hp s.b) l u hl (fun h i=>hK1 i (AAq9 h)) fun j h=>by have:=hK2 j (by rw [AAj9 h];omega);rwa [AAj9 h] at this)
theorem BAl9 (l:List GraT) (u:UseT):wpFn prog ⟨[], [],AUg9,y,false⟩ 100 f54 [.d (.sl 5 (rowsG l)), .fn (.func 55) [] [.rptr [i64 u.sl,i64 u.of,i64 u.pe,i64 u.st]]] b R=(∃(l0:List GraT) (u1:UseT) (q2:Int),Zaq AMi9=Zaq AMi9∧(Zad (Zaj 5 (rowsG l))::Zav (Fn.func 55) [] [Zah (Qz13 u)]::Zab::Zab::Zad (i64 0)::Zab::Zab::Zad (i64 ((Zaa (rowsG l):Nat):Int))::Zad (i64 0)::bds 10 [])=(Zad (Zaj 5 (rowsG l0))::Zav (Fn.func 55) [] [Zah (Qz13 u1)]::Zab::Zab::Zad (i64 0)::Zab::Zab::Zad (i64 ((Zaa l0:Nat):Int))::Zad (i64 0)::bds 10 [])∧([]:List Blk)= []∧(Zaa l0≤9223372036854775807∧q2=idxS (fun (x3:GraT)=>Zds x3==Zdl u1&&GraT.of x3==Zfs u1) l0)∧(∀(i:Int),q2=(-1:Int)→R (.d (i64 (-1))) b)∧∀(i:Int),(0:Int)≤q2→R (.d (i64 q2)) b):=by kernel_rfl
def AYf9:CF:=fun args K=>∃(l:List GraT) (u:UseT) (q:Int),args= [.d (.sl 5 (rowsG l)), .fn (.func 55) [] [.rptr [i64 u.sl,i64 u.of,i64 u.pe,i64 u.st]]]∧(l.length≤9223372036854775807∧q=idxS (fun x:GraT=>x.sl==u.sl&&x.of==u.of) l)∧K (.d (i64 q))
theorem AVp9:COk 54 AYf9:=by
 rintro _ K ⟨l,u,_,rfl,⟨hl,rfl⟩,hk⟩;refine ⟨_, ?_,hk⟩;refine pcW @AUg9 Zai AZh9 func54 fun Ev bb=> ?_;rw [BAl9,AAd9];exact ⟨l,u,_,rfl,rfl,rfl,⟨hl,rfl⟩,fun i h=>by rw [h],fun i h=>rfl⟩
variable {Ev:Env prog} {b0:Ev.β} {Q:Exit→St Ev.β→Prop}
def busyT (t:TabT) (s:Int):Bool:=t.us.any (fun x=>x.sl==s)||t.gs.any (fun x=>x.sl==s)
def TCl:CT:= [(98,AYp9)]
theorem CLa9:AAb9 prog TCl:=Zag AVy9 Zai
def TFg:CT:= [(87,BSh9)]
theorem CKy9:AAb9 prog TFg:=Zag BJk9 Zai
theorem BHq9 (x:NearT) (sl:Int) (of:Int) (but:Int):wpFn prog ⟨TCl, [],wl,y,false⟩ 100 f101 ([nearA x]++ [.rptr [i64 but], .rptr [i64 sl,i64 of]]) b R=(BIf (Zcy x !=but) (∃(l0:List UseT) (sl1:Int) (of2:Int) (q3:Bool), [Zad (Zaj 4 (rowsU (Zcl x))),Zav (Fn.func 102) [] [Zah [i64 sl,i64 of]]]= [Zad (Zaj 4 (rowsU l0)),Zav (Fn.func 102) [] [Zah [i64 sl1,i64 of2]]]∧(Zaa l0≤9223372036854775807∧q3=Zcp l0 fun (x4:UseT)=>Zdl x4==sl1&&Zfs x4==of2)∧R (.d (bo q3)) b) (R (.d (bo false)) b)):=by kernel_rfl
def BJp9:CF:=fun args K=>∃(x:NearT) (sl:Int) (of:Int) (but:Int) (q:Bool),args= [nearA x]++ [.rptr [i64 but], .rptr [i64 sl,i64 of]]∧(AAo9 x∧q=(fun x:NearT=> !(x.fm==but)&&x.us.any (fun y=>(y.sl==sl&&y.of==of))) x)∧K (.d (bo q))
theorem BBt9:COk 101 BJp9:=by
 rintro _ K ⟨x,sl,of,but,_,rfl,⟨hx,rfl⟩,hk⟩;refine ⟨_, ?_,hk⟩;refine pcO CLa9 func101 fun Ev bb=> ?_;rw [BHq9];refine Zax (fun h=>⟨x.us,sl,of,_,rfl,⟨hx.1,rfl⟩, ?_⟩) fun h=> ?_
 ·have h':(!(x.fm==but))=true:=h;simp only [h',Zec]<;>rfl
 ·have h':(!(x.fm==but))=false:=h;simp only [h',Zdb]
def BKv9:CT:= [(101,BJp9)]
theorem BKu9:AAb9 prog BKv9:=Zag BBt9 Zai
noncomputable def AMg9:Code:=sub [1,0,1,2,3] (code f82)
def AFj9 (l:List NearT) (sl:Int) (of:Int) (but:Int) (q i:Int):List AV:= [.d (.sl 31 (rowsN l)), .fn (.func 101) [] [.rptr [i64 but], .rptr [i64 sl,i64 of]], .bad, .bad, .d (i64 q), .bad, .bad, .d (i64 l.length), .d (i64 i)]++Zam 10 .bad
abbrev Qz50 (v0:Int) (v1:Int) (v2:Int):List AV:= [Zah [i64 v0],Zah [i64 v1,i64 v2]]
theorem BRa9 (l:List NearT) (sl:Int) (of:Int) (but:Int) (i:Int):wpc prog ⟨BKv9, [],wl,y,false⟩ 100 AMg9 (AFj9 l sl of but 0 i) [] b (maskK 0 [0,1,4,7,8] K)=(BIf (decide (i<((Zaa l:Nat):Int))) (BIf (true&&decide (0≤i)) (∃(n0:NearT),(rowsN l)[Zak i]? =some (nearR n0)∧∃(x3:NearT) (sl4:Int) (of5:Int) (but6:Int) (q7:Bool), [nearA n0,Zah [i64 but],Zah [i64 sl,i64 of]]= [nearA x3,Zah [i64 but6],Zah [i64 sl4,i64 of5]]∧((AAo9 x3)∧q7=(!NearT.fm x3==but6&&Zcp (Zcl x3) fun (y8:UseT)=>Zdl y8==sl4&&Zfs y8==of5))∧BIf q7 (K .ret (Zad (Zaj 31 (rowsN l))::Zav (Fn.func 101) [] (Qz50 but sl of)::Zab::Zab::Zad (i64 i)::Zab::Zab::Zad (i64 ((Zaa l:Nat):Int))::Zad (i64 i)::bds 10 []) [] b) (K .normal (Zad (Zaj 31 (rowsN l))::Zav (Fn.func 101) [] (Qz50 but sl of)::Zab::Zab::Zad (i64 0)::Zab::Zab::Zad (i64 ((Zaa l:Nat):Int))::Zad (i64 (Zac .i64 (i+1)))::bds 10 []) [] b)) False) (K (Zba 0) (Zad (Zaj 31 (rowsN l))::Zav (Fn.func 101) [] (Qz50 but sl of)::Zab::Zab::Zad (i64 0)::Zab::Zab::Zad (i64 ((Zaa l:Nat):Int))::Zad (i64 i)::bds 10 []) [] b)):=by kernel_rfl
theorem BTv9 (l:List NearT) (sl:Int) (of:Int) (but:Int) (hl:l.length≤9223372036854775807) (hx:∀x∈l,AAo9 x) (h1:l.findIdx? (fun x:NearT=> !(x.fm==but)&&x.us.any (fun y=>(y.sl==sl&&y.of==of)))=none→∀i:Int,Q (.exit 0) ⟨AFj9 l sl of but 0 i, [],b0⟩) (h2:∀j:Nat,l.findIdx? (fun x:NearT=> !(x.fm==but)&&x.us.any (fun y=>(y.sl==sl&&y.of==of)))=some j→Q .ret ⟨AFj9 l sl of but j j, [],b0⟩):
 WR Ev AMg9 (l.length+1) ⟨AFj9 l sl of but 0 (0:Nat), [],b0⟩ Q:=by
 refine WR.findL (X:=⟨BKv9, [],wlW Ev,Ev.Y,false⟩) (k:=100) [0,1,4,7,8] mixed (CX.Ok.of BKu9 Zar) l (fun x:NearT=> !(x.fm==but)&&x.us.any (fun y=>(y.sl==sl&&y.of==of))) (fun i=>AFj9 l sl of but 0 (i:Nat)) (fun i=>AFj9 l sl of but (i:Nat) (i:Nat)) [] 0 (fun i x hi hxi K k1 k2=> ?_) (fun K k1=> ?_) (fun h=>h1 h _) h2
 ·refine Eq.mpr (BRa9 _ _ _ K l sl of but i) ?_;rw [AAr9 hxi];refine Zas (by simp;omega) (Zas (natI i) ⟨_,rfl,x,sl,of,but,_,rfl,⟨hx x (Zbj hxi),rfl⟩,Zax (fun g=>k1 g) fun g=> ?_⟩);rw [wrapN (by omega)];exact k2 g
 ·refine Eq.mpr (BRa9 _ _ _ K l sl of but _) ?_;exact Zci (by simp) k1
def AUe9 {β:Type}:WLT β:=fun cd tm hp b K=>∃(l:List NearT) (sl:Int) (of:Int) (but:Int) (q:Int),cd= .loop AMg9∧AAn9 [0,1,4,7,8] 0 tm=AFj9 l sl of but 0 0∧hp= []∧((∀x∈l,AAo9 x)∧l.length≤9223372036854775807∧q=idxS (fun x:NearT=> !(x.fm==but)&&x.us.any (fun y=>(y.sl==sl&&y.of==of))) l)∧(∀i:Int,q= -1→K (.exit 0) (AFj9 l sl of but 0 i) [] b)∧(∀i:Int,0≤q→K .ret (AFj9 l sl of but q i) [] b)
theorem AZf9:WlOk Ev AUe9:=by
 rintro c tm hp b K ⟨l,sl,of,but,q,rfl,htm,rfl,⟨hx,hl,rfl⟩,hK1,hK2⟩;refine W.cast (htm▸AAc9 _ tm 0) (Zbg _) ?_;exact W.rounds (BTv9 (Q:=fun e s=>K e s.tm s.hp s.b) l sl of but hl hx (fun h i=>hK1 i (AAq9 h)) fun j h=>by have:=hK2 j (by rw [AAj9 h];omega);rwa [AAj9 h] at this)
theorem BAj9 (l:List NearT) (sl:Int) (of:Int) (but:Int):wpFn prog ⟨[], [],AUe9,y,false⟩ 100 f82 [.d (.sl 31 (rowsN l)), .fn (.func 101) [] [.rptr [i64 but], .rptr [i64 sl,i64 of]]] b R=(∃(l0:List NearT) (sl1:Int) (of2:Int) (but3:Int) (q4:Int),Zaq AMg9=Zaq AMg9∧(Zad (Zaj 31 (rowsN l))::Zav (Fn.func 101) [] (Qz50 but sl of)::Zab::Zab::Zad (i64 0)::Zab::Zab::Zad (i64 ((Zaa (rowsN l):Nat):Int))::Zad (i64 0)::bds 10 [])=(Zad (Zaj 31 (rowsN l0))::Zav (Fn.func 101) [] (Qz50 but3 sl1 of2)::Zab::Zab::Zad (i64 0)::Zab::Zab::Zad (i64 ((Zaa l0:Nat):Int))::Zad (i64 0)::bds 10 [])∧([]:List Blk)= []∧((∀(x:NearT),x∈l0→AAo9 x)∧Zaa l0≤9223372036854775807∧q4=idxS (fun (x5:NearT)=> !NearT.fm x5==but3&&Zcp (Zcl x5) fun (y6:UseT)=>Zdl y6==sl1&&Zfs y6==of2) l0)∧(∀(i:Int),q4=(-1:Int)→R (.d (i64 (-1))) b)∧∀(i:Int),(0:Int)≤q4→R (.d (i64 q4)) b):=by kernel_rfl
def AYd9:CF:=fun args K=>∃(l:List NearT) (sl:Int) (of:Int) (but:Int) (q:Int),args= [.d (.sl 31 (rowsN l)), .fn (.func 101) [] [.rptr [i64 but], .rptr [i64 sl,i64 of]]]∧((∀x∈l,AAo9 x)∧l.length≤9223372036854775807∧q=idxS (fun x:NearT=> !(x.fm==but)&&x.us.any (fun y=>(y.sl==sl&&y.of==of))) l)∧K (.d (i64 q))
theorem AVn9:COk 82 AYd9:=by
 rintro _ K ⟨l,sl,of,but,_,rfl,⟨hx,hl,rfl⟩,hk⟩;refine ⟨_, ?_,hk⟩;refine pcW @AUe9 Zai AZf9 func82 fun Ev bb=> ?_;rw [BAj9,ABe9];exact ⟨l,sl,of,but,_,rfl,rfl,rfl,⟨hx,hl,rfl⟩,fun i h=>by rw [h],fun i h=>rfl⟩
def BTg9:CT:= [(82,AYd9)]
theorem BLg9:AAb9 prog BTg9:=Zag AVn9 Zai
theorem BBa9 (l:List NearT) (sl:Int) (of:Int) (but:Int):wpFn prog ⟨BTg9, [],wl,y,false⟩ 100 f85 [.d (.sl 31 (rowsN l)), .fn (.func 101) [] [.rptr [i64 but], .rptr [i64 sl,i64 of]]] b R=(∃(l0:List NearT) (sl1:Int) (of2:Int) (but3:Int) (q4:Int), [Zad (Zaj 31 (rowsN l)),Zav (Fn.func 101) [] (Qz50 but sl of)]= [Zad (Zaj 31 (rowsN l0)),Zav (Fn.func 101) [] (Qz50 but3 sl1 of2)]∧((∀(x:NearT),x∈l0→AAo9 x)∧Zaa l0≤9223372036854775807∧q4=idxS (fun (x5:NearT)=> !NearT.fm x5==but3&&Zcp (Zcl x5) fun (y6:UseT)=>Zdl y6==sl1&&Zfs y6==of2) l0)∧R (.d (bo (decide (q4≥(0:Int))))) b):=by kernel_rfl
def AYn9:CF:=fun args K=>∃(l:List NearT) (sl:Int) (of:Int) (but:Int) (q:Bool),args= [.d (.sl 31 (rowsN l)), .fn (.func 101) [] [.rptr [i64 but], .rptr [i64 sl,i64 of]]]∧((∀x∈l,AAo9 x)∧l.length≤9223372036854775807∧q=l.any (fun x:NearT=> !(x.fm==but)&&x.us.any (fun y=>(y.sl==sl&&y.of==of))))∧K (.d (bo q))
theorem AVw9:COk 85 AYn9:=by
 rintro _ K ⟨l,sl,of,but,_,rfl,⟨hx,hl,rfl⟩,hk⟩;refine ⟨_, ?_,hk⟩;refine pcO BLg9 func85 fun Ev bb=> ?_;rw [BBa9];exact ⟨l,sl,of,but,_,rfl,⟨hx,hl,rfl⟩,by rw [AFt9]⟩
theorem BOx9 (x:NearT) (sl:Int) (of:Int) (s:SideT):wpFn prog ⟨TFg, [],wl,y,false⟩ 100 f86 ([nearA x]++ [.rptr [i64 sl,i64 of], .rptr [.pt (sideD s)]]) b R=(∃(l0:List GraT) (sl1:Int) (of2:Int) (s3:SideT) (q4:Bool), [Zad (Zaj 5 (rowsG (Zce x))),Zav (Fn.func 88) [] (Qz17 sl of s)]= [Zad (Zaj 5 (rowsG l0)),Zav (Fn.func 88) [] (Qz17 sl1 of2 s3)]∧(Zaa l0≤9223372036854775807∧q4=Zcp l0 fun (x5:GraT)=>Zds x5==sl1&&GraT.of x5==of2&& !GraT.pe x5==SideT.me s3)∧R (.d (bo q4)) b):=by kernel_rfl
def BSs9:CF:=fun args K=>∃(x:NearT) (sl:Int) (of:Int) (s:SideT) (q:Bool),args= [nearA x]++ [.rptr [i64 sl,i64 of], .rptr [.pt (sideD s)]]∧(AAo9 x∧q=(fun x:NearT=>x.gs.any (fun y=>(y.sl==sl&&y.of==of)&& !(y.pe==s.me))) x)∧K (.d (bo q))
theorem BKc9:COk 86 BSs9:=by
 rintro _ K ⟨x,sl,of,s,_,rfl,⟨hx,rfl⟩,hk⟩;refine ⟨_, ?_,hk⟩;refine pcO CKy9 func86 fun Ev bb=> ?_;rw [BOx9];exact ⟨x.gs,sl,of,s,_,rfl,⟨hx.2.1,rfl⟩,rfl⟩
def BZv9:CT:= [(86,BSs9)]
theorem BQo9:AAb9 prog BZv9:=Zag BKc9 Zai
noncomputable def ASi9:Code:=sub [1,0,1,2,3] (code f82)
def AIk9 (l:List NearT) (sl:Int) (of:Int) (s:SideT) (q i:Int):List AV:= [.d (.sl 31 (rowsN l)), .fn (.func 86) [] [.rptr [i64 sl,i64 of], .rptr [.pt (sideD s)]], .bad, .bad, .d (i64 q), .bad, .bad, .d (i64 l.length), .d (i64 i)]++Zam 10 .bad
theorem CDr9 (l:List NearT) (sl:Int) (of:Int) (s:SideT) (i:Int):wpc prog ⟨BZv9, [],wl,y,false⟩ 100 ASi9 (AIk9 l sl of s 0 i) [] b (maskK 0 [0,1,4,7,8] K)=(BIf (decide (i<((Zaa l:Nat):Int))) (BIf (true&&decide (0≤i)) (∃(n0:NearT),(rowsN l)[Zak i]? =some (nearR n0)∧∃(x3:NearT) (sl4:Int) (of5:Int) (s6:SideT) (q7:Bool), [nearA n0,Zah [i64 sl,i64 of],Zah [Zdo (Qz2 s)]]= [nearA x3,Zah [i64 sl4,i64 of5],Zah [Zdo (Qz2 s6)]]∧((AAo9 x3)∧q7=Zcp (Zce x3) fun (y8:GraT)=>Zds y8==sl4&&GraT.of y8==of5&& !GraT.pe y8==SideT.me s6)∧BIf q7 (K .ret (Zad (Zaj 31 (rowsN l))::Zav (Fn.func 86) [] (Qz17 sl of s)::Zab::Zab::Zad (i64 i)::Zab::Zab::Zad (i64 ((Zaa l:Nat):Int))::Zad (i64 i)::bds 10 []) [] b) (K .normal (Zad (Zaj 31 (rowsN l))::Zav (Fn.func 86) [] (Qz17 sl of s)::Zab::Zab::Zad (i64 0)::Zab::Zab::Zad (i64 ((Zaa l:Nat):Int))::Zad (i64 (Zac .i64 (i+1)))::bds 10 []) [] b)) False) (K (Zba 0) (Zad (Zaj 31 (rowsN l))::Zav (Fn.func 86) [] (Qz17 sl of s)::Zab::Zab::Zad (i64 0)::Zab::Zab::Zad (i64 ((Zaa l:Nat):Int))::Zad (i64 i)::bds 10 []) [] b)):=by kernel_rfl
theorem CAq9 (l:List NearT) (sl:Int) (of:Int) (s:SideT) (hl:l.length≤9223372036854775807) (hx:∀x∈l,AAo9 x) (h1:l.findIdx? (fun x:NearT=>x.gs.any (fun y=>(y.sl==sl&&y.of==of)&& !(y.pe==s.me)))=none→∀i:Int,Q (.exit 0) ⟨AIk9 l sl of s 0 i, [],b0⟩) (h2:∀j:Nat,l.findIdx? (fun x:NearT=>x.gs.any (fun y=>(y.sl==sl&&y.of==of)&& !(y.pe==s.me)))=some j→Q .ret ⟨AIk9 l sl of s j j, [],b0⟩):
 WR Ev ASi9 (l.length+1) ⟨AIk9 l sl of s 0 (0:Nat), [],b0⟩ Q:=by
 refine WR.findL (X:=⟨BZv9, [],wlW Ev,Ev.Y,false⟩) (k:=100) [0,1,4,7,8] mixed (CX.Ok.of BQo9 Zar) l (fun x:NearT=>x.gs.any (fun y=>(y.sl==sl&&y.of==of)&& !(y.pe==s.me))) (fun i=>AIk9 l sl of s 0 (i:Nat)) (fun i=>AIk9 l sl of s (i:Nat) (i:Nat)) [] 0 (fun i x hi hxi K k1 k2=> ?_) (fun K k1=> ?_) (fun h=>h1 h _) h2
 ·refine Eq.mpr (CDr9 _ _ _ K l sl of s i) ?_;rw [AAr9 hxi];refine Zas (by simp;omega) (Zas (natI i) ⟨_,rfl,x,sl,of,s,_,rfl,⟨hx x (Zbj hxi),rfl⟩,Zax (fun g=>k1 g) fun g=> ?_⟩);rw [wrapN (by omega)];exact k2 g
 ·refine Eq.mpr (CDr9 _ _ _ K l sl of s _) ?_;exact Zci (by simp) k1
def BDu9 {β:Type}:WLT β:=fun cd tm hp b K=>∃(l:List NearT) (sl:Int) (of:Int) (s:SideT) (q:Int),cd= .loop ASi9∧AAn9 [0,1,4,7,8] 0 tm=AIk9 l sl of s 0 0∧hp= []∧((∀x∈l,AAo9 x)∧l.length≤9223372036854775807∧q=idxS (fun x:NearT=>x.gs.any (fun y=>(y.sl==sl&&y.of==of)&& !(y.pe==s.me))) l)∧(∀i:Int,q= -1→K (.exit 0) (AIk9 l sl of s 0 i) [] b)∧(∀i:Int,0≤q→K .ret (AIk9 l sl of s q i) [] b)
theorem BDt9:WlOk Ev BDu9:=by
 rintro c tm hp b K ⟨l,sl,of,s,q,rfl,htm,rfl,⟨hx,hl,rfl⟩,hK1,hK2⟩;refine W.cast (htm▸AAc9 _ tm 0) (Zbg _) ?_;exact W.rounds (CAq9 (Q:=fun e s=>K e s.tm s.hp s.b) l sl of s hl hx (fun h i=>hK1 i (AAq9 h)) fun j h=>by have:=hK2 j (by rw [AAj9 h];omega);rwa [AAj9 h] at this)
theorem BGf9 (l:List NearT) (sl:Int) (of:Int) (s:SideT):wpFn prog ⟨[], [],BDu9,y,false⟩ 100 f82 [.d (.sl 31 (rowsN l)), .fn (.func 86) [] [.rptr [i64 sl,i64 of], .rptr [.pt (sideD s)]]] b R=(∃(l0:List NearT) (sl1:Int) (of2:Int) (s3:SideT) (q4:Int),Zaq ASi9=Zaq ASi9∧(Zad (Zaj 31 (rowsN l))::Zav (Fn.func 86) [] (Qz17 sl of s)::Zab::Zab::Zad (i64 0)::Zab::Zab::Zad (i64 ((Zaa (rowsN l):Nat):Int))::Zad (i64 0)::bds 10 [])=(Zad (Zaj 31 (rowsN l0))::Zav (Fn.func 86) [] (Qz17 sl1 of2 s3)::Zab::Zab::Zad (i64 0)::Zab::Zab::Zad (i64 ((Zaa l0:Nat):Int))::Zad (i64 0)::bds 10 [])∧([]:List Blk)= []∧((∀(x:NearT),x∈l0→AAo9 x)∧Zaa l0≤9223372036854775807∧q4=idxS (fun (x5:NearT)=>Zcp (Zce x5) fun (y6:GraT)=>Zds y6==sl1&&GraT.of y6==of2&& !GraT.pe y6==SideT.me s3) l0)∧(∀(i:Int),q4=(-1:Int)→R (.d (i64 (-1))) b)∧∀(i:Int),(0:Int)≤q4→R (.d (i64 q4)) b):=by kernel_rfl
def BJb9:CF:=fun args K=>∃(l:List NearT) (sl:Int) (of:Int) (s:SideT) (q:Int),args= [.d (.sl 31 (rowsN l)), .fn (.func 86) [] [.rptr [i64 sl,i64 of], .rptr [.pt (sideD s)]]]∧((∀x∈l,AAo9 x)∧l.length≤9223372036854775807∧q=idxS (fun x:NearT=>x.gs.any (fun y=>(y.sl==sl&&y.of==of)&& !(y.pe==s.me))) l)∧K (.d (i64 q))
theorem BBp9:COk 82 BJb9:=by
 rintro _ K ⟨l,sl,of,s,_,rfl,⟨hx,hl,rfl⟩,hk⟩;refine ⟨_, ?_,hk⟩;refine pcW @BDu9 Zai BDt9 func82 fun Ev bb=> ?_;rw [BGf9,ABe9];exact ⟨l,sl,of,s,_,rfl,rfl,rfl,⟨hx,hl,rfl⟩,fun i h=>by rw [h],fun i h=>rfl⟩
def CHt9:CT:= [(82,BJb9)]
theorem BQr9:AAb9 prog CHt9:=Zag BBp9 Zai
theorem BHo9 (l:List NearT) (sl:Int) (of:Int) (s:SideT):wpFn prog ⟨CHt9, [],wl,y,false⟩ 100 f85 [.d (.sl 31 (rowsN l)), .fn (.func 86) [] [.rptr [i64 sl,i64 of], .rptr [.pt (sideD s)]]] b R=(∃(l0:List NearT) (sl1:Int) (of2:Int) (s3:SideT) (q4:Int), [Zad (Zaj 31 (rowsN l)),Zav (Fn.func 86) [] (Qz17 sl of s)]= [Zad (Zaj 31 (rowsN l0)),Zav (Fn.func 86) [] (Qz17 sl1 of2 s3)]∧((∀(x:NearT),x∈l0→AAo9 x)∧Zaa l0≤9223372036854775807∧q4=idxS (fun (x5:NearT)=>Zcp (Zce x5) fun (y6:GraT)=>Zds y6==sl1&&GraT.of y6==of2&& !GraT.pe y6==SideT.me s3) l0)∧R (.d (bo (decide (q4≥(0:Int))))) b):=by kernel_rfl
def BJl9:CF:=fun args K=>∃(l:List NearT) (sl:Int) (of:Int) (s:SideT) (q:Bool),args= [.d (.sl 31 (rowsN l)), .fn (.func 86) [] [.rptr [i64 sl,i64 of], .rptr [.pt (sideD s)]]]∧((∀x∈l,AAo9 x)∧l.length≤9223372036854775807∧q=l.any (fun x:NearT=>x.gs.any (fun y=>(y.sl==sl&&y.of==of)&& !(y.pe==s.me))))∧K (.d (bo q))
theorem BBs9:COk 85 BJl9:=by
 rintro _ K ⟨l,sl,of,s,_,rfl,⟨hx,hl,rfl⟩,hk⟩;refine ⟨_, ?_,hk⟩;refine pcO BQr9 func85 fun Ev bb=> ?_;rw [BHo9];exact ⟨l,sl,of,s,_,rfl,⟨hx,hl,rfl⟩,by rw [AFt9]⟩
def TBz:CT:= [(98,AYq9),(87,AYr9)]
theorem CLb9:AAb9 prog TBz:=Zag AVz9 (Zag AWa9 Zai)
theorem CGp9 (t:TabT) (s:Int):wpFn prog ⟨TBz, [],wl,y,false⟩ 100 f84 [tabA t, .d (i64 s)] b R=(∃(l0:List UseT) (s1:Int) (q2:Bool), [Zad (Zaj 4 (rowsU (Zbv t))),Zav (Fn.func 119) [] [Zah [i64 s]]]= [Zad (Zaj 4 (rowsU l0)),Zav (Fn.func 119) [] [Zah [i64 s1]]]∧(Zaa l0≤9223372036854775807∧q2=Zcp l0 fun (x3:UseT)=>Zdl x3==s1)∧BIf q2 (R (.d (bo true)) b) (∃(l4:List GraT) (s5:Int) (q6:Bool), [Zad (Zaj 5 (rowsG (Zbx t))),Zav (Fn.func 120) [] [Zah [i64 s]]]= [Zad (Zaj 5 (rowsG l4)),Zav (Fn.func 120) [] [Zah [i64 s5]]]∧(Zaa l4≤9223372036854775807∧q6=Zcp l4 fun (x7:GraT)=>Zds x7==s5)∧R (.d (bo q6)) b)):=by kernel_rfl
theorem AZl9 (s:SideT) (n:NearT):wpFn prog ⟨[], [],wl,y,false⟩ 100 f49 [.rptr (sideD s),nearA n] b R=(R (Zad (bo (decide (Zey n≥Zac Zbb (SideT.fr s - (1:Int)))))) b):=by kernel_rfl
theorem BRh9 (t:TabT) (s:Int) (ht:TabOk t):PCall prog 84 [tabA t, .d (i64 s)] (.d (bo (busyT t s))):=by
 obtain ⟨h1,h2,_⟩:=ht;refine pcO CLb9 func84 fun Ev bb=> ?_;rw [CGp9];refine ⟨t.us,s,_,rfl,⟨by omega,rfl⟩,Zax (fun h=> ?_) fun h=>⟨t.gs,s,_,rfl,⟨by omega,rfl⟩, ?_⟩⟩
 ·rw [busyT,h];rfl
 ·rw [busyT,h];rfl
def BYt9:CF:=fun args K=>∃(t:TabT) (s:Int) (q:Bool),args= [tabA t, .d (i64 s)]∧(TabOk t∧q=busyT t s)∧K (.d (bo q))
theorem AYt9:COk 84 BYt9:=by
 rintro _ K ⟨t,s,_,rfl,⟨ht,rfl⟩,hk⟩;exact ⟨_,BRh9 t s ht,hk⟩
def APo9 (s:SideT) (n:NearT):Bool:=decide (n.fr≥Zac Zbb (s.fr - 1))
def APz9:CF:=fun args K=>∃(s:SideT) (n:NearT) (q:Bool),args= [.rptr (sideD s),nearA n]∧q=APo9 s n∧K (.d (bo q))
theorem AMv9:COk 49 APz9:=by
 rintro _ K ⟨s,n,_,rfl,rfl,hk⟩;refine ⟨_, ?_,hk⟩;refine pcO Zai func49 fun Ev bb=> ?_;rw [AZl9];rfl
variable {Ev:Env prog} {b0:Ev.β} {Q:Exit→St Ev.β→Prop}
def BYs9 (args:List AV) (K:AV→Prop):Prop:=match args with
 | [.agg [x,y, .d (.s (.slice none 0 0))],s]=>∃(us:List UseT) (gs:List GraT) (sl:Int) (q:Bool), [x,y,s]= [.d (.sl 4 (rowsU us)), .d (.sl 5 (rowsG gs)), .d (i64 sl)]∧(us.length<10000∧gs.length<10000∧q=busyT ⟨us,gs, []⟩ sl)∧K (.d (bo q))
 |_=>BYt9 args K
theorem BPw9:COk 84 BYs9:=by
 intro args K h;unfold BYs9 at h;split at h
 ·obtain ⟨us,gs,sl,_,he,⟨h1,h2,rfl⟩,hk⟩:=h;cases he;have hle:LeV (.agg [.d (.sl 4 (rowsU us)), .d (.sl 5 (rowsG gs)), .d (.s (.slice none 0 0))]) (tabA ⟨us,gs, []⟩):=by
   refine .agg rfl fun i a b h1 h2=> ?_
   match i with
   |0=>simp at h1 h2;subst h1 h2;exact .rfl
   |1=>simp at h1 h2;subst h1 h2;exact .rfl
   |2=>simp at h1 h2;subst h1 h2;exact .nil rfl
   |i+3=>simp at h1
  exact ⟨_,PCall.leArgsV (.cons hle (.cons .rfl .nil)) (BRh9 ⟨us,gs, []⟩ sl ⟨h1,h2,by simp⟩),hk⟩
 ·exact AYt9 _ _ h
def TUz:CT:= [(85,AYn9)]
theorem CJu9:AAb9 prog TUz:=Zag AVw9 Zai
def TIp:CT:= [(84,BYs9),(85,BJl9)]
theorem CKn9:AAb9 prog TIp:=Zag BPw9 (Zag BBs9 Zai)
def askB (a:AskT):Blk:=⟨[.d (i64 a.sl), .d (i64 a.of), .d (i64 a.pe)],false,false,0⟩
noncomputable def lpIx:Code:=sub [1,0,1,2,3] (code f134)
def tmIx (l:List AskT) (q i:Int):List AV:= [.d (.sl 3 (rowsA l)), .bad, .bad, .ptr 0 0, .d (i64 q), .bad, .bad, .d (i64 l.length), .d (i64 i)]++Zam 10 .bad
theorem BNn9 (s:SideT) (sl of but:Int):wpFn prog ⟨TUz, [],wl,y,false⟩ 100 f51 [.rptr (sideD s),cellA sl of, .d (i64 but)] b R=(∃(l0:List NearT) (sl1:Int) (of2:Int) (but3:Int) (q4:Bool), [Zad (Zaj 31 (rowsN (SideT.ns s))),Zav (Fn.func 101) [] (Qz50 but sl of)]= [Zad (Zaj 31 (rowsN l0)),Zav (Fn.func 101) [] (Qz50 but3 sl1 of2)]∧((∀(x:NearT),x∈l0→AAo9 x)∧Zaa l0≤9223372036854775807∧q4=Zcp l0 fun (x5:NearT)=> !NearT.fm x5==but3&&Zcp (Zcl x5) fun (y6:UseT)=>Zdl y6==sl1&&Zfs y6==of2)∧R (.d (bo q4)) b):=by kernel_rfl
theorem BNo9 (s:SideT) (t:TabT) (n:NearT) (sl of:Int):wpFn prog ⟨TIp, [],wl,y,false⟩ 100 f39 [.rptr (sideD s),tabA t,nearA n,cellA sl of] b R=(∃(t0:TabT) (s1:Int) (q2:Bool), [Zan (Qz1 t),Zad (i64 sl)]= [Zan (Qz1 t0),Zad (i64 s1)]∧(TabOk t0∧q2=busyT t0 s1)∧BIf q2 (R (.d (bo false)) b) (∃(us3:List UseT) (gs4:List GraT) (sl5:Int) (q6:Bool), [Zad (Zaj 4 (rowsU (Zcl n))),Zad (Zaj 5 (rowsG (Zce n))),Zad (i64 sl)]= [Zad (Zaj 4 (rowsU us3)),Zad (Zaj 5 (rowsG gs4)),Zad (i64 sl5)]∧(Zaa us3<10000∧Zaa gs4<10000∧q6=busyT (TabT.mk us3 gs4 []) sl5)∧BIf q6 (R (.d (bo false)) b) (∃(l7:List NearT) (sl8:Int) (of9:Int) (s10:SideT) (q11:Bool), [Zad (Zaj 31 (rowsN (SideT.ns s))),Zav (Fn.func 86) [] (Qz17 sl of s)]= [Zad (Zaj 31 (rowsN l7)),Zav (Fn.func 86) [] (Qz17 sl8 of9 s10)]∧((∀(x:NearT),x∈l7→AAo9 x)∧Zaa l7≤9223372036854775807∧q11=Zcp l7 fun (x12:NearT)=>Zcp (Zce x12) fun (y13:GraT)=>Zds y13==sl8&&GraT.of y13==of9&& !GraT.pe y13==SideT.me s10)∧R (.d (bo !q11)) b))):=by kernel_rfl
theorem rIx (l:List AskT) (a:AskT) (i:Int):wpc prog ⟨[], [],wl,y,false⟩ 100 lpIx (tmIx l 0 i) [askB a] b (maskK 1 [0,3,4,7,8] K)=(BIf (decide (i<((Zaa l:Nat):Int))) (BIf (true&&decide (0≤i)) (∃(x0:Int) (x1:Int) (x2:Int),(rowsA l)[Zak i]? =some [i64 x0,i64 x1,i64 x2]∧BIf (Zde a==x0&&(AskT.of a==x1&&true)&&(AskT.pe a==x2&&true)) (K .ret (Zad (Zaj 3 (rowsA l))::Zab::Zab::Zae 0 0::Zad (i64 i)::Zab::Zab::Zad (i64 ((Zaa l:Nat):Int))::Zad (i64 i)::bds 10 []) [bk (Qz11 a)] b) (K .normal (Zad (Zaj 3 (rowsA l))::Zab::Zab::Zae 0 0::Zad (i64 0)::Zab::Zab::Zad (i64 ((Zaa l:Nat):Int))::Zad (i64 (Zac .i64 (i+1)))::bds 10 []) [bk (Qz11 a)] b)) False) (K (Zba 0) (Zad (Zaj 3 (rowsA l))::Zab::Zab::Zae 0 0::Zad (i64 0)::Zab::Zab::Zad (i64 ((Zaa l:Nat):Int))::Zad (i64 i)::bds 10 []) [bk (Qz11 a)] b)):=by kernel_rfl
def usedS (ns:List NearT) (sl of but:Int):Bool:=ns.any fun x=> !(x.fm==but)&&x.us.any (fun y=>(y.sl==sl&&y.of==of))
def ANa9 (s:SideT):Prop:=s.ns.length≤9223372036854775807∧(∀x∈s.ns,AAo9 x)∧layOk s.lay=true
def BRz9:CF:=fun args K=>∃(s:SideT) (sl of but:Int) (q:Bool),args= [.rptr (sideD s),cellA sl of, .d (i64 but)]∧(ANa9 s∧q=usedS s.ns sl of but)∧K (.d (bo q))
theorem BIp9:COk 51 BRz9:=by
 rintro _ K ⟨s,sl,of,but,_,rfl,⟨hs,rfl⟩,hk⟩;refine ⟨_, ?_,hk⟩;refine pcO CJu9 func51 fun Ev bb=> ?_;rw [BNn9];exact ⟨s.ns,sl,of,but,_,rfl,⟨hs.2.1,hs.1,rfl⟩,rfl⟩
def APs9 (ns:List NearT) (sl of me:Int):Bool:=ns.any fun x=>x.gs.any fun y=>(y.sl==sl&&y.of==of)&& !(y.pe==me)
def possS (s:SideT) (t:TabT) (n:NearT) (sl of:Int):Bool:=if busyT t sl=true then false else if busyT ⟨n.us,n.gs, []⟩ sl=true then false else !APs9 s.ns sl of s.me
def BSa9:CF:=fun args K=>∃(s:SideT) (t:TabT) (n:NearT) (sl of:Int) (q:Bool),args= [.rptr (sideD s),tabA t,nearA n,cellA sl of]∧(ANa9 s∧TabOk t∧(n.us.length<10000∧n.gs.length<10000)∧q=possS s t n sl of)∧K (.d (bo q))
theorem BIq9:COk 39 BSa9:=by
 rintro _ K ⟨s,t,n,sl,of,_,rfl,⟨hs,ht,hn,rfl⟩,hk⟩;refine ⟨_, ?_,hk⟩;refine pcO CKn9 func39 fun Ev bb=> ?_;rw [BNo9];refine ⟨t,sl,_,rfl,⟨ht,rfl⟩,Zax (fun h1=> ?_) fun h1=>⟨n.us,n.gs,sl,_,rfl,⟨hn.1,hn.2,rfl⟩,Zax (fun h2=> ?_) fun h2=>⟨s.ns,sl,of,s,_,rfl,⟨hs.2.1,hs.1,rfl⟩, ?_⟩⟩⟩
 ·rw [possS,if_pos h1]
 ·rw [possS,if_neg (by rw [h1];decide),if_pos h2]
 ·rw [possS,if_neg (by rw [h1];decide),if_neg (by rw [h2];decide)];rfl
def eqAsk (a x:AskT):Bool:=a.sl==x.sl&&(a.of==x.of&&a.pe==x.pe)
theorem wrIx (l:List AskT) (a:AskT) (hl:l.length≤9223372036854775807) (h1:l.findIdx? (eqAsk a)=none→∀i:Int,Q (.exit 0) ⟨tmIx l 0 i, [askB a],b0⟩) (h2:∀j:Nat,l.findIdx? (eqAsk a)=some j→Q .ret ⟨tmIx l j j, [askB a],b0⟩):
 WR Ev lpIx (l.length+1) ⟨tmIx l 0 (0:Nat), [askB a],b0⟩ Q:=by
 refine WR.findL (X:=⟨[], [],wlW Ev,Ev.Y,false⟩) (k:=100) [0,3,4,7,8] mixed (CX.Ok.of Zai Zar) l (eqAsk a) (fun i=>tmIx l 0 (i:Nat)) (fun i=>tmIx l (i:Nat) (i:Nat)) [askB a] 0 (fun i x hi hxi K k1 k2=> ?_) (fun K k1=> ?_) (fun h=>h1 h _) h2
 ·refine Eq.mpr (rIx _ _ _ K l a i) ?_;rw [ABd9 hxi];have e:(a.sl==x.sl&&(a.of==x.of&&true)&&(a.pe==x.pe&&true))=eqAsk a x:=by simp [eqAsk,Bool.and_assoc]
  refine Zas (by simp;omega) (Zas (natI i) ⟨_,_,_,rfl, ?_⟩);rw [e];refine Zax (fun g=>k1 g) fun g=> ?_;rw [wrapN (by omega)];exact k2 g
 ·refine Eq.mpr (rIx _ _ _ K l a _) ?_;exact Zci (by simp) k1
def wlIx {β:Type}:WLT β:=fun cd tm hp b K=>∃(l:List AskT) (a:AskT) (q:Int),cd= .loop lpIx∧AAn9 [0,3,4,7,8] 0 tm=tmIx l 0 0∧hp= [askB a]∧(l.length≤9223372036854775807∧q=idxS (eqAsk a) l)∧(∀i:Int,q= -1→K (.exit 0) (tmIx l 0 i) [askB a] b)∧(∀i:Int,0≤q→K .ret (tmIx l q i) [askB a] b)
theorem CBo9:WlOk Ev wlIx:=by
 rintro c tm hp b K ⟨l,a,q,rfl,htm,rfl,⟨hl,rfl⟩,hK1,hK2⟩;refine W.cast (htm▸AAc9 _ tm 0) (Zbg _) ?_;exact W.rounds (wrIx (Q:=fun e s=>K e s.tm s.hp s.b) l a hl (fun h i=>hK1 i (AAq9 h)) fun j h=>by have:=hK2 j (by rw [AAj9 h];omega);rwa [AAj9 h] at this)
theorem BWs9 (l:List AskT) (a:AskT):wpFn prog ⟨[], [],wlIx,y,false⟩ 100 f134 [.d (.sl 3 (rowsA l)),askA a] b R=(∃(l0:List AskT) (a1:AskT) (q2:Int),Zaq lpIx=Zaq lpIx∧(Zad (Zaj 3 (rowsA l))::Zab::Zab::Zae 0 0::Zad (i64 0)::Zab::Zab::Zad (i64 ((Zaa (rowsA l):Nat):Int))::Zad (i64 0)::bds 10 [])=(Zad (Zaj 3 (rowsA l0))::Zab::Zab::Zae 0 0::Zad (i64 0)::Zab::Zab::Zad (i64 ((Zaa l0:Nat):Int))::Zad (i64 0)::bds 10 [])∧ [bk (Qz11 a)]= [bk (Qz11 a1)]∧(Zaa l0≤9223372036854775807∧q2=idxS (eqAsk a1) l0)∧(∀(i:Int),q2=(-1:Int)→R (.d (i64 (-1))) b)∧∀(i:Int),(0:Int)≤q2→R (.d (i64 q2)) b):=by kernel_rfl
def CGf9:CF:=fun args K=>∃(l:List AskT) (a:AskT) (q:Int),args= [.d (.sl 3 (rowsA l)),askA a]∧(l.length≤9223372036854775807∧q=idxS (eqAsk a) l)∧K (.d (i64 q))
theorem BPo9:COk 134 CGf9:=by
 rintro _ K ⟨l,a,_,rfl,⟨hl,rfl⟩,hk⟩;refine ⟨_, ?_,hk⟩;refine pcW @wlIx Zai CBo9 func134 fun Ev bb=> ?_;rw [BWs9,AAi9];exact ⟨l,a,_,rfl,rfl,rfl,⟨hl,rfl⟩,fun i h=>by rw [h],fun i h=>rfl⟩
def TIdx:CT:= [(134,CGf9)]
theorem CHp9:AAb9 prog TIdx:=Zag BPo9 Zai
theorem BAy9 (l:List AskT) (a:AskT):wpFn prog ⟨TIdx, [],wl,y,false⟩ 100 f100 [.d (.sl 3 (rowsA l)),askA a] b R=(∃(l0:List AskT) (a1:AskT) (q2:Int), [Zad (Zaj 3 (rowsA l)),Zan (Qz11 a)]= [Zad (Zaj 3 (rowsA l0)),Zan (Qz11 a1)]∧(Zaa l0≤9223372036854775807∧q2=idxS (eqAsk a1) l0)∧R (.d (bo (decide (q2≥(0:Int))))) b):=by kernel_rfl
def AYm9:CF:=fun args K=>∃(l:List AskT) (a:AskT) (q:Bool),args= [.d (.sl 3 (rowsA l)),askA a]∧(l.length≤9223372036854775807∧q=l.any (eqAsk a))∧K (.d (bo q))
theorem AVv9:COk 100 AYm9:=by
 rintro _ K ⟨l,a,_,rfl,⟨hl,rfl⟩,hk⟩;refine ⟨_, ?_,hk⟩;refine pcO CHp9 func100 fun Ev bb=> ?_;rw [BAy9];exact ⟨l,a,_,rfl,⟨hl,rfl⟩,by rw [AFt9]⟩
def TTl:CT:= [(98,AYo9),(100,AYm9)]
theorem CJx9:AAb9 prog TTl:=Zag AVx9 (Zag AVv9 Zai)
theorem BUy9 (s:SideT) (n:NearT) (sl of:Int):wpFn prog ⟨TTl, [],wl,y,false⟩ 100 f50 [.rptr (sideD s),nearA n,cellA sl of] b R=(∃(l0:List UseT) (sl1:Int) (of2:Int) (s3:SideT) (q4:Bool), [Zad (Zaj 4 (rowsU (Zcl n))),Zav (Fn.func 99) [] (Qz17 sl of s)]= [Zad (Zaj 4 (rowsU l0)),Zav (Fn.func 99) [] (Qz17 sl1 of2 s3)]∧(Zaa l0≤9223372036854775807∧q4=Zcp l0 fun (x5:UseT)=>Zdl x5==sl1&&Zfs x5==of2&&UseT.pe x5==SideT.me s3)∧BIf q4 (R (.d (bo true)) b) (∃(l6:List AskT) (a7:AskT) (q8:Bool), [Zad (Zaj 3 (rowsA (Zdw n))),Zan [Zad (i64 sl),Zad (i64 of),Zad (i64 (SideT.me s))]]= [Zad (Zaj 3 (rowsA l6)),Zan (Qz11 a7)]∧(Zaa l6≤9223372036854775807∧q8=Zcp l6 (eqAsk a7))∧R (.d (bo q8)) b)):=by kernel_rfl
def ANg9 (s:SideT) (n:NearT) (sl of:Int):Bool:=(n.us.any fun x=>(x.sl==sl&&x.of==of)&&x.pe==s.me)||n.ak.any (eqAsk ⟨sl,of,s.me⟩)
def CFy9:CF:=fun args K=>∃(s:SideT) (n:NearT) (sl of:Int) (q:Bool),args= [.rptr (sideD s),nearA n,cellA sl of]∧((n.us.length≤9223372036854775807∧n.ak.length≤9223372036854775807)∧q=ANg9 s n sl of)∧K (.d (bo q))
theorem BPg9:COk 50 CFy9:=by
 rintro _ K ⟨s,n,sl,of,_,rfl,⟨⟨h1,h2⟩,rfl⟩,hk⟩;refine ⟨_, ?_,hk⟩;refine pcO CJx9 func50 fun Ev bb=> ?_;rw [BUy9];refine ⟨n.us,sl,of,s,_,rfl,⟨h1,rfl⟩,Zax (fun h=> ?_) fun h=> ?_⟩
 ·rw [show ANg9 s n sl of=true by simp [ANg9,h]]
 ·refine ⟨n.ak,⟨sl,of,s.me⟩,_,rfl,⟨h2,rfl⟩, ?_⟩;rw [show ANg9 s n sl of=n.ak.any (eqAsk ⟨sl,of,s.me⟩) by simp [ANg9,h]]
variable {Ev:Env prog} {b0:Ev.β} {Q:Exit→St Ev.β→Prop}
def AIx9 {α:Type} (p:α→Bool) (x:α):List α:=if p x=true then [x] else []
theorem AHd9 {α:Type} (p:α→Bool) (x:α):(AIx9 p x).length≤1:=by rw [AIx9];split<;>simp
theorem AJv9 {α:Type} {p:α→Bool} {x:α} (h:p x=true):AIx9 p x= [x]:=by rw [AIx9,if_pos h]
theorem AJw9 {α:Type} {p:α→Bool} {x:α} (h:p x=false):AIx9 p x= []:=by rw [AIx9,if_neg (by simp [h])]
theorem ACp9 {α:Type} (p:α→Bool) (l:List α):l.flatMap (AIx9 p)=l.filter p:=by
 induction l with
 |nil=>rfl
 |cons x r ih=>rw [List.flatMap_cons,ih,List.filter_cons,AIx9];split<;>simp
def TIs:CT:= [(81,BIr9),(36,cIn)]
theorem CHm9:AAb9 prog TIs:=Zag ATe9 (Zag BIs9 Zai)
def useIs (x:UseT) (l:LayT):Bool:=ACa9 x.sl x.of x.pe l&&inN x.st 1000000000
def graIs (x:GraT) (l:LayT):Bool:=ACa9 x.sl x.of x.pe l&&(decide (x.st≥0)&&(inN x.st x.un&&decide (x.un≤1000000000)))
theorem BWn9 (x:UseT) (ly:LayT):wpFn prog ⟨TIs, [],wl,y,false⟩ 100 f76 [layA ly,useA x] b R=(∃(sl0:Int) (of1:Int) (pe2:Int) (l3:LayT) (z4:Bool), [Zan (Qz3 ly),Zan (Qz96 x),Zad (i64 (UseT.pe x))]= [Zan (Qz3 l3),Zan [Zad (i64 sl0),Zad (i64 of1)],Zad (i64 pe2)]∧z4=ACa9 sl0 of1 pe2 l3∧BIf z4 (∃(n5:Int) (h6:Int) (z7:Bool), [Zad (i64 (UseT.st x)),Zad (i64 1000000000)]= [Zad (i64 n5),Zad (i64 h6)]∧z7=inN n5 h6∧R (.d (bo z7)) b) (R (.d (bo false)) b)):=by kernel_rfl
theorem BWo9 (x:GraT) (ly:LayT):wpFn prog ⟨TIs, [],wl,y,false⟩ 100 f79 [layA ly,graA x] b R=(∃(sl0:Int) (of1:Int) (pe2:Int) (l3:LayT) (z4:Bool), [Zan (Qz3 ly),Zan (Qz55 x),Zad (i64 (GraT.pe x))]= [Zan (Qz3 l3),Zan [Zad (i64 sl0),Zad (i64 of1)],Zad (i64 pe2)]∧z4=ACa9 sl0 of1 pe2 l3∧BIf z4 (BIf (decide (GraT.st x≥(0:Int))) (∃(n5:Int) (h6:Int) (z7:Bool), [Zad (i64 (GraT.st x)),Zad (i64 (Zel x))]= [Zad (i64 n5),Zad (i64 h6)]∧z7=inN n5 h6∧BIf z7 (R (.d (bo (decide (Zel x≤(1000000000:Int))))) b) (R (.d (bo false)) b)) (R (.d (bo false)) b)) (R (.d (bo false)) b)):=by kernel_rfl
def CGd9:CF:=fun args K=>∃(x:UseT) (ly:LayT) (q:Bool),args= [layA ly,useA x]∧q=useIs x ly∧K (.d (bo q))
theorem BPm9:COk 76 CGd9:=by
 rintro _ K ⟨x,ly,_,rfl,rfl,hk⟩;refine ⟨_, ?_,hk⟩;refine pcO CHm9 func76 fun Ev bb=> ?_;rw [BWn9];refine ⟨_,_,_,ly,_,rfl,rfl,Zax (fun h=>⟨_,_,_,rfl,rfl, ?_⟩) fun h=> ?_⟩
 ·simp only [useIs,h,Zec]
 ·simp only [useIs,h,Zdb]
def CGe9:CF:=fun args K=>∃(x:GraT) (ly:LayT) (q:Bool),args= [layA ly,graA x]∧q=graIs x ly∧K (.d (bo q))
theorem BPn9:COk 79 CGe9:=by
 rintro _ K ⟨x,ly,_,rfl,rfl,hk⟩;refine ⟨_, ?_,hk⟩;refine pcO CHm9 func79 fun Ev bb=> ?_;rw [BWo9];refine ⟨_,_,_,ly,_,rfl,rfl, ?_⟩;repeat' (first|refine ⟨_,_,_,rfl,rfl, ?_⟩|refine Zax (fun _=> ?_) fun _=> ?_)
 all_goals (rw [graIs];simp only [*,Zec,Zdb])
def TIu:CT:= [(76,CGd9)]
theorem CKm9:AAb9 prog TIu:=Zag BPm9 Zai
def TIg:CT:= [(79,CGe9)]
theorem CKo9:AAb9 prog TIg:=Zag BPn9 Zai
def TIa:CT:= [(81,BIr9)]
theorem CKp9:AAb9 prog TIa:=Zag ATe9 Zai
theorem BOq9 (x:UseT) (ly:LayT):wpFn prog ⟨TIu, [],wl,y,false⟩ 100 f75 ([useA x]++ [.rptr [i64 ly.no,i64 ly.da]]) b R=(∃(x0:UseT) (ly1:LayT) (q2:Bool), [Zan (Qz3 ly),Zan (Qz6 x)]= [Zan (Qz3 ly1),Zan (Qz6 x0)]∧q2=useIs x0 ly1∧R (.d (bo q2)) b):=by kernel_rfl
def BSl9:CF:=fun args K=>∃(x:UseT) (ly:LayT) (q:Bool),args= [useA x]++ [.rptr [i64 ly.no,i64 ly.da]]∧q=(fun x:UseT=>useIs x ly) x∧K (.d (bo q))
theorem BJv9:COk 75 BSl9:=by
 rintro _ K ⟨x,ly,_,rfl,rfl,hk⟩;refine ⟨_, ?_,hk⟩;refine pcO CKm9 func75 fun Ev bb=> ?_;rw [BOq9];exact ⟨x,ly,_,rfl,rfl,rfl⟩
def BZi9:CT:= [(75,BSl9)]
theorem BQd9:AAb9 prog BZi9:=Zag BJv9 Zai
noncomputable def ARy9:Code:=sub [1,1,0,1,2,3] (code f74)
def ALk9 (l:List UseT) (ly:LayT) (acc:AV) (n i:Int):List AV:= [.bad, .fn (.func 75) [] [.rptr [i64 ly.no,i64 ly.da]], .bad, .bad, .bad,acc, .bad, .bad, .d (.sl 4 (rowsU l)), .d (i64 n), .d (i64 i)]++Zam 12 .bad
abbrev Qz12 (v0:LayT):List AV:= [Zah [i64 (Zeg v0),i64 (Zbr v0)]]
theorem CDh9 (l:List UseT) (ly:LayT) (xs:List (List Dv)) (n i:Int):wpc prog ⟨BZi9, [],wl,y,false⟩ 100 ARy9 (ALk9 l ly (.own 61 4 xs) n i) [] b (maskK 0 [1,5,8,9,10] K)=(BIf (decide (i<n)) (BIf (true&&decide (0≤i)) (∃(x0:Int) (x1:Int) (x2:Int) (x3:Int),(rowsU l)[Zak i]? =some [i64 x0,i64 x1,i64 x2,i64 x3]∧∃(x6:UseT) (ly7:LayT) (q8:Bool), [Zan (Qz30 x0 x1 x2 x3),Zah [i64 (Zeg ly),i64 (Zbr ly)]]= [Zan (Qz6 x6),Zah [i64 (Zeg ly7),i64 (Zbr ly7)]]∧q8=useIs x6 ly7∧BIf q8 (BIf (true&&decide ((Zaa xs+1)*32≤140737488355328)) (K .normal (Zab::Zav (Fn.func 75) [] (Qz12 ly)::bds 3 (Zcc 61 4 (xs++ [[i64 x0,i64 x1,i64 x2,i64 x3]])::Zab::Zab::Zad (Zaj 4 (rowsU l))::Zad (i64 n)::Zad (i64 (Zac .i64 (i+1)))::bds 12 [])) [] b) False) (K .normal (Zab::Zav (Fn.func 75) [] (Qz12 ly)::bds 3 (Zcc 61 4 xs::Zab::Zab::Zad (Zaj 4 (rowsU l))::Zad (i64 n)::Zad (i64 (Zac .i64 (i+1)))::bds 12 [])) [] b)) False) (K (Zba 0) (Zab::Zav (Fn.func 75) [] (Qz12 ly)::bds 3 (Zcc 61 4 xs::Zab::Zab::Zad (Zaj 4 (rowsU l))::Zad (i64 n)::Zad (i64 i)::bds 12 [])) [] b)):=by kernel_rfl
theorem CAg9 (l:List UseT) (ly:LayT) (hl:l.length<1000000) (hQ:∀i:Int,Q (.exit 0) ⟨ALk9 l ly (.own 61 4 (rowsU (l.filter (fun x:UseT=>useIs x ly)))) l.length i, [],b0⟩):
 WR Ev ARy9 (l.length+1) ⟨ALk9 l ly (.own 61 4 (rowsU [])) l.length (0:Nat), [],b0⟩ Q:=by
 refine WR.gathL (X:=⟨BZi9, [],wlW Ev,Ev.Y,false⟩) (k:=100) [1,5,8,9,10] mixed (CX.Ok.of BQd9 Zar) l (AIx9 (fun x:UseT=>useIs x ly)) (AHd9 _) (fun acc i=>ALk9 l ly (.own 61 4 (rowsU acc)) l.length (i:Nat)) [] 0 (fun i x acc hi hx ha K k1=> ?_) (fun acc K k1=> ?_) ?_
 ·refine Eq.mpr (CDh9 _ _ _ K l ly _ l.length i) ?_;rw [ABl9 hx];refine Zas (by simp;omega) (Zas (natI i) ⟨_,_,_,_,rfl,x,ly,_,rfl,rfl,Zax (fun g=>Zas (by simp [AAe9];omega) ?_) fun g=> ?_⟩)
  ·rw [AJv9 (p:=(fun x:UseT=>useIs x ly)) (x:=x) g,AIr9] at k1;rw [wrapN (by omega)];exact k1
  ·rw [AJw9 (p:=(fun x:UseT=>useIs x ly)) (x:=x) g,Zco] at k1;rw [wrapN (by omega)];exact k1
 ·refine Eq.mpr (CDh9 _ _ _ K l ly _ l.length _) ?_;exact Zci (by simp) k1
 ·rw [ACp9];exact hQ _
def BDa9 {β:Type}:WLT β:=fun cd tm hp b K=>∃(l:List UseT) (ly:LayT),cd= .loop ARy9∧AAn9 [1,5,8,9,10] 0 tm=ALk9 l ly nilA (rowsU l).length 0∧hp= []∧l.length<1000000∧
 ∀(i:Int) (r:List UseT),r=l.filter (fun x:UseT=>useIs x ly)→K (.exit 0) (ALk9 l ly (.own 61 4 (rowsU r)) l.length i) [] b
theorem BCz9:WlOk Ev BDa9:=by
 rintro c tm hp b K ⟨l,ly,rfl,htm,rfl,hl,hK⟩;rw [AAe9] at htm;refine W.cast (htm▸AAc9 _ tm 0) (Zbg _) ?_;refine W.cast (tm':=ALk9 l ly (.own 61 4 (rowsU [])) l.length 0) (LeL.at [_,_,_,_,_] _ (Zfj rfl)) (Zbg _) ?_;exact W.rounds (CAg9 (Q:=fun e s=>K e s.tm s.hp s.b) l ly hl fun i=>hK i _ rfl)
theorem BAa9 (l:List UseT) (ly:LayT):wpFn prog ⟨[], [],BDa9,y,false⟩ 100 f74 [.d (.sl 4 (rowsU l)), .fn (.func 75) [] [.rptr [i64 ly.no,i64 ly.da]]] b R=(∃(l0:List UseT) (ly1:LayT),Zaq ARy9=Zaq ARy9∧(Zab::Zav (Fn.func 75) [] (Qz12 ly)::bds 3 (Zad (Zdk (.slice none 0 0))::Zab::Zab::Zad (Zaj 4 (rowsU l))::Zad (i64 ((Zaa (rowsU l):Nat):Int))::Zad (i64 0)::bds 12 []))=(Zab::Zav (Fn.func 75) [] (Qz12 ly1)::bds 3 (Zad (Zdk (.slice none 0 0))::Zab::Zab::Zad (Zaj 4 (rowsU l0))::Zad (i64 ((Zaa (rowsU l0):Nat):Int))::Zad (i64 0)::bds 12 []))∧([]:List Blk)= []∧Zaa l0<1000000∧∀(i:Int) (r:List UseT),r=Zcf (fun (x2:UseT)=>useIs x2 ly1) l0→R (.d (Zaj 4 (rowsU r))) b):=by kernel_rfl
def AXz9:CF:=fun args K=>∃(l:List UseT) (ly:LayT) (q:List UseT),args= [.d (.sl 4 (rowsU l)), .fn (.func 75) [] [.rptr [i64 ly.no,i64 ly.da]]]∧(l.length<1000000∧q=l.filter (fun x:UseT=>useIs x ly))∧K (.d (.sl 4 (rowsU q)))
theorem AVj9:COk 74 AXz9:=by
 rintro _ K ⟨l,ly,_,rfl,⟨hl,rfl⟩,hk⟩;refine ⟨_, ?_,hk⟩;refine pcL @BDa9 Zai BCz9 func74 fun Ev bb=> ?_;rw [BAa9];exact ⟨l,ly,rfl,rfl,rfl,hl,fun i r hr=>hr▸ .base LeA.rfl⟩
theorem BOr9 (x:GraT) (ly:LayT):wpFn prog ⟨TIg, [],wl,y,false⟩ 100 f78 ([graA x]++ [.rptr [i64 ly.no,i64 ly.da]]) b R=(∃(x0:GraT) (ly1:LayT) (q2:Bool), [Zan (Qz3 ly),Zan (Qz5 x)]= [Zan (Qz3 ly1),Zan (Qz5 x0)]∧q2=graIs x0 ly1∧R (.d (bo q2)) b):=by kernel_rfl
def BSm9:CF:=fun args K=>∃(x:GraT) (ly:LayT) (q:Bool),args= [graA x]++ [.rptr [i64 ly.no,i64 ly.da]]∧q=(fun x:GraT=>graIs x ly) x∧K (.d (bo q))
theorem BJw9:COk 78 BSm9:=by
 rintro _ K ⟨x,ly,_,rfl,rfl,hk⟩;refine ⟨_, ?_,hk⟩;refine pcO CKo9 func78 fun Ev bb=> ?_;rw [BOr9];exact ⟨x,ly,_,rfl,rfl,rfl⟩
def BZj9:CT:= [(78,BSm9)]
theorem BQe9:AAb9 prog BZj9:=Zag BJw9 Zai
noncomputable def ARz9:Code:=sub [1,1,0,1,2,3] (code f77)
def ALl9 (l:List GraT) (ly:LayT) (acc:AV) (n i:Int):List AV:= [.bad, .fn (.func 78) [] [.rptr [i64 ly.no,i64 ly.da]], .bad, .bad, .bad,acc, .bad, .bad, .d (.sl 5 (rowsG l)), .d (i64 n), .d (i64 i)]++Zam 12 .bad
theorem CDi9 (l:List GraT) (ly:LayT) (xs:List (List Dv)) (n i:Int):wpc prog ⟨BZj9, [],wl,y,false⟩ 100 ARz9 (ALl9 l ly (.own 59 5 xs) n i) [] b (maskK 0 [1,5,8,9,10] K)=(BIf (decide (i<n)) (BIf (true&&decide (0≤i)) (∃(x0:Int) (x1:Int) (x2:Int) (x3:Int) (x4:Int),(rowsG l)[Zak i]? =some (Qz27 x0 x1 x2 x3 x4)∧∃(x7:GraT) (ly8:LayT) (q9:Bool), [Zan (Qz15 x0 x1 x2 x3 x4),Zah [i64 (Zeg ly),i64 (Zbr ly)]]= [Zan (Qz5 x7),Zah [i64 (Zeg ly8),i64 (Zbr ly8)]]∧q9=graIs x7 ly8∧BIf q9 (BIf (true&&decide ((Zaa xs+1)*40≤140737488355328)) (K .normal (Zab::Zav (Fn.func 78) [] (Qz12 ly)::bds 3 (Zcc 59 5 (xs++ [Qz27 x0 x1 x2 x3 x4])::Zab::Zab::Zad (Zaj 5 (rowsG l))::Zad (i64 n)::Zad (i64 (Zac .i64 (i+1)))::bds 12 [])) [] b) False) (K .normal (Zab::Zav (Fn.func 78) [] (Qz12 ly)::bds 3 (Zcc 59 5 xs::Zab::Zab::Zad (Zaj 5 (rowsG l))::Zad (i64 n)::Zad (i64 (Zac .i64 (i+1)))::bds 12 [])) [] b)) False) (K (Zba 0) (Zab::Zav (Fn.func 78) [] (Qz12 ly)::bds 3 (Zcc 59 5 xs::Zab::Zab::Zad (Zaj 5 (rowsG l))::Zad (i64 n)::Zad (i64 i)::bds 12 [])) [] b)):=by kernel_rfl
theorem CAh9 (l:List GraT) (ly:LayT) (hl:l.length<1000000) (hQ:∀i:Int,Q (.exit 0) ⟨ALl9 l ly (.own 59 5 (rowsG (l.filter (fun x:GraT=>graIs x ly)))) l.length i, [],b0⟩):
 WR Ev ARz9 (l.length+1) ⟨ALl9 l ly (.own 59 5 (rowsG [])) l.length (0:Nat), [],b0⟩ Q:=by
 refine WR.gathL (X:=⟨BZj9, [],wlW Ev,Ev.Y,false⟩) (k:=100) [1,5,8,9,10] mixed (CX.Ok.of BQe9 Zar) l (AIx9 (fun x:GraT=>graIs x ly)) (AHd9 _) (fun acc i=>ALl9 l ly (.own 59 5 (rowsG acc)) l.length (i:Nat)) [] 0 (fun i x acc hi hx ha K k1=> ?_) (fun acc K k1=> ?_) ?_
 ·refine Eq.mpr (CDi9 _ _ _ K l ly _ l.length i) ?_;rw [ABb9 hx];refine Zas (by simp;omega) (Zas (natI i) ⟨_,_,_,_,_,rfl,x,ly,_,rfl,rfl,Zax (fun g=>Zas (by simp [AAd9];omega) ?_) fun g=> ?_⟩)
  ·rw [AJv9 (p:=(fun x:GraT=>graIs x ly)) (x:=x) g,AFq9] at k1;rw [wrapN (by omega)];exact k1
  ·rw [AJw9 (p:=(fun x:GraT=>graIs x ly)) (x:=x) g,Zco] at k1;rw [wrapN (by omega)];exact k1
 ·refine Eq.mpr (CDi9 _ _ _ K l ly _ l.length _) ?_;exact Zci (by simp) k1
 ·rw [ACp9];exact hQ _
def BDc9 {β:Type}:WLT β:=fun cd tm hp b K=>∃(l:List GraT) (ly:LayT),cd= .loop ARz9∧AAn9 [1,5,8,9,10] 0 tm=ALl9 l ly nilA (rowsG l).length 0∧hp= []∧l.length<1000000∧
 ∀(i:Int) (r:List GraT),r=l.filter (fun x:GraT=>graIs x ly)→K (.exit 0) (ALl9 l ly (.own 59 5 (rowsG r)) l.length i) [] b
theorem BDb9:WlOk Ev BDc9:=by
 rintro c tm hp b K ⟨l,ly,rfl,htm,rfl,hl,hK⟩;rw [AAd9] at htm;refine W.cast (htm▸AAc9 _ tm 0) (Zbg _) ?_;refine W.cast (tm':=ALl9 l ly (.own 59 5 (rowsG [])) l.length 0) (LeL.at [_,_,_,_,_] _ (Zfj rfl)) (Zbg _) ?_;exact W.rounds (CAh9 (Q:=fun e s=>K e s.tm s.hp s.b) l ly hl fun i=>hK i _ rfl)
theorem BAb9 (l:List GraT) (ly:LayT):wpFn prog ⟨[], [],BDc9,y,false⟩ 100 f77 [.d (.sl 5 (rowsG l)), .fn (.func 78) [] [.rptr [i64 ly.no,i64 ly.da]]] b R=(∃(l0:List GraT) (ly1:LayT),Zaq ARz9=Zaq ARz9∧(Zab::Zav (Fn.func 78) [] (Qz12 ly)::bds 3 (Zad (Zdk (.slice none 0 0))::Zab::Zab::Zad (Zaj 5 (rowsG l))::Zad (i64 ((Zaa (rowsG l):Nat):Int))::Zad (i64 0)::bds 12 []))=(Zab::Zav (Fn.func 78) [] (Qz12 ly1)::bds 3 (Zad (Zdk (.slice none 0 0))::Zab::Zab::Zad (Zaj 5 (rowsG l0))::Zad (i64 ((Zaa (rowsG l0):Nat):Int))::Zad (i64 0)::bds 12 []))∧([]:List Blk)= []∧Zaa l0<1000000∧∀(i:Int) (r:List GraT),r=Zcf (fun (x2:GraT)=>graIs x2 ly1) l0→R (.d (Zaj 5 (rowsG r))) b):=by kernel_rfl
def AYa9:CF:=fun args K=>∃(l:List GraT) (ly:LayT) (q:List GraT),args= [.d (.sl 5 (rowsG l)), .fn (.func 78) [] [.rptr [i64 ly.no,i64 ly.da]]]∧(l.length<1000000∧q=l.filter (fun x:GraT=>graIs x ly))∧K (.d (.sl 5 (rowsG q)))
theorem AVk9:COk 77 AYa9:=by
 rintro _ K ⟨l,ly,_,rfl,⟨hl,rfl⟩,hk⟩;refine ⟨_, ?_,hk⟩;refine pcL @BDc9 Zai BDb9 func77 fun Ev bb=> ?_;rw [BAb9];exact ⟨l,ly,rfl,rfl,rfl,hl,fun i r hr=>hr▸ .base LeA.rfl⟩
theorem BOs9 (x:AskT) (ly:LayT):wpFn prog ⟨TIa, [],wl,y,false⟩ 100 f80 ([askA x]++ [.rptr [i64 ly.no,i64 ly.da]]) b R=(∃(sl0:Int) (of1:Int) (pe2:Int) (l3:LayT) (z4:Bool), [Zan (Qz3 ly),Zan [Zad (i64 (Zde x)),Zad (i64 (AskT.of x))],Zad (i64 (AskT.pe x))]= [Zan (Qz3 l3),Zan [Zad (i64 sl0),Zad (i64 of1)],Zad (i64 pe2)]∧z4=ACa9 sl0 of1 pe2 l3∧R (.d (bo z4)) b):=by kernel_rfl
def BSn9:CF:=fun args K=>∃(x:AskT) (ly:LayT) (q:Bool),args= [askA x]++ [.rptr [i64 ly.no,i64 ly.da]]∧q=(fun x:AskT=>ACa9 x.sl x.of x.pe ly) x∧K (.d (bo q))
theorem BJx9:COk 80 BSn9:=by
 rintro _ K ⟨x,ly,_,rfl,rfl,hk⟩;refine ⟨_, ?_,hk⟩;refine pcO CKp9 func80 fun Ev bb=> ?_;rw [BOs9];exact ⟨_,_,_,ly,_,rfl,rfl,rfl⟩
def BZk9:CT:= [(80,BSn9)]
theorem BQf9:AAb9 prog BZk9:=Zag BJx9 Zai
noncomputable def ASa9:Code:=sub [1,1,0,1,2,3] (code f40)
def ALm9 (l:List AskT) (ly:LayT) (acc:AV) (n i:Int):List AV:= [.bad, .fn (.func 80) [] [.rptr [i64 ly.no,i64 ly.da]], .bad, .bad, .bad,acc, .bad, .bad, .d (.sl 3 (rowsA l)), .d (i64 n), .d (i64 i)]++Zam 12 .bad
theorem CDj9 (l:List AskT) (ly:LayT) (xs:List (List Dv)) (n i:Int):wpc prog ⟨BZk9, [],wl,y,false⟩ 100 ASa9 (ALm9 l ly (.own 63 3 xs) n i) [] b (maskK 0 [1,5,8,9,10] K)=(BIf (decide (i<n)) (BIf (true&&decide (0≤i)) (∃(x0:Int) (x1:Int) (x2:Int),(rowsA l)[Zak i]? =some [i64 x0,i64 x1,i64 x2]∧∃(x5:AskT) (ly6:LayT) (q7:Bool), [Zan (Qz22 x0 x1 x2),Zah [i64 (Zeg ly),i64 (Zbr ly)]]= [Zan (Qz11 x5),Zah [i64 (Zeg ly6),i64 (Zbr ly6)]]∧q7=ACa9 (Zde x5) (AskT.of x5) (AskT.pe x5) ly6∧BIf q7 (BIf (true&&decide ((Zaa xs+1)*24≤140737488355328)) (K .normal (Zab::Zav (Fn.func 80) [] (Qz12 ly)::bds 3 (Zcc 63 3 (xs++ [[i64 x0,i64 x1,i64 x2]])::Zab::Zab::Zad (Zaj 3 (rowsA l))::Zad (i64 n)::Zad (i64 (Zac .i64 (i+1)))::bds 12 [])) [] b) False) (K .normal (Zab::Zav (Fn.func 80) [] (Qz12 ly)::bds 3 (Zcc 63 3 xs::Zab::Zab::Zad (Zaj 3 (rowsA l))::Zad (i64 n)::Zad (i64 (Zac .i64 (i+1)))::bds 12 [])) [] b)) False) (K (Zba 0) (Zab::Zav (Fn.func 80) [] (Qz12 ly)::bds 3 (Zcc 63 3 xs::Zab::Zab::Zad (Zaj 3 (rowsA l))::Zad (i64 n)::Zad (i64 i)::bds 12 [])) [] b)):=by kernel_rfl
theorem CAi9 (l:List AskT) (ly:LayT) (hl:l.length<1000000) (hQ:∀i:Int,Q (.exit 0) ⟨ALm9 l ly (.own 63 3 (rowsA (l.filter (fun x:AskT=>ACa9 x.sl x.of x.pe ly)))) l.length i, [],b0⟩):
 WR Ev ASa9 (l.length+1) ⟨ALm9 l ly (.own 63 3 (rowsA [])) l.length (0:Nat), [],b0⟩ Q:=by
 refine WR.gathL (X:=⟨BZk9, [],wlW Ev,Ev.Y,false⟩) (k:=100) [1,5,8,9,10] mixed (CX.Ok.of BQf9 Zar) l (AIx9 (fun x:AskT=>ACa9 x.sl x.of x.pe ly)) (AHd9 _) (fun acc i=>ALm9 l ly (.own 63 3 (rowsA acc)) l.length (i:Nat)) [] 0 (fun i x acc hi hx ha K k1=> ?_) (fun acc K k1=> ?_) ?_
 ·refine Eq.mpr (CDj9 _ _ _ K l ly _ l.length i) ?_;rw [ABd9 hx];refine Zas (by simp;omega) (Zas (natI i) ⟨_,_,_,rfl,x,ly,_,rfl,rfl,Zax (fun g=>Zas (by simp [AAi9];omega) ?_) fun g=> ?_⟩)
  ·rw [AJv9 (p:=(fun x:AskT=>ACa9 x.sl x.of x.pe ly)) (x:=x) g,AGz9] at k1;rw [wrapN (by omega)];exact k1
  ·rw [AJw9 (p:=(fun x:AskT=>ACa9 x.sl x.of x.pe ly)) (x:=x) g,Zco] at k1;rw [wrapN (by omega)];exact k1
 ·refine Eq.mpr (CDj9 _ _ _ K l ly _ l.length _) ?_;exact Zci (by simp) k1
 ·rw [ACp9];exact hQ _
def BDe9 {β:Type}:WLT β:=fun cd tm hp b K=>∃(l:List AskT) (ly:LayT),cd= .loop ASa9∧AAn9 [1,5,8,9,10] 0 tm=ALm9 l ly nilA (rowsA l).length 0∧hp= []∧l.length<1000000∧
 ∀(i:Int) (r:List AskT),r=l.filter (fun x:AskT=>ACa9 x.sl x.of x.pe ly)→K (.exit 0) (ALm9 l ly (.own 63 3 (rowsA r)) l.length i) [] b
theorem BDd9:WlOk Ev BDe9:=by
 rintro c tm hp b K ⟨l,ly,rfl,htm,rfl,hl,hK⟩;rw [AAi9] at htm;refine W.cast (htm▸AAc9 _ tm 0) (Zbg _) ?_;refine W.cast (tm':=ALm9 l ly (.own 63 3 (rowsA [])) l.length 0) (LeL.at [_,_,_,_,_] _ (Zfj rfl)) (Zbg _) ?_;exact W.rounds (CAi9 (Q:=fun e s=>K e s.tm s.hp s.b) l ly hl fun i=>hK i _ rfl)
theorem BAc9 (l:List AskT) (ly:LayT):wpFn prog ⟨[], [],BDe9,y,false⟩ 100 f40 [.d (.sl 3 (rowsA l)), .fn (.func 80) [] [.rptr [i64 ly.no,i64 ly.da]]] b R=(∃(l0:List AskT) (ly1:LayT),Zaq ASa9=Zaq ASa9∧(Zab::Zav (Fn.func 80) [] (Qz12 ly)::bds 3 (Zad (Zdk (.slice none 0 0))::Zab::Zab::Zad (Zaj 3 (rowsA l))::Zad (i64 ((Zaa (rowsA l):Nat):Int))::Zad (i64 0)::bds 12 []))=(Zab::Zav (Fn.func 80) [] (Qz12 ly1)::bds 3 (Zad (Zdk (.slice none 0 0))::Zab::Zab::Zad (Zaj 3 (rowsA l0))::Zad (i64 ((Zaa (rowsA l0):Nat):Int))::Zad (i64 0)::bds 12 []))∧([]:List Blk)= []∧Zaa l0<1000000∧∀(i:Int) (r:List AskT),r=Zcf (fun (x2:AskT)=>ACa9 (Zde x2) (AskT.of x2) (AskT.pe x2) ly1) l0→R (.d (Zaj 3 (rowsA r))) b):=by kernel_rfl
def AYb9:CF:=fun args K=>∃(l:List AskT) (ly:LayT) (q:List AskT),args= [.d (.sl 3 (rowsA l)), .fn (.func 80) [] [.rptr [i64 ly.no,i64 ly.da]]]∧(l.length<1000000∧q=l.filter (fun x:AskT=>ACa9 x.sl x.of x.pe ly))∧K (.d (.sl 3 (rowsA q)))
theorem AVl9:COk 40 AYb9:=by
 rintro _ K ⟨l,ly,_,rfl,⟨hl,rfl⟩,hk⟩;refine ⟨_, ?_,hk⟩;refine pcL @BDe9 Zai BDd9 func40 fun Ev bb=> ?_;rw [BAc9];exact ⟨l,ly,rfl,rfl,rfl,hl,fun i r hr=>hr▸ .base LeA.rfl⟩
theorem BOv9 (x:GraT) (s:SideT):wpFn prog ⟨[], [],wl,y,false⟩ 100 f106 ([graA x]++ [.rptr [.pt (sideD s)]]) b R=(BIf (GraT.pe x==SideT.me s) (R (Zad (bo (decide (Zel x≥SideT.fr s)))) b) (R (Zad (bo false)) b)):=by kernel_rfl
def BSq9:CF:=fun args K=>∃(x:GraT) (s:SideT) (q:Bool),args= [graA x]++ [.rptr [.pt (sideD s)]]∧q=(fun x:GraT=>x.pe==s.me&&decide (x.un≥s.fr)) x∧K (.d (bo q))
theorem BKa9:COk 106 BSq9:=by
 rintro _ K ⟨x,s,_,rfl,rfl,hk⟩;refine ⟨_, ?_,hk⟩;refine pcO Zai func106 fun Ev bb=> ?_;rw [BOv9];exact Zax (fun h=>by have h':(x.pe==s.me)=true:=h;simp only [h',Zec]) fun h=>by have h':(x.pe==s.me)=false:=h;simp only [h',Zdb]
def BZl9:CT:= [(106,BSq9)]
theorem BQg9:AAb9 prog BZl9:=Zag BKa9 Zai
noncomputable def ASb9:Code:=sub [1,1,0,1,2,3] (code f77)
def ALn9 (l:List GraT) (s:SideT) (acc:AV) (n i:Int):List AV:= [.bad, .fn (.func 106) [] [.rptr [.pt (sideD s)]], .bad, .bad, .bad,acc, .bad, .bad, .d (.sl 5 (rowsG l)), .d (i64 n), .d (i64 i)]++Zam 12 .bad
theorem CDk9 (l:List GraT) (s:SideT) (xs:List (List Dv)) (n i:Int):wpc prog ⟨BZl9, [],wl,y,false⟩ 100 ASb9 (ALn9 l s (.own 59 5 xs) n i) [] b (maskK 0 [1,5,8,9,10] K)=(BIf (decide (i<n)) (BIf (true&&decide (0≤i)) (∃(x0:Int) (x1:Int) (x2:Int) (x3:Int) (x4:Int),(rowsG l)[Zak i]? =some (Qz27 x0 x1 x2 x3 x4)∧∃(x7:GraT) (s8:SideT) (q9:Bool), [Zan (Qz15 x0 x1 x2 x3 x4),Zah [Zdo (Qz2 s)]]= [Zan (Qz5 x7),Zah [Zdo (Qz2 s8)]]∧q9=(GraT.pe x7==SideT.me s8&&decide (Zel x7≥SideT.fr s8))∧BIf q9 (BIf (true&&decide ((Zaa xs+1)*40≤140737488355328)) (K .normal (Zab::Zav (Fn.func 106) [] [Zah [Zdo (Qz2 s)]]::bds 3 (Zcc 59 5 (xs++ [Qz27 x0 x1 x2 x3 x4])::Zab::Zab::Zad (Zaj 5 (rowsG l))::Zad (i64 n)::Zad (i64 (Zac .i64 (i+1)))::bds 12 [])) [] b) False) (K .normal (Zab::Zav (Fn.func 106) [] [Zah [Zdo (Qz2 s)]]::bds 3 (Zcc 59 5 xs::Zab::Zab::Zad (Zaj 5 (rowsG l))::Zad (i64 n)::Zad (i64 (Zac .i64 (i+1)))::bds 12 [])) [] b)) False) (K (Zba 0) (Zab::Zav (Fn.func 106) [] [Zah [Zdo (Qz2 s)]]::bds 3 (Zcc 59 5 xs::Zab::Zab::Zad (Zaj 5 (rowsG l))::Zad (i64 n)::Zad (i64 i)::bds 12 [])) [] b)):=by kernel_rfl
theorem CAj9 (l:List GraT) (s:SideT) (hl:l.length<1000000) (hQ:∀i:Int,Q (.exit 0) ⟨ALn9 l s (.own 59 5 (rowsG (l.filter (fun x:GraT=>x.pe==s.me&&decide (x.un≥s.fr))))) l.length i, [],b0⟩):
 WR Ev ASb9 (l.length+1) ⟨ALn9 l s (.own 59 5 (rowsG [])) l.length (0:Nat), [],b0⟩ Q:=by
 refine WR.gathL (X:=⟨BZl9, [],wlW Ev,Ev.Y,false⟩) (k:=100) [1,5,8,9,10] mixed (CX.Ok.of BQg9 Zar) l (AIx9 (fun x:GraT=>x.pe==s.me&&decide (x.un≥s.fr))) (AHd9 _) (fun acc i=>ALn9 l s (.own 59 5 (rowsG acc)) l.length (i:Nat)) [] 0 (fun i x acc hi hx ha K k1=> ?_) (fun acc K k1=> ?_) ?_
 ·refine Eq.mpr (CDk9 _ _ _ K l s _ l.length i) ?_;rw [ABb9 hx];refine Zas (by simp;omega) (Zas (natI i) ⟨_,_,_,_,_,rfl,x,s,_,rfl,rfl,Zax (fun g=>Zas (by simp [AAd9];omega) ?_) fun g=> ?_⟩)
  ·rw [AJv9 (p:=(fun x:GraT=>x.pe==s.me&&decide (x.un≥s.fr))) (x:=x) g,AFq9] at k1;rw [wrapN (by omega)];exact k1
  ·rw [AJw9 (p:=(fun x:GraT=>x.pe==s.me&&decide (x.un≥s.fr))) (x:=x) g,Zco] at k1;rw [wrapN (by omega)];exact k1
 ·refine Eq.mpr (CDk9 _ _ _ K l s _ l.length _) ?_;exact Zci (by simp) k1
 ·rw [ACp9];exact hQ _
def BDg9 {β:Type}:WLT β:=fun cd tm hp b K=>∃(l:List GraT) (s:SideT),cd= .loop ASb9∧AAn9 [1,5,8,9,10] 0 tm=ALn9 l s nilA (rowsG l).length 0∧hp= []∧l.length<1000000∧
 ∀(i:Int) (r:List GraT),r=l.filter (fun x:GraT=>x.pe==s.me&&decide (x.un≥s.fr))→K (.exit 0) (ALn9 l s (.own 59 5 (rowsG r)) l.length i) [] b
theorem BDf9:WlOk Ev BDg9:=by
 rintro c tm hp b K ⟨l,s,rfl,htm,rfl,hl,hK⟩;rw [AAd9] at htm;refine W.cast (htm▸AAc9 _ tm 0) (Zbg _) ?_;refine W.cast (tm':=ALn9 l s (.own 59 5 (rowsG [])) l.length 0) (LeL.at [_,_,_,_,_] _ (Zfj rfl)) (Zbg _) ?_;exact W.rounds (CAj9 (Q:=fun e s=>K e s.tm s.hp s.b) l s hl fun i=>hK i _ rfl)
theorem BAd9 (l:List GraT) (s:SideT):wpFn prog ⟨[], [],BDg9,y,false⟩ 100 f77 [.d (.sl 5 (rowsG l)), .fn (.func 106) [] [.rptr [.pt (sideD s)]]] b R=(∃(l0:List GraT) (s1:SideT),Zaq ASb9=Zaq ASb9∧(Zab::Zav (Fn.func 106) [] [Zah [Zdo (Qz2 s)]]::bds 3 (Zad (Zdk (.slice none 0 0))::Zab::Zab::Zad (Zaj 5 (rowsG l))::Zad (i64 ((Zaa (rowsG l):Nat):Int))::Zad (i64 0)::bds 12 []))=(Zab::Zav (Fn.func 106) [] [Zah [Zdo (Qz2 s1)]]::bds 3 (Zad (Zdk (.slice none 0 0))::Zab::Zab::Zad (Zaj 5 (rowsG l0))::Zad (i64 ((Zaa (rowsG l0):Nat):Int))::Zad (i64 0)::bds 12 []))∧([]:List Blk)= []∧Zaa l0<1000000∧∀(i:Int) (r:List GraT),r=Zcf (fun (x2:GraT)=>GraT.pe x2==SideT.me s1&&decide (Zel x2≥SideT.fr s1)) l0→R (.d (Zaj 5 (rowsG r))) b):=by kernel_rfl
def AYc9:CF:=fun args K=>∃(l:List GraT) (s:SideT) (q:List GraT),args= [.d (.sl 5 (rowsG l)), .fn (.func 106) [] [.rptr [.pt (sideD s)]]]∧(l.length<1000000∧q=l.filter (fun x:GraT=>x.pe==s.me&&decide (x.un≥s.fr)))∧K (.d (.sl 5 (rowsG q)))
theorem AVm9:COk 77 AYc9:=by
 rintro _ K ⟨l,s,_,rfl,⟨hl,rfl⟩,hk⟩;refine ⟨_, ?_,hk⟩;refine pcL @BDg9 Zai BDf9 func77 fun Ev bb=> ?_;rw [BAd9];exact ⟨l,s,rfl,rfl,rfl,hl,fun i r hr=>hr▸ .base LeA.rfl⟩
def TGd:CT:= [(77,AYc9)]
theorem CKw9:AAb9 prog TGd:=Zag AVm9 Zai
theorem BGj9 (s:SideT) (n:NearT):wpFn prog ⟨TGd, [],wl,y,false⟩ 100 f53 [.rptr (sideD s),nearA n] b R=(∃(l0:List GraT) (s1:SideT) (q2:List GraT), [Zad (Zaj 5 (rowsG (Zce n))),Zav (Fn.func 106) [] [Zah [Zdo (Qz2 s)]]]= [Zad (Zaj 5 (rowsG l0)),Zav (Fn.func 106) [] [Zah [Zdo (Qz2 s1)]]]∧(Zaa l0<1000000∧q2=Zcf (fun (x3:GraT)=>GraT.pe x3==SideT.me s1&&decide (Zel x3≥SideT.fr s1)) l0)∧R (.d (Zaj 5 (rowsG q2))) b):=by kernel_rfl
def ADg9 (s:SideT) (n:NearT):List GraT:=n.gs.filter (fun x=>x.pe==s.me&&decide (x.un≥s.fr))
def BJd9:CF:=fun args K=>∃(s:SideT) (n:NearT) (q:List GraT),args= [.rptr (sideD s),nearA n]∧(n.gs.length<1000000∧q=ADg9 s n)∧K (.d (.sl 5 (rowsG q)))
theorem BBq9:COk 53 BJd9:=by
 rintro _ K ⟨s,n,_,rfl,⟨h,rfl⟩,hk⟩;refine ⟨_, ?_,hk⟩;refine pcO CKw9 func53 fun Ev bb=> ?_;rw [BGj9];exact ⟨n.gs,s,_,rfl,⟨h,rfl⟩,rfl⟩
def TFi:CT:= [(82,BIz9)]
theorem CKx9:AAb9 prog TFi:=Zag BBo9 Zai
theorem CFd9 (s:SideT) (pe:Int):wpFn prog ⟨TFi, [],wl,y,false⟩ 100 f37 [.rptr (sideD s), .d (i64 pe)] b R=(∃(l0:List NearT) (pe1:Int) (q2:Int), [Zad (Zaj 31 (rowsN (SideT.ns s))),Zav (Fn.func 83) [] [Zah [i64 pe]]]= [Zad (Zaj 31 (rowsN l0)),Zav (Fn.func 83) [] [Zah [i64 pe1]]]∧(Zaa l0≤9223372036854775807∧q2=idxS (fun (x3:NearT)=>Zcy x3==pe1) l0)∧BIf (decide (q2<(0:Int))) (R (.tup [Zan [Zad (i64 0),Zad (i64 0),Zad (i64 0),Zad (i64 0),Zad (i64 0),Zad (i64 0),Zad (i64 0),Zad (i64 0),Zad (i64 0),Zad (i64 0),Zad (i64 0),Zad (i64 0),Zad (Zdk (.slice none 0 0)),Zad (Zdk (.slice none 0 0)),Zad (Zdk (.slice none 0 0)),Zad (Zdk (.slice none 0 0)),Zad (bo false),Zad (Zdk (.slice none 0 0)),Zad (Zdk (.slice none 0 0)),Zad (Zdk (.slice none 0 0)),Zad (i64 0),Zad (i64 0),Zad (u64 0),Zad (i64 0),Zad (i64 0),Zad (i64 0),Zad (i64 0),Zad (i64 0),Zad (Zdk (.slice none 0 0)),Zad (Zdk (.slice none 0 0)),Zad (bo false)],Zad (bo false)]) b) (BIf (true&&decide (0≤q2)) (∃(n4:NearT),(rowsN (SideT.ns s))[Zak q2]? =some (nearR n4)∧R (.tup [nearA n4,Zad (bo true)]) b) False)):=by kernel_rfl
theorem ACb9 {α:Type} (p:α→Bool) (l:List α):(l.findIdx? p=none∧l.find? p=none)∨∃j x,l.findIdx? p=some j∧l[j]? =some x∧l.find? p=some x∧p x=true:=by
 induction l with
 |nil=>exact .inl ⟨rfl,rfl⟩
 | cons a r ih=>
  rw [List.findIdx?_cons,List.find?_cons];by_cases h:p a=true
  ·exact .inr ⟨0,a,by simp [h],by simp,by simp [h],h⟩
  ·simp only [Bool.not_eq_true] at h;rcases ih with ⟨h1,h2⟩|⟨j,x,h1,h2,h3,h4⟩
   ·exact .inl ⟨by simp [h,h1],by simp [h,h2]⟩
   ·exact .inr ⟨j+1,x,by simp [h,h1],by simpa using h2,by simp [h,h3],h4⟩
def zeroN:NearT:=⟨0,0, [], [], [],0,0,0,0,0,0,0,0,0,0, [],false, [], [], [],0,0,0,0,0,0,0,0, [], [],false⟩
def sFind (s:SideT) (pe:Int):Option NearT:=s.ns.find? fun x=>x.fm==pe
def nearO (o:Option NearT):NearT:=match o with|some n=>n|none=>zeroN
theorem CAc9 (e:Bool):LeV (AV.tup [Zan [Zad (i64 (0:Int)),Zad (i64 (0:Int)),Zad (i64 (0:Int)),Zad (i64 (0:Int)),Zad (i64 (0:Int)),Zad (i64 (0:Int)),Zad (i64 (0:Int)),Zad (i64 (0:Int)),Zad (i64 (0:Int)),Zad (i64 (0:Int)),Zad (i64 (0:Int)),Zad (i64 (0:Int)),Zad (Zdk (Zdj none 0 0)),Zad (Zdk (Zdj none 0 0)),Zad (Zdk (Zdj none 0 0)),Zad (Zdk (Zdj none 0 0)),Zad (bo false),Zad (Zdk (Zdj none 0 0)),Zad (Zdk (Zdj none 0 0)),Zad (Zdk (Zdj none 0 0)),Zad (i64 (0:Int)),Zad (i64 (0:Int)),Zad (u64 (0:Int)),Zad (i64 (0:Int)),Zad (i64 (0:Int)),Zad (i64 (0:Int)),Zad (i64 (0:Int)),Zad (i64 (0:Int)),Zad (Zdk (Zdj none 0 0)),Zad (Zdk (Zdj none 0 0)),Zad (bo false)],Zad (bo e)]) (.tup [nearA zeroN, .d (bo e)]):=
 LeV.tups (.cons (LeV.aggs (by repeat' (first|exact .nil|refine .cons .rfl ?_|refine .cons (.nil rfl) ?_))) (.cons .rfl .nil))
def cFind:CF:=fun args K=>∃(s:SideT) (pe:Int) (q:NearT) (e:Bool),args= [.rptr (sideD s), .d (i64 pe)]∧(s.ns.length≤9223372036854775807∧q=nearO (sFind s pe)∧e=(sFind s pe).isSome)∧K (.tup [nearA q, .d (bo e)])
theorem AVu9:COk 37 cFind:=by
 rintro _ K ⟨s,pe,_,_,rfl,⟨h,rfl,rfl⟩,hk⟩;refine ⟨_, ?_,hk⟩;refine PCall.ofFnV (n:=100) (u:=false) (fun _=>fun _ _ _ _ _=>False) mixed CKx9 Zar (fun Ev _ _ _ _ _ h=>h.elim) func37 (by rfl) (by rfl) fun Ev bb=> ?_;rw [CFd9];refine ⟨s.ns,pe,_,rfl,⟨h,rfl⟩, ?_⟩;rcases ACb9 (fun x:NearT=>x.fm==pe) s.ns with ⟨h1,h2⟩|⟨j,x,h1,h2,h3,_⟩
 ·rw [AAq9 h1,show sFind s pe=none from h2];exact Zas (by decide) (CAc9 false)
 ·rw [AAj9 h1,show sFind s pe=some x from h3,AAr9 h2];exact Zci (by simp) (Zas (natI j) ⟨_,rfl, .rfl⟩)
variable {Ev:Env prog} {b0:Ev.β} {Q:Exit→St Ev.β→Prop}
noncomputable def lpRf:Code:=sub [1,0,1,2,3] (code f109)
def tmRf (l:List NearT) (pe q i:Int):List AV:= [.d (.sl 31 (rowsN l)), .d (i64 pe), .bad, .bad, .d (i64 q), .d (i64 i)]++Zam 15 .bad
theorem rRf (l:List NearT) (pe i:Int):wpc prog ⟨[], [],wl,y,false⟩ 100 lpRf (tmRf l pe 0 i) [] b (maskK 0 [0,1,4,5] K)=(BIf (decide (i<((Zaa (rowsN l):Nat):Int))) (BIf (true&&decide (0≤i)) (∃(n0:NearT),(rowsN l)[Zak i]? =some (nearR n0)∧BIf (Zcy n0==pe) (K .ret (Zad (Zaj 31 (rowsN l))::Zad (i64 pe)::Zab::Zab::Zad (i64 i)::Zad (i64 i)::bds 15 []) [] b) (K .normal (Zad (Zaj 31 (rowsN l))::Zad (i64 pe)::Zab::Zab::Zad (i64 0)::Zad (i64 (Zac .i64 (i+1)))::bds 15 []) [] b)) False) (K (Zba 0) (Zad (Zaj 31 (rowsN l))::Zad (i64 pe)::Zab::Zab::Zad (i64 0)::Zad (i64 i)::bds 15 []) [] b)):=by kernel_rfl
theorem wrRf (l:List NearT) (pe:Int) (hl:l.length≤9223372036854775807) (h1:l.findIdx? (fun x:NearT=>x.fm==pe)=none→∀i:Int,Q (.exit 0) ⟨tmRf l pe 0 i, [],b0⟩) (h2:∀j:Nat,l.findIdx? (fun x:NearT=>x.fm==pe)=some j→Q .ret ⟨tmRf l pe j j, [],b0⟩):
 WR Ev lpRf (l.length+1) ⟨tmRf l pe 0 (0:Nat), [],b0⟩ Q:=by
 refine WR.findL (X:=⟨[], [],wlW Ev,Ev.Y,false⟩) (k:=100) [0,1,4,5] mixed (CX.Ok.of Zai Zar) l (fun x:NearT=>x.fm==pe) (fun i=>tmRf l pe 0 (i:Nat)) (fun i=>tmRf l pe (i:Nat) (i:Nat)) [] 0 (fun i x hi hxi K k1 k2=> ?_) (fun K k1=> ?_) (fun h=>h1 h _) h2
 ·refine Eq.mpr (rRf _ _ _ K l pe i) ?_;rw [ABe9,AAr9 hxi];refine Zas (by simp;omega) (Zas (natI i) ⟨_,rfl,Zax (fun g=>k1 g) fun g=> ?_⟩);rw [wrapN (by omega)];exact k2 g
 ·refine Eq.mpr (rRf _ _ _ K l pe _) ?_;rw [ABe9];exact Zci (by simp) k1
def wlRf {β:Type}:WLT β:=fun cd tm hp b K=>∃(l:List NearT) (pe:Int) (q:Int),cd= .loop lpRf∧AAn9 [0,1,4,5] 0 tm=tmRf l pe 0 0∧hp= []∧(l.length≤9223372036854775807∧q=idxS (fun x:NearT=>x.fm==pe) l)∧(∀i:Int,q= -1→K (.exit 0) (tmRf l pe 0 i) [] b)∧(∀i:Int,0≤q→K .ret (tmRf l pe q i) [] b)
theorem CBi9:WlOk Ev wlRf:=by
 rintro c tm hp b K ⟨l,pe,q,rfl,htm,rfl,⟨hl,rfl⟩,hK1,hK2⟩;refine W.cast (htm▸AAc9 _ tm 0) (Zbg _) ?_;exact W.rounds (wrRf (Q:=fun e s=>K e s.tm s.hp s.b) l pe hl (fun h i=>hK1 i (AAq9 h)) fun j h=>by have:=hK2 j (by rw [AAj9 h];omega);rwa [AAj9 h] at this)
theorem BVn9 (l:List NearT) (pe:Int):wpFn prog ⟨[], [],wlRf,y,false⟩ 100 f109 [.d (.sl 31 (rowsN l)), .d (i64 pe)] b R=(∃(l0:List NearT) (pe1:Int) (q2:Int),Zaq lpRf=Zaq lpRf∧(Zad (Zaj 31 (rowsN l))::Zad (i64 pe)::Zab::Zab::Zad (i64 0)::Zad (i64 0)::bds 15 [])=(Zad (Zaj 31 (rowsN l0))::Zad (i64 pe1)::Zab::Zab::Zad (i64 0)::Zad (i64 0)::bds 15 [])∧([]:List Blk)= []∧(Zaa l0≤9223372036854775807∧q2=idxS (fun (x3:NearT)=>Zcy x3==pe1) l0)∧(∀(i:Int),q2=(-1:Int)→R (.d (i64 (-1))) b)∧∀(i:Int),(0:Int)≤q2→R (.d (i64 q2)) b):=by kernel_rfl
theorem BXg9 (t:TabT):wpFn prog ⟨[], [],wl,y,false⟩ 100 f34 [tabA t] b R=(BIf (decide (((Zaa (rowsU (Zbv t)):Nat):Int)≤(70:Int))) (BIf (decide (((Zaa (rowsG (Zbx t)):Nat):Int)≤(70:Int))) (R (.d (bo (decide (((Zaa (rowsA (Zck t)):Nat):Int)≤(70:Int))))) b) (R (.d (bo false)) b)) (R (.d (bo false)) b)):=by kernel_rfl
def BPl9:CF:=fun args K=>∃(l:List NearT) (pe:Int) (q:Int),args= [.d (.sl 31 (rowsN l)), .d (i64 pe)]∧(l.length≤9223372036854775807∧q=idxS (fun x:NearT=>x.fm==pe) l)∧K (.d (i64 q))
theorem AQc9:COk 109 BPl9:=by
 rintro _ K ⟨l,pe,_,rfl,⟨hl,rfl⟩,hk⟩;refine ⟨_, ?_,hk⟩;refine pcW @wlRf Zai CBi9 func109 fun Ev bb=> ?_;rw [BVn9];exact ⟨l,pe,_,rfl,rfl,rfl,⟨hl,rfl⟩,fun i h=>by rw [h],fun i h=>rfl⟩
def ASv9 (t:TabT):Bool:=decide (t.us.length≤70)&&(decide (t.gs.length≤70)&&decide (t.ak.length≤70))
theorem BGz9 {t:TabT}:ASv9 t=true↔t.us.length≤70∧t.gs.length≤70∧t.ak.length≤70:=by simp [ASv9]
def CGi9:CF:=fun args K=>∃(t:TabT) (q:Bool),args= [tabA t]∧q=ASv9 t∧K (.d (bo q))
theorem BPq9:COk 34 CGi9:=by
 rintro _ K ⟨t,_,rfl,rfl,hk⟩;refine ⟨_, ?_,hk⟩;refine pcO Zai func34 fun Ev bb=> ?_;rw [BXg9];simp only [AAe9,AAd9,AAi9];have e:∀n:Nat,decide (((n:Nat):Int)≤70)=decide (n≤70):=fun n=>by rw [decide_eq_decide];omega
 simp only [e];refine Zax (fun h1=> ?_) fun h1=> ?_
 ·refine Zax (fun h2=> ?_) fun h2=> ?_
  ·rw [ASv9,h1,h2];rfl
  ·rw [ASv9,h1,h2];rfl
 ·rw [ASv9,h1];rfl
noncomputable def lpNb:Code:=sub [1,0,1,2,3] (code f69)
def tmNb (l:List NearT) (me fr i:Int):List AV:= [.bad, .d (i64 me), .d (.sl 31 (rowsN l)), .d (i64 fr), .ptr 0 0, .bad, .bad, .bad, .d (bo false), .d (i64 i)]++Zam 56 .bad
theorem BNl9 (n:NearT) (fr:Int):wpFn prog ⟨[], [],wl,y,false⟩ 100 f27 [nearA n, .d (i64 fr)] b R=(R (Zad (bo (decide (Zac Zbb (Zey n+(1:Int))≥fr)))) b):=by kernel_rfl
theorem CEn9 (l:LayT) (g:GraT) (me fr:Int):wpFn prog ⟨TV12, [],wl,y,false⟩ 100 f67 [layA l,graA g, .d (i64 me), .d (i64 fr)] b R=(∃(u0:GraT) (l1:LayT) (z2:Bool), [Zan (Qz5 g),Zan (Qz3 l)]= [Zan (Qz5 u0),Zan (Qz3 l1)]∧z2=graOk u0 l1∧BIf z2 (BIf (GraT.pe g==me) (R (.d (bo (decide (Zel g≥fr)))) b) (R (.d (bo false)) b)) (R (.d (bo false)) b)):=by kernel_rfl
abbrev Qz20 (v0:Int) (v1:List NearT) (v2:Int) (v3:Int):=Zab::Zad (i64 v0)::Zad (Zaj 31 (rowsN v1))::Zad (i64 v2)::Zae 0 0::bds 3 (Zad (bo false)::Zad (i64 v3)::bds 56 [])
theorem rNb (ly:LayT) (l:List NearT) (me fr i:Int):wpc prog ⟨[], [],wl,y,false⟩ 100 lpNb (tmNb l me fr i) [layB ly] b (maskK 1 [1,2,3,4,8,9] K)=(BIf (decide (i<((Zaa (rowsN l):Nat):Int))) (BIf (true&&decide (0≤i)) (∃(n0:NearT),(rowsN l)[Zak i]? =some (nearR n0)∧BIf (decide (Zcy n0<(0:Int))) (K .ret (Qz20 me l fr i) [bk (Qz3 ly)] b) (BIf (decide (Zcy n0≥Zeg ly)) (K .ret (Qz20 me l fr i) [bk (Qz3 ly)] b) (BIf (Zcy n0==me) (K .ret (Qz20 me l fr i) [bk (Qz3 ly)] b) (BIf (true&&decide (0≤i)) (∃(n3:NearT),(rowsN l)[Zak i]? =some (nearR n3)∧BIf (decide (Zey n3<(0:Int))) (K .ret (Qz20 me l fr i) [bk (Qz3 ly)] b) (BIf (true&&decide (0≤i)) (∃(n6:NearT),(rowsN l)[Zak i]? =some (nearR n6)∧BIf (decide (Zey n6>fr)) (K .ret (Qz20 me l fr i) [bk (Qz3 ly)] b) (BIf (decide (i>(0:Int))) (BIf (true&&decide ((0:Int)≤Zac .i64 (i - 1))) (∃(n9:NearT),(rowsN l)[Zak (Zac .i64 (i - 1))]? =some (nearR n9)∧BIf (decide (Zcy n9≥Zcy n0)) (K .ret (Qz20 me l fr i) [bk (Qz3 ly)] b) (K .normal (Zab::Zad (i64 me)::Zad (Zaj 31 (rowsN l))::Zad (i64 fr)::Zae 0 0::bds 3 (Zad (bo false)::Zad (i64 (Zac .i64 (i+1)))::bds 56 [])) [bk (Qz3 ly)] b)) False) (K .normal (Zab::Zad (i64 me)::Zad (Zaj 31 (rowsN l))::Zad (i64 fr)::Zae 0 0::bds 3 (Zad (bo false)::Zad (i64 (Zac .i64 (i+1)))::bds 56 [])) [bk (Qz3 ly)] b))) False)) False)))) False) (K (Zba 0) (Qz20 me l fr i) [bk (Qz3 ly)] b)):=by kernel_rfl
def AJb9 (n:NearT) (fr:Int):Bool:=decide (Zac Zbb (n.fr+1)≥fr)
def BIo9:CF:=fun args K=>∃(n:NearT) (fr:Int) (q:Bool),args= [nearA n, .d (i64 fr)]∧q=AJb9 n fr∧K (.d (bo q))
theorem ATd9:COk 27 BIo9:=by
 rintro _ K ⟨n,fr,_,rfl,rfl,hk⟩;refine ⟨_, ?_,hk⟩;refine pcO Zai func27 fun Ev bb=> ?_;rw [BNl9];rfl
def mineS (l:LayT) (g:GraT) (me fr:Int):Bool:=graOk g l&&(g.pe==me&&decide (g.un≥fr))
def cMine:CF:=fun args K=>∃(l:LayT) (g:GraT) (me fr:Int) (q:Bool),args= [layA l,graA g, .d (i64 me), .d (i64 fr)]∧q=mineS l g me fr∧K (.d (bo q))
theorem BIm9:COk 67 cMine:=by
 rintro _ K ⟨l,g,me,fr,_,rfl,rfl,hk⟩;refine ⟨_, ?_,hk⟩;refine pcO AGw9 func67 fun Ev bb=> ?_;rw [CEn9];refine ⟨g,l,_,rfl,rfl,Zax (fun h1=>Zax (fun h2=> ?_) fun h2=> ?_) fun h1=> ?_⟩
 ·have h2':(g.pe==me)=true:=h2;rw [mineS,h1,h2'];rfl
 ·have h2':(g.pe==me)=false:=h2;rw [mineS,h1,h2'];rfl
 ·rw [mineS,h1];rfl
def AAg9 {α:Type}:Option α→List α→List (Option α×α)
 |_, []=> []
 |o,x::r=>(o,x)::AAg9 (some x) r
theorem AEc9 {α:Type} (l:List α):∀o,(AAg9 o l).length=l.length:=by
 induction l with
 |nil=>intro o;rfl
 |cons x r ih=>intro o;simp [AAg9,ih]
theorem AEu9 {α:Type} (l:List α):∀(o:Option α) (i:Nat) (p:Option α×α),(AAg9 o l)[i]? =some p→l[i]? =some p.2∧(i=0→p.1=o)∧∀j,i=j+1→∃w,p.1=some w∧l[j]? =some w:=by
 induction l with
 |nil=>intro o i p h;simp [AAg9] at h
 | cons x r ih=>
  intro o i p h;cases i with
  | zero=>
   simp only [AAg9,List.getElem?_cons_zero,Option.some.injEq] at h;subst h;exact ⟨rfl,fun _=>rfl,fun j hj=>by omega⟩
  | succ i=>
   simp only [AAg9,List.getElem?_cons_succ] at h;obtain ⟨h1,h2,h3⟩:=ih (some x) i p h;refine ⟨by simpa using h1,fun hh=>by omega,fun j hj=> ?_⟩;cases i with
   |zero=>exact ⟨x,h2 rfl,by rw [show j=0 by omega];rfl⟩
   | succ i=>
    obtain ⟨w,hw,hl⟩:=h3 i rfl;exact ⟨w,hw,by rw [show j=i+1 by omega];simpa using hl⟩
variable {Ev:Env prog} {b0:Ev.β} {Q:Exit→St Ev.β→Prop}
def AWz9 (o:Option NearT) (fm:Int):Bool:=match o with|some w=>decide (w.fm≥fm)|none=>false
def badN (ly:LayT) (me fr:Int) (p:Option NearT×NearT):Bool:=decide (p.2.fm<0)||(decide (p.2.fm≥ly.no)||(p.2.fm==me||(decide (p.2.fr<0)||(decide (p.2.fr>fr)||AWz9 p.1 p.2.fm))))
theorem wrNb (ly:LayT) (l:List NearT) (me fr:Int) (hl:l.length≤9223372036854775807) (h1:(AAg9 none l).any (badN ly me fr)=false→∀i:Int,Q (.exit 0) ⟨tmNb l me fr i, [layB ly],b0⟩) (h2:(AAg9 none l).any (badN ly me fr)=true→∀i:Int,Q .ret ⟨tmNb l me fr i, [layB ly],b0⟩):
 WR Ev lpNb (l.length+1) ⟨tmNb l me fr (0:Nat), [layB ly],b0⟩ Q:=by
 have e:=AEc9 l none;rw [←e];refine Zfi (X:=⟨[], [],wlW Ev,Ev.Y,false⟩) (k:=100) [1,2,3,4,8,9] mixed (CX.Ok.of Zai Zar) (AAg9 none l) (badN ly me fr) (fun i=>tmNb l me fr (i:Nat)) (fun i=>tmNb l me fr (i:Nat)) [layB ly] 0 (fun i x hi hx K k1 k2=> ?_) (fun K k1=> ?_) (fun h=>h1 h _) fun h i=>h2 h _
 ·obtain ⟨g1,g2,g3⟩:=AEu9 l none i x hx;obtain ⟨o,x⟩:=x;simp only at g1 g2 g3;refine Eq.mpr (rNb _ _ _ K ly l me fr i) ?_;rw [ABe9];refine Zas (by simp;omega) (Zas (natI i) ?_);refine ⟨_,AAr9 g1, ?_⟩;refine Zax (fun c1=>k1 (by simp [badN,c1])) fun c1=>Zax (fun c2=>k1 (by simp [badN,c2])) fun c2=>Zax (fun c3=>k1 (by rw [badN];simp only [show (x.fm==me)=true from c3,Zdi,Zdf])) fun c3=>Zas (natI i) ⟨_,AAr9 g1,Zax (fun c4=>k1 (by simp [badN,c4])) fun c4=>Zas (natI i) ⟨_,AAr9 g1,Zax (fun c5=>k1 (by simp [badN,c5])) fun c5=> ?_⟩⟩;have hb:badN ly me fr (o,x)=AWz9 o x.fm:=by rw [badN,c1,c2,show (x.fm==me)=false from c3,c4,c5];rfl
  cases i with
  | zero=>
   refine Zci (by decide) ?_;rw [wrapN (by omega)];exact k2 (by rw [hb,g2 rfl];rfl)
  | succ j=>
   obtain ⟨w,hw,hj⟩:=g3 j rfl;refine Zas (by simp) ?_;rw [show Zac Zbb (((j+1:Nat):Int) - 1)=((j:Nat):Int) by rw [AAw9 (by omega) (by omega)];omega];refine Zas (natI j) ⟨_,AAr9 hj,Zax (fun c6=>k1 (by rw [hb,hw];exact c6)) fun c6=> ?_⟩;rw [wrapN (by omega)];exact k2 (by rw [hb,hw];exact c6)
 ·refine Eq.mpr (rNb _ _ _ K ly l me fr _) ?_;rw [ABe9];exact Zci (by simp [e]) k1
def wlNb {β:Type}:WLT β:=fun cd tm hp b K=>∃(ly:LayT) (l:List NearT) (me fr:Int) (q:Bool),cd= .loop lpNb∧AAn9 [1,2,3,4,8,9] 0 tm=tmNb l me fr 0∧hp= [layB ly]∧(l.length≤9223372036854775807∧q=(AAg9 none l).any (badN ly me fr))∧BIf q (∀i:Int,K .ret (tmNb l me fr i) [layB ly] b) (∀i:Int,K (.exit 0) (tmNb l me fr i) [layB ly] b)
theorem CBl9:WlOk Ev wlNb:=by
 rintro c tm hp b K ⟨ly,l,me,fr,q,rfl,htm,rfl,⟨hl,hz⟩,hK⟩;refine W.cast (htm▸AAc9 _ tm 0) (Zbg _) ?_;exact W.rounds (wrNb (Q:=fun e s=>K e s.tm s.hp s.b) ly l me fr hl (fun h=>by rw [hz,h] at hK;exact hK) fun h=>by rw [hz,h] at hK;exact hK)
abbrev Qz89 (v0:Int) (v1:List NearT) (v2:Int):=Zab::Zad (i64 v0)::Zad (Zaj 31 (rowsN v1))::Zad (i64 v2)::Zae 0 0::bds 3 (Zad (bo false)::Zad (i64 0)::bds 56 [])
theorem nb_nf (ly:LayT) (l:List NearT) (me fr:Int):wpFn prog ⟨[], [],wlNb,y,false⟩ 100 f69 [layA ly, .d (i64 me), .d (.sl 31 (rowsN l)), .d (i64 fr)] b R=(∃(ly0:LayT) (l1:List NearT) (me2:Int) (fr3:Int) (q4:Bool),Zaq lpNb=Zaq lpNb∧(Qz89 me l fr)=(Qz89 me2 l1 fr3)∧ [bk (Qz3 ly)]= [bk (Qz3 ly0)]∧(Zaa l1≤9223372036854775807∧q4=Zcp (AAg9 none l1) (badN ly0 me2 fr3))∧BIf q4 (∀(i:Int),R (.d (bo false)) b) (∀(i:Int),R (.d (bo true)) b)):=by kernel_rfl
def nbS (ly:LayT) (l:List NearT) (me fr:Int):Bool:= !(AAg9 none l).any (badN ly me fr)
def cNb:CF:=fun args K=>∃(ly:LayT) (l:List NearT) (me fr:Int) (q:Bool),args= [layA ly, .d (i64 me), .d (.sl 31 (rowsN l)), .d (i64 fr)]∧(l.length≤9223372036854775807∧q=nbS ly l me fr)∧K (.d (bo q))
theorem CJm9:COk 69 cNb:=by
 rintro _ K ⟨ly,l,me,fr,_,rfl,⟨hl,rfl⟩,hk⟩;refine ⟨_, ?_,hk⟩;refine pcW @wlNb Zai CBl9 func69 fun Ev bb=> ?_;rw [nb_nf];exact ⟨ly,l,me,fr,_,rfl,rfl,rfl,⟨hl,rfl⟩,Zax (fun h i=>by rw [nbS,h];rfl) fun h i=>by rw [nbS,h];rfl⟩
variable {Ev:Env prog} {b0:Ev.β} {Q:Exit→St Ev.β→Prop}
noncomputable def lpFo0:Code:=sub [1,0,1,2,3,1,0,2,1,2,3] (code f21)
def tmFo (l:List NearT) (me:Int) (q:Bool) (i:Int) (k:AV):List AV:= [.bad, .d (.sl 31 (rowsN l)), .bad, .d (i64 me), .ptr 0 0, .bad, .ptr 1 0, .bad, .d (bo q), .d (i64 i),k]++Zam 44 .bad
theorem rFo0 (ly:LayT) (l:List NearT) (sl of me i k:Int):wpc prog ⟨TV12, [],wl,y,false⟩ 100 lpFo0 (tmFo l me false i (.d (i64 k))) [layB ly,cellB sl of] b (maskK 2 [1,3,4,6,8,9,10] K)=(BIf (true&&decide (0≤i)) (∃(n0:NearT),(rowsN l)[Zak i]? =some (nearR n0)∧BIf (decide (k<((Zaa (rowsG (Zce n0)):Nat):Int))) (BIf (true&&decide (0≤i)) (∃(n3:NearT),(rowsN l)[Zak i]? =some (nearR n3)∧BIf (true&&decide (0≤k)) (∃(x6:Int) (x7:Int) (x8:Int) (x9:Int) (x10:Int),(rowsG (Zce n3))[Zak k]? =some (Qz27 x6 x7 x8 x9 x10)∧∃(u13:GraT) (l14:LayT) (z15:Bool), [Zan (Qz15 x6 x7 x8 x9 x10),Zan (Qz3 ly)]= [Zan (Qz5 u13),Zan (Qz3 l14)]∧z15=graOk u13 l14∧BIf z15 (BIf (x6==sl&&(x7==of&&true)) (BIf (x8 !=me) (K .ret (Zab::Zad (Zaj 31 (rowsN l))::Zab::Zad (i64 me)::Zae 0 0::Zab::Zae 1 0::Zab::Zad (bo true)::Zad (i64 i)::Zad (i64 k)::bds 44 []) (Qz24 ly sl of) b) (K .normal (Zab::Zad (Zaj 31 (rowsN l))::Zab::Zad (i64 me)::Zae 0 0::Zab::Zae 1 0::Zab::Zad (bo false)::Zad (i64 i)::Zad (i64 (Zac .i64 (k+1)))::bds 44 []) (Qz24 ly sl of) b)) (K .normal (Zab::Zad (Zaj 31 (rowsN l))::Zab::Zad (i64 me)::Zae 0 0::Zab::Zae 1 0::Zab::Zad (bo false)::Zad (i64 i)::Zad (i64 (Zac .i64 (k+1)))::bds 44 []) (Qz24 ly sl of) b)) (K .normal (Zab::Zad (Zaj 31 (rowsN l))::Zab::Zad (i64 me)::Zae 0 0::Zab::Zae 1 0::Zab::Zad (bo false)::Zad (i64 i)::Zad (i64 (Zac .i64 (k+1)))::bds 44 []) (Qz24 ly sl of) b)) False) False) (K (Zba 2) (Zab::Zad (Zaj 31 (rowsN l))::Zab::Zad (i64 me)::Zae 0 0::Zab::Zae 1 0::Zab::Zad (bo false)::Zad (i64 i)::Zad (i64 k)::bds 44 []) (Qz24 ly sl of) b)) False):=by kernel_rfl
def forG (ly:LayT) (sl of me:Int) (g:GraT):Bool:=graOk g ly&&((g.sl==sl&&g.of==of)&& !(g.pe==me))
theorem wrFo0 (ly:LayT) (l:List NearT) (sl of me:Int) (i:Nat) (x:NearT) (hx:l[i]? =some x) (hl:x.gs.length≤9223372036854775807) (h1:x.gs.any (forG ly sl of me)=false→∀k:Int,Q (.exit 2) ⟨tmFo l me false i (.d (i64 k)), [layB ly,cellB sl of],b0⟩) (h2:x.gs.any (forG ly sl of me)=true→∀k:Int,Q .ret ⟨tmFo l me true i (.d (i64 k)), [layB ly,cellB sl of],b0⟩):
 WR Ev lpFo0 (x.gs.length+1) ⟨tmFo l me false i (.d (i64 (0:Nat))), [layB ly,cellB sl of],b0⟩ Q:=by
 refine Zfi (X:=⟨TV12, [],wlW Ev,Ev.Y,false⟩) (k:=100) [1,3,4,6,8,9,10] mixed (CX.Ok.of AGw9 Zar) x.gs (forG ly sl of me) (fun k=>tmFo l me false i (.d (i64 (k:Nat)))) (fun k=>tmFo l me true i (.d (i64 (k:Nat)))) [layB ly,cellB sl of] 2 (fun k g hk hg K k1 k2=> ?_) (fun K k1=> ?_) (fun h=>h1 h _) fun h k=>h2 h _
 ·refine Eq.mpr (rFo0 _ _ _ K ly l sl of me i k) ?_;refine Zas (natI i) ⟨_,AAr9 hx,Zas (by rw [AAd9];simp;omega) (Zas (natI i) ⟨_,AAr9 hx,Zas (natI k) ⟨_,_,_,_,_,ABb9 hg,g,ly,_,rfl,rfl, ?_⟩⟩)⟩;repeat' (refine Zax (fun _=> ?_) fun _=> ?_)
  all_goals first|exact k1 (by simp_all [forG])|(rw [wrapN (by omega)];exact k2 (by simp_all [forG]))
 ·refine Eq.mpr (rFo0 _ _ _ K ly l sl of me i _) ?_;refine Zas (natI i) ⟨_,AAr9 hx,Zci (by rw [AAd9];simp) k1⟩
variable {Ev:Env prog} {b0:Ev.β} {Q:Exit→St Ev.β→Prop}
def wlFo0 {β:Type}:WLT β:=fun cd tm hp b K=>∃(ly:LayT) (l:List NearT) (sl of me:Int) (i:Nat) (x:NearT) (q:Bool),cd= .loop lpFo0∧AAn9 [1,3,4,6,8,9,10] 0 tm=tmFo l me false i (.d (i64 0))∧hp= [layB ly,cellB sl of]∧(l[i]? =some x∧x.gs.length≤9223372036854775807∧q=x.gs.any (forG ly sl of me))∧BIf q (∀k:Int,K .ret (tmFo l me true i (.d (i64 k))) [layB ly,cellB sl of] b) (∀k:Int,K (.exit 2) (tmFo l me false i (.d (i64 k))) [layB ly,cellB sl of] b)
theorem BUk9:WlOk Ev wlFo0:=by
 rintro c tm hp b K ⟨ly,l,sl,of,me,i,x,q,rfl,htm,rfl,⟨hx,hl,hz⟩,hK⟩;refine W.cast (htm▸AAc9 _ tm 0) (Zbg _) ?_;exact W.rounds (wrFo0 (Q:=fun e s=>K e s.tm s.hp s.b) ly l sl of me i x hx hl (fun h=>by rw [hz,h] at hK;exact hK) fun h=>by rw [hz,h] at hK;exact hK)
noncomputable def lpFo1:Code:=sub [1,0,1,2,3] (code f21)
theorem rFo1 (ly:LayT) (l:List NearT) (sl of me i:Int):wpc prog ⟨TV12, [],wlFo0,y,false⟩ 100 lpFo1 (tmFo l me false i .bad) [layB ly,cellB sl of] b (maskK 2 [1,3,4,6,8,9] K)=(BIf (decide (i<((Zaa (rowsN l):Nat):Int))) (∃(ly0:LayT) (l1:List NearT) (sl2:Int) (of3:Int) (me4:Int) (i5:Nat) (x6:NearT) (q7:Bool),Zaq lpFo0=Zaq lpFo0∧(Zab::Zad (Zaj 31 (rowsN l))::Zab::Zad (i64 me)::Zae 0 0::Zab::Zae 1 0::Zab::Zad (bo false)::Zad (i64 i)::Zad (i64 0)::bds 44 [])=(Zab::Zad (Zaj 31 (rowsN l1))::Zab::Zad (i64 me4)::Zae 0 0::Zab::Zae 1 0::Zab::Zad (bo false)::Zad (i64 (i5:Int))::Zad (i64 0)::bds 44 [])∧(Qz24 ly sl of)=(Qz24 ly0 sl2 of3)∧(l1[i5]? =some x6∧Zaa (Zce x6)≤9223372036854775807∧q7=Zcp (Zce x6) (forG ly0 sl2 of3 me4))∧BIf q7 (∀(k:Int),K .ret (Zab::Zad (Zaj 31 (rowsN l1))::Zab::Zad (i64 me4)::Zae 0 0::Zab::Zae 1 0::Zab::Zad (bo true)::Zad (i64 (i5:Int))::bds 45 []) (Qz24 ly0 sl2 of3) b) (∀(k:Int),K .normal (Zab::Zad (Zaj 31 (rowsN l1))::Zab::Zad (i64 me4)::Zae 0 0::Zab::Zae 1 0::Zab::Zad (bo false)::Zad (i64 (Zac .i64 ((i5:Int)+(1:Int))))::bds 45 []) (Qz24 ly0 sl2 of3) b)) (K (Zba 0) (Zab::Zad (Zaj 31 (rowsN l))::Zab::Zad (i64 me)::Zae 0 0::Zab::Zae 1 0::Zab::Zad (bo false)::Zad (i64 i)::bds 45 []) (Qz24 ly sl of) b)):=by kernel_rfl
theorem wrFo1 (ly:LayT) (l:List NearT) (sl of me:Int) (hl:l.length≤9223372036854775807) (hN:∀x∈l,AAo9 x) (h1:(l.any fun x=>x.gs.any (forG ly sl of me))=false→∀i:Int,Q (.exit 0) ⟨tmFo l me false i .bad, [layB ly,cellB sl of],b0⟩) (h2:(l.any fun x=>x.gs.any (forG ly sl of me))=true→∀i:Int,Q .ret ⟨tmFo l me true i .bad, [layB ly,cellB sl of],b0⟩):
 WR Ev lpFo1 (l.length+1) ⟨tmFo l me false (0:Nat) .bad, [layB ly,cellB sl of],b0⟩ Q:=by
 refine Zfi (X:=⟨TV12, [],wlFo0,Ev.Y,false⟩) (k:=100) [1,3,4,6,8,9] mixed (CX.Ok.ofWl AGw9 Zar BUk9) l (fun x=>x.gs.any (forG ly sl of me)) (fun i=>tmFo l me false (i:Nat) .bad) (fun i=>tmFo l me true (i:Nat) .bad) [layB ly,cellB sl of] 0 (fun i x hi hx K k1 k2=> ?_) (fun K k1=> ?_) (fun h=>h1 h _) fun h i=>h2 h _
 ·refine Eq.mpr (rFo1 _ _ K ly l sl of me i) ?_;rw [ABe9];refine Zas (by simp;omega) ⟨ly,l,sl,of,me,i,x,_,rfl,rfl,rfl,⟨hx,(hN x (Zbj hx)).2.1,rfl⟩,Zax (fun g k=>k1 g) fun g k=> ?_⟩;rw [wrapN (by omega)];exact k2 g
 ·refine Eq.mpr (rFo1 _ _ K ly l sl of me _) ?_;rw [ABe9];exact Zci (by simp) k1
def wlFo {β:Type}:WLT β:=fun cd tm hp b K=>∃(ly:LayT) (l:List NearT) (sl of me:Int) (q:Bool),cd= .loop lpFo1∧AAn9 [1,3,4,6,8,9] 0 tm=tmFo l me false 0 .bad∧hp= [layB ly,cellB sl of]∧((∀x∈l,AAo9 x)∧l.length≤9223372036854775807∧q=(l.any fun x=>x.gs.any (forG ly sl of me)))∧BIf q (∀i:Int,K .ret (tmFo l me true i .bad) [layB ly,cellB sl of] b) (∀i:Int,K (.exit 0) (tmFo l me false i .bad) [layB ly,cellB sl of] b)
theorem CBy9:WlOk Ev wlFo:=by
 rintro c tm hp b K ⟨ly,l,sl,of,me,q,rfl,htm,rfl,⟨hN,hl,hz⟩,hK⟩;refine W.cast (htm▸AAc9 _ tm 0) (Zbg _) ?_;exact W.rounds (wrFo1 (Q:=fun e s=>K e s.tm s.hp s.b) ly l sl of me hl hN (fun h=>by rw [hz,h] at hK;exact hK) fun h=>by rw [hz,h] at hK;exact hK)
abbrev Qz69 (v0:List NearT) (v1:Int):=Zab::Zad (Zaj 31 (rowsN v0))::Zab::Zad (i64 v1)::Zae 0 0::Zab::Zae 1 0::Zab::Zad (bo false)::Zad (i64 0)::bds 45 []
theorem BGr9 (ly:LayT) (l:List NearT) (sl of me:Int):wpFn prog ⟨[], [],wlFo,y,false⟩ 100 f21 [layA ly, .d (.sl 31 (rowsN l)),cellA sl of, .d (i64 me)] b R=(∃(ly0:LayT) (l1:List NearT) (sl2:Int) (of3:Int) (me4:Int) (q5:Bool),Zaq lpFo1=Zaq lpFo1∧(Qz69 l me)=(Qz69 l1 me4)∧(Qz24 ly sl of)=(Qz24 ly0 sl2 of3)∧((∀(x:NearT),x∈l1→AAo9 x)∧Zaa l1≤9223372036854775807∧q5=Zcp l1 fun (x6:NearT)=>Zcp (Zce x6) (forG ly0 sl2 of3 me4))∧BIf q5 (∀(i:Int),R (.d (bo true)) b) (∀(i:Int),R (.d (bo false)) b)):=by kernel_rfl
def forS (ly:LayT) (l:List NearT) (sl of me:Int):Bool:=l.any fun x=>x.gs.any (forG ly sl of me)
def BJg9:CF:=fun args K=>∃(ly:LayT) (l:List NearT) (sl of me:Int) (q:Bool),args= [layA ly, .d (.sl 31 (rowsN l)),cellA sl of, .d (i64 me)]∧(l.length≤9223372036854775807∧(∀x∈l,AAo9 x)∧q=forS ly l sl of me)∧K (.d (bo q))
theorem BBr9:COk 21 BJg9:=by
 rintro _ K ⟨ly,l,sl,of,me,_,rfl,⟨hl,hN,rfl⟩,hk⟩;refine ⟨_, ?_,hk⟩;refine pcW @wlFo Zai CBy9 func21 fun Ev bb=> ?_;rw [BGr9];exact ⟨ly,l,sl,of,me,_,rfl,rfl,rfl,⟨hN,hl,rfl⟩,Zax (fun h i=>by rw [forS,h]) fun h i=>by rw [forS,h]⟩
end Go.Proofs.YthcbbmnjikhihaaGreat.Am