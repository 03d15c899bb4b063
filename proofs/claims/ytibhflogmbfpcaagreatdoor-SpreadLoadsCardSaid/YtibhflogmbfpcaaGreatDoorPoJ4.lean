import Derived.Test.YtibhflogmbfpcaaGreatDoorPoJ3
import Derived.Test.YtibhflogmbfpcaaGreatDoorPoJ2
set_option linter.unusedSimpArgs false
set_option linter.unusedVariables false
namespace Go.Proofs.YtibhflogmbfpcaaGreatDoor.Am
open Go Go.RowKit Go.Proofs Tryz
open AV renaming agg → Zbj, bad → Zba, d → Zae, own → Zdh, ptr → Zbe, rptr → Zcj
open BIf renaming f → Zdb, of → Zau, t → Zbr
open BitVec renaming ofInt → Zap
open Bool renaming and_eq_true → Zal
open AAk9 renaming cons → Zag, nil → Zai
open Go.Code renaming loop → Zbq
open Dv renaming s → Zdy, sl → Zam
open FCall renaming ofFnF → Zen
open Int renaming eq_ofNat_of_zero_le → Zcs, tdiv → Zcn, tdiv_eq_ediv_of_nonneg → Zdd, toNat → Zat, toNat_natCast → Zbn
open Go.IntKind renaming i64 → Zax, wrap → Zac
open LeH renaming refl → Zcx
open List renaming all_eq_true → Zav, dropWhile_cons → Zcz, dropWhile_sublist → Zei, getElem?_eq_getElem → Zbk, length → Zab, map_cons → Zdu, mem_append → Zco, mem_cons → Zbx, mem_cons_of_mem → Zaw, mem_cons_self → Zbb, mem_map → Zbd, mem_of_getElem? → Zbi, range → Zay, replicate → Zaf, take_succ_eq_append_getElem → Zdp
open Nat renaming add_comm → Zem, le_refl → Zas, le_trans → Zch, mod_two_eq_zero_or_one → Zdc, testBit_zero → Zea
open PCall renaming ofFn → Zbh
open AAn9 renaming cons → Zcr, nil → Zad
open UInt8 renaming toNat → Zef
open Go.Value renaming slice → Zbo
variable {β:Type} (wl:WLT β) (y:ACx9 β) (b:β) (R:AV→β→Prop) (RS:AV→List Blk→β→Prop) (K:Exit→List AV→List Blk→β→Prop) (Kh:Exit→List Blk→β→Prop) (Q:β→Prop)
open AV (bad)
set_option linter.unusedVariables false
set_option maxRecDepth 20000
def stepS (n w:Int):Int:=Zac .u64 (Zac .u64 ((Zap 64 n ^^^ Zap 64 w).toNat:Int)*1099511628211)
theorem BUh9 (n w:Int):wpFn prog ⟨[], [],wl,y,false⟩ 100 f213 [.d (u64 n), .d (u64 w)] b R=R (.d (u64 (stepS n w))) b:=by kernel_rfl
theorem BNs9 (xs:List (List Dv)):wpFn prog ⟨[], [],wl,y,false⟩ 100 f212 [.full 1 xs] b R=R (.fn (.func 229) [] [.rptr [.sl 1 xs]]) b:=by kernel_rfl
theorem BZc9 (n w:Int):PCall prog 213 [.d (u64 n), .d (u64 w)] (.d (u64 (stepS n w))):=by
 refine Zbh (n:=100) (u:=false) mixed Zai Zad func213 (by rfl) (by rfl) fun Ev bb=> ?_;rw [BUh9]
def cStep (args:List AV) (K:AV→Prop):Prop:=∃(n w z:Int),args= [.d (u64 n), .d (u64 w)]∧z=stepS n w∧K (.d (u64 z))
theorem BFe9:∀args K,cStep args K→∃x,PCall prog 213 args x∧K x:=by
 rintro _ K ⟨n,w,_,rfl,rfl,h⟩;exact ⟨_,BZc9 n w,h⟩
theorem BUu9 (xs:List (List Dv)):PCall prog 212 [.full 1 xs] (.fn (.func 229) [] [.rptr [.sl 1 xs]]):=by
 refine Zbh (n:=100) (u:=false) mixed Zai Zad func212 (by rfl) (by rfl) fun Ev bb=> ?_;rw [BNs9]
def BWx9 (args:List AV) (K:AV→Prop):Prop:=∃(p:List (List Dv)),args= [.full 1 [[.sl 1 p]]]∧K (.fn (.func 229) [] [.rptr [.sl 1 [[.sl 1 p]]]])
theorem BJz9:∀args K,BWx9 args K→∃x,PCall prog 212 args x∧K x:=by
 rintro _ K ⟨p,rfl,h⟩;exact ⟨_,BUu9 _,h⟩
def itemW (c:Int):List AV:= [.d (u64 (Zac .u64 c))]
noncomputable def lpWb:Code:=sub [1,2,3,1,1,0,2,1,1,2,3] (code f229)
def tmWb (n:Int) (i:Int) (p:List (List Dv)) (m k:Int) (rows:List (List Dv)):List AV:= [.yl, .bad, .bad, .bad, .bad, .bad, .bad, .d (.sl 1 rows), .d (i64 n), .d (i64 i), .bad, .bad, .bad, .d (.sl 1 p), .d (i64 m), .d (i64 k)]++Zaf 10 .bad
noncomputable def lpWa:Code:=sub [1,2,3] (code f229)
def tmWa (n:Int) (i:Int) (rows:List (List Dv)):List AV:= [.yl, .bad, .bad, .bad, .bad, .bad, .bad, .d (.sl 1 rows), .d (i64 n), .d (i64 i)]++Zaf 16 .bad
theorem BBf9 (n i m k:Int) (p rows:List (List Dv)):wpc prog ⟨[], [],wl,y,false⟩ 100 lpWb (tmWb n i p m k rows) [] b (maskT [0,7,8,9,13,14,15] K)=(
 BIf (decide (k<m)) (BIf (true&&decide (0≤k)) (∃(x0:Int),p[Zat k]? =some [u8 x0]∧y b (itemW x0) fun (c:Bool) (b4:β)=>BIf (!c) (K .ret (tmWb n i p m k rows) [] b4) (K .normal (tmWb n i p m (Zac .i64 (k+1)) rows) [] b4)) False) (K (.exit 2) (tmWb n i p m k rows) [] b)):=by kernel_rfl
def wlWb {β:Type} (y:ACx9 β):WLT β:=fun c tm hp b K=>∃(n i:Int) (p:List Int) (rows:List (List Dv)),c= .loop lpWb∧ABo9 [0,7,8,9,13,14,15] 0 tm=tmWb n i (AAb9 p) (AAb9 p).length 0 rows∧hp= []∧p.length≤9223372036854775807∧
 YList y (p.map itemW) b fun b'=>∀k:Int,K (.exit 2) (tmWb n i (AAb9 p) (AAb9 p).length k rows) [] b'∧K .ret (tmWb n i (AAb9 p) (AAb9 p).length k rows) [] b'
theorem wrWb {Ev:Env prog} {Q:Exit→St Ev.β→Prop} (n i:Int) (p:List Int) (rows:List (List Dv)) (hl:p.length≤9223372036854775807):∀(rest:List Int) (k:Nat) (b:Ev.β),p.drop k=rest→k≤p.length→
 (YList Ev.Y (rest.map itemW) b fun b'=>∀k:Int,Q (.exit 2) ⟨tmWb n i (AAb9 p) (AAb9 p).length k rows, [],b'⟩∧Q .ret ⟨tmWb n i (AAb9 p) (AAb9 p).length k rows, [],b'⟩)→WR Ev lpWb (rest.length+1) ⟨tmWb n i (AAb9 p) (AAb9 p).length k rows, [],b⟩ Q
 | [],k,b,hd,hk,h=>by
  refine WR.ofMaskT [0,7,8,9,13,14,15] mixed (CX.Ok.of (u:=false) Zai Zad) (k:=100) ?_;rw [BBf9];have:=ADw9 hd;exact Zdb (by simp [AAf9];omega) (h _).1
 | z::rest,k,b,hd,hk,h=>by
  refine WR.ofMaskT [0,7,8,9,13,14,15] mixed (CX.Ok.of (u:=false) Zai Zad) (k:=100) ?_;rw [BBf9];obtain ⟨hk',hr,hd'⟩:=ABr9 hd;refine Zbr (by simp [AAf9];omega) (Zbr (by simp) ⟨z,by simp [AAb9,hr], ?_⟩);rw [Zdu] at h;refine Ev.Ymono h fun c b' h=> ?_;cases c with
  | true=>
   refine Zdb rfl ?_;rw [ACt9 hk' hl];exact wrWb n i p rows hl rest (k+1) b' hd' hk' h
  |false=>exact Zbr rfl (h _).2
theorem BLc9 {Ev:Env prog} (c:Code) (tm:List AV) (hp:List Blk) (b:Ev.β) (K:Exit→List AV→List Blk→Ev.β→Prop) (h:wlWb Ev.Y c tm hp b K):W Ev c ⟨tm,hp,b⟩ (fun e s=>K e s.tm s.hp s.b):=by
 obtain ⟨n,i,p,rows,rfl,htm,rfl,hl,hK⟩:=h;refine W.cast (htm▸AAg9 _ tm 0) (Zcx _) ?_;exact W.rounds (wrWb (Q:=fun e s=>K e s.tm s.hp s.b) n i p rows hl p 0 b rfl (Nat.zero_le _) hK)
section
variable {β:Type} (y:ACx9 β) (b:β) (K:Exit→List AV→List Blk→β→Prop)
theorem BBg9 (n i:Int) (rows:List (List Dv)):wpc prog ⟨[], [],wlWb y,y,false⟩ 100 lpWa (tmWa n i rows) [] b (maskT [0,7,8,9] K)=(
 BIf (decide (i<n)) (BIf (true&&decide (0≤i)) (∃(xs0:List (List Dv)),rows[Zat i]? =some [Zam 1 xs0]∧∃(n' i':Int) (p:List Int) (rows':List (List Dv)),Zbq lpWb= .loop lpWb∧tmWb n i xs0 xs0.length 0 rows=tmWb n' i' (AAb9 p) (AAb9 p).length 0 rows'∧([]:List Blk)= []∧p.length≤9223372036854775807∧
  YList y (p.map itemW) b fun b'=>∀k:Int,K .normal (tmWa n' (Zac .i64 (i'+1)) rows') [] b'∧K .ret (tmWa n' i' rows') [] b') False)
  (K (.exit 0) (tmWa n i rows) [] b)):=by kernel_rfl
def wlWa {β:Type} (y:ACx9 β):WLT β:=fun c tm hp b K=>∃(p:List Int),c= .loop lpWa∧ABo9 [0,7,8,9] 0 tm=tmWa 1 0 [[.sl 1 (AAb9 p)]]∧hp= []∧p.length≤9223372036854775807∧
 YList y (p.map itemW) b fun b'=>∀i:Int,K (.exit 0) (tmWa 1 i [[.sl 1 (AAb9 p)]]) [] b'∧K .ret (tmWa 1 i [[.sl 1 (AAb9 p)]]) [] b'
end
set_option maxRecDepth 100000 in
theorem BSy9 {Ev:Env prog} (c:Code) (tm:List AV) (hp:List Blk) (b:Ev.β) (K:Exit→List AV→List Blk→Ev.β→Prop) (h:wlWa Ev.Y c tm hp b K):W Ev c ⟨tm,hp,b⟩ (fun e s=>K e s.tm s.hp s.b):=by
 obtain ⟨p,rfl,htm,rfl,hl,hK⟩:=h;refine W.cast (htm▸AAg9 _ tm 0) (Zcx _) ?_;refine W.rounds (m:=2) ?_;refine WR.ofMaskT [0,7,8,9] mixed (CX.Ok.ofWl (u:=false) Zai Zad BLc9) (k:=100) ?_;rw [BBg9];refine Zbr (by decide) (Zbr (by decide) ⟨AAb9 p,rfl,1,0,p, [[.sl 1 (AAb9 p)]],rfl,rfl,rfl,hl, ?_⟩);refine YList.mono (fun b' h k=>⟨?_,(h _).2⟩) _ _ hK;show WR Ev lpWa 1 _ _;refine WR.ofMaskT [0,7,8,9] mixed (CX.Ok.ofWl (u:=false) Zai Zad BLc9) (k:=100) ?_;rw [BBg9];exact Zdb (by decide) (h _).1
theorem CBc9 (xs:List (List Dv)):wpc prog ⟨[], [],wlWa y,y,false⟩ 100 (code f229) (AAw9 f229 [.yl, .rptr [.sl 1 xs]]) [] b (fnK prog f229 fun _ b=>Q b)=(
 ∃p:List Int,Zbq lpWa= .loop lpWa∧tmWa xs.length 0 xs=tmWa 1 0 [[.sl 1 (AAb9 p)]]∧([]:List Blk)= []∧p.length≤9223372036854775807∧YList y (p.map itemW) b fun b'=>∀_:Int,Q b'∧Q b'):=by kernel_rfl
set_option maxRecDepth 100000 in
theorem ic94 (p:List Int) (hl:p.length≤9223372036854775807):ICall prog 229 [.yl, .rptr [.sl 1 [[.sl 1 (AAb9 p)]]]] (fun Y b Q=>YList Y (p.map itemW) b Q):=by
 refine ICall.ofW (c:=code f229) func229 rfl rfl fun Ev b Q h=> ?_;have h1:wpc prog ⟨[], [],wlWa Ev.Y,Ev.Y,false⟩ 100 (code f229) (AAw9 f229 [.yl, .rptr [.sl 1 [[.sl 1 (AAb9 p)]]]]) [] b (fnK prog f229 fun _ b=>Q b):=by
  rw [CBc9];exact ⟨p,rfl,rfl,rfl,hl,YList.mono (fun b h _=>⟨h,h⟩) _ _ h⟩
 refine AAo9 mixed (CX.Ok.ofWl (wl:=wlWa Ev.Y) (u:=false) Zai Zad BSy9) h1 fun e tm hp b hK=> ?_;obtain ⟨g1,ys,g2,z,g3,g4⟩:=ACu9 hK;exact ⟨g1,ys,g2,g4⟩
def addB (s:Int) (p:List Int):Int:=p.foldl (fun s c=>stepS s (Zac .u64 c)) s
def TAdd:List (Nat×(List AV→(AV→Prop)→Prop)):= [(213,cStep),(212,BWx9)]
theorem BNe9:AAk9 prog TAdd:=Zag BFe9 (Zag BJz9 Zai)
noncomputable def rf87:Code:=sub [1,1,0,1,2] (code f174)
theorem BCi9:rf87= .rangeFunc (.tmp 10) #[11] (AAm9 rf87) (ABp9 rf87):=by kernel_rfl
def cellQ (x:Int):Blk:=⟨[.d (u64 x)],false,false,0⟩
def tmAd (p:List (List Dv)):List AV:= [.bad, .bad, .bad, .bad, .bad, .ptr 0 0, .bad, .bad, .bad, .bad, .fn (.func 229) [] [.rptr [.sl 1 [[.sl 1 p]]]], .bad, .bad, .bad, .bad, .bad]
theorem BSk9 (p:List (List Dv)) (w s:Int):wpcY prog ⟨TAdd, [],wl,y,false⟩ 100 #[11] (AAm9 rf87) (ABp9 rf87) (tmAd p) [.d (u64 w)] [cellQ s] b (takeK 1 Kh)=(
 ∃(n0 w1 z2:Int), [Zae (u64 s), .d (u64 w)]= [.d (u64 n0), .d (u64 w1)]∧z2=stepS n0 w1∧Kh .normal [cellQ z2] b):=by kernel_rfl
theorem BLq9 {Ev:Env prog} {b:Ev.β} {Q:Exit→St Ev.β→Prop} (p:List (List Dv)):∀(l:List Int) (s:Int),Q .normal ⟨tmAd p, [cellQ (addB s l)],b⟩→
 YList (YBody Ev (tmAd p) #[11] (AAm9 rf87) (ABp9 rf87) 1) (l.map itemW) ([cellQ s],b,none) (ADq9 (tmAd p) Q)
 | [],s,h=>h
 | c::l,s,h=>by
  refine YList.step (X:=⟨TAdd, [],wlW Ev,Ev.Y,false⟩) (k:=100) mixed (CX.Ok.of BNe9 Zad) rfl ?_;show wpcY _ _ _ _ _ _ _ [.d (u64 _)] [cellQ _] b (takeK 1 _);rw [BSk9];exact ⟨s,_,_,rfl,rfl,BLq9 p l _ h⟩
def wlAd {β:Type}:WLT β:=fun c tm hp b K=>∃(p:List Int) (s z:Int),c=rf87∧ABo9 [5,10] 0 tm=tmAd (AAb9 p)∧hp= [cellQ s]∧(p.length≤9223372036854775807∧z=addB s p)∧K .normal (tmAd (AAb9 p)) [cellQ z] b
theorem BTi9 {Ev:Env prog} (c:Code) (tm:List AV) (hp:List Blk) (b:Ev.β) (K:Exit→List AV→List Blk→Ev.β→Prop) (h:wlAd c tm hp b K):W Ev c ⟨tm,hp,b⟩ (fun e s=>K e s.tm s.hp s.b):=by
 obtain ⟨p,s,z,rfl,htm,rfl,⟨hl,rfl⟩,hK⟩:=h;refine W.cast (htm▸AAg9 _ tm 0) (Zcx _) ?_;rw [BCi9];exact W.range (s:=⟨tmAd (AAb9 p),_,b⟩) (k:=229) (first:= []) (caps:= [.rptr [.sl 1 [[.sl 1 (AAb9 p)]]]]) rfl rfl rfl (ic94 p hl) (BLq9 (AAb9 p) p s hK)
theorem CCv9 (s:Int) (xs:List (List Dv)):wpFn prog ⟨TAdd, [],wlAd,y,false⟩ 100 f174 [.d (u64 s), .d (.sl 1 xs)] b R=(
 ∃(p0:List (List Dv)), [AV.full 1 [[.sl 1 xs]]]= [.full 1 [[.sl 1 p0]]]∧∃(p:List Int) (s1 z:Int),rf87=rf87∧tmAd p0=tmAd (AAb9 p)∧ [cellQ s]= [cellQ s1]∧(p.length≤9223372036854775807∧z=addB s1 p)∧R (.d (u64 z)) b):=by kernel_rfl
theorem pcAdd (s:Int) (p:List Int) (hl:p.length≤9223372036854775807):PCall prog 174 [.d (u64 s), .d (.sl 1 (AAb9 p))] (.d (u64 (addB s p))):=by
 refine PCall.ofFnW (n:=100) (u:=false) (fun _=>wlAd) mixed BNe9 Zad (fun Ev=>BTi9) func174 (by rfl) (by rfl) fun Ev bb=> ?_;rw [CCv9];exact ⟨_,rfl,p,s,_,rfl,rfl,rfl,⟨hl,rfl⟩,rfl⟩
def cAdd (args:List AV) (K:AV→Prop):Prop:=∃(s:Int) (p:List Int) (z:Int),args= [.d (u64 s), .d (.sl 1 (AAb9 p))]∧(p.length≤9223372036854775807∧z=addB s p)∧K (.d (u64 z))
theorem BMy9:∀args K,cAdd args K→∃x,PCall prog 174 args x∧K x:=by
 rintro _ K ⟨s,p,_,rfl,⟨hl,rfl⟩,h⟩;exact ⟨_,pcAdd s p hl,h⟩
def cAddF (args:List AV) (K:AV→Prop):Prop:=match args with
 | [_, .full _ _]=>∃(s:Int) (p:List Int) (z:Int),args= [.d (u64 s), .full 1 (AAb9 p)]∧(p.length≤9223372036854775807∧z=addB s p)∧K (.d (u64 z))
 |_=>cAdd args K
theorem BSa9:∀args K,cAddF args K→∃x,PCall prog 174 args x∧K x:=by
 intro args K h;unfold cAddF at h;split at h
 ·obtain ⟨s,p,_,e,⟨hl,rfl⟩,h⟩:=h;rw [e];exact ⟨_,PCall.leArgsV (.cons .rfl (.cons .full .nil)) (pcAdd s p hl),h⟩
 ·exact BMy9 _ _ h
def BSg9:Int:=14695981039346656037
def TSum:List (Nat×(List AV→(AV→Prop)→Prop)):= [(174,cAddF),(213,cStep)]
theorem BNb9:AAk9 prog TSum:=Zag BSa9 (Zag BFe9 Zai)
theorem BYr9 (xs:List (List Dv)):wpFn prog ⟨TSum, [],wl,y,false⟩ 100 f175 [.full 1 xs] b R=(∃(s0:Int) (p1:List Int) (z2:Int), [Zae (u64 14695981039346656037),AV.full 1 xs]= [Zae (u64 s0),AV.full 1 (AAb9 p1)]∧(Zab p1≤9223372036854775807∧z2=addB s0 p1)∧R (.d (u64 z2)) b):=by kernel_rfl
theorem BVn9 (s w:Int):wpFn prog ⟨TSum, [],wl,y,false⟩ 100 f194 [.d (u64 s), .d (u64 w)] b R=(∃(n0:Int) (w1:Int) (z2:Int), [Zae (u64 3750763034362895578),Zae (u64 s)]= [Zae (u64 n0),Zae (u64 w1)]∧z2=stepS n0 w1∧∃(n3:Int) (w4:Int) (z5:Int), [Zae (u64 z2),Zae (u64 w)]= [Zae (u64 n3),Zae (u64 w4)]∧z5=stepS n3 w4∧R (.d (u64 z5)) b):=by kernel_rfl
theorem pcSum (p:List Int) (hl:p.length≤9223372036854775807):PCall prog 175 [.full 1 (AAb9 p)] (.d (u64 (addB BSg9 p))):=by
 refine Zbh (n:=100) (u:=false) mixed BNb9 Zad func175 (by rfl) (by rfl) fun Ev bb=> ?_;rw [BYr9];exact ⟨_,p,_,rfl,⟨hl,rfl⟩,rfl⟩
def cSum (args:List AV) (K:AV→Prop):Prop:=∃(p:List Int) (z:Int),args= [.full 1 (AAb9 p)]∧(p.length≤9223372036854775807∧z=addB BSg9 p)∧K (.d (u64 z))
theorem BWz9:∀args K,cSum args K→∃x,PCall prog 175 args x∧K x:=by
 rintro _ K ⟨p,_,rfl,⟨hl,rfl⟩,h⟩;exact ⟨_,pcSum p hl,h⟩
def pairS (a b:Int):Int:=stepS (stepS 3750763034362895578 a) b
theorem BZg9 (a c:Int):PCall prog 194 [.d (u64 a), .d (u64 c)] (.d (u64 (pairS a c))):=by
 refine Zbh (n:=100) (u:=false) mixed BNb9 Zad func194 (by rfl) (by rfl) fun Ev bb=> ?_;rw [BVn9];exact ⟨_,_,_,rfl,rfl,_,_,_,rfl,rfl,rfl⟩
def cPair (args:List AV) (K:AV→Prop):Prop:=∃(a c z:Int),args= [.d (u64 a), .d (u64 c)]∧z=pairS a c∧K (.d (u64 z))
theorem BRr9:∀args K,cPair args K→∃x,PCall prog 194 args x∧K x:=by
 rintro _ K ⟨a,c,_,rfl,rfl,h⟩;exact ⟨_,BZg9 a c,h⟩
def leafS (p:List Int):Int:=addB (addB BSg9 [0]) p
def TLeaf:List (Nat×(List AV→(AV→Prop)→Prop)):= [(175,cSum),(174,cAdd)]
theorem BSp9:AAk9 prog TLeaf:=Zag BWz9 (Zag BMy9 Zai)
theorem BWa9 (xs:List (List Dv)):wpFn prog ⟨TLeaf, [],wl,y,true⟩ 100 f192 [.full 1 [[.sl 1 xs]]] b R=(∃(p0:List Int) (z1:Int), [AV.full 1 [[u8 0]]]= [AV.full 1 (AAb9 p0)]∧(Zab p0≤9223372036854775807∧z1=addB (14695981039346656037:Int) p0)∧∃(xs2:List (List Dv)),some [Zam 1 xs]=some [Zam 1 xs2]∧∃(s3:Int) (p4:List Int) (z5:Int), [Zae (u64 z1),Zae (Zam 1 xs2)]= [Zae (u64 s3),Zae (Zam 1 (AAb9 p4))]∧(Zab p4≤9223372036854775807∧z5=addB s3 p4)∧R (.d (u64 z5)) b):=by kernel_rfl
theorem BZj9 (p:List Int) (hl:p.length≤9223372036854775807):PCall prog 192 [.full 1 [[.sl 1 (AAb9 p)]]] (.d (u64 (leafS p))):=by
 refine Zbh (n:=100) (u:=true) mixed BSp9 Zad func192 (by rfl) (by rfl) fun Ev bb=> ?_;rw [BWa9];exact ⟨[0],_,rfl,⟨by decide,rfl⟩,_,rfl,_,p,_,rfl,⟨hl,rfl⟩,rfl⟩
def cLeaf (args:List AV) (K:AV→Prop):Prop:=∃(p:List Int) (z:Int),args= [.full 1 [[.sl 1 (AAb9 p)]]]∧(p.length≤9223372036854775807∧z=leafS p)∧K (.d (u64 z))
theorem BRu9:∀args K,cLeaf args K→∃x,PCall prog 192 args x∧K x:=by
 rintro _ K ⟨p,_,rfl,⟨hl,rfl⟩,h⟩;exact ⟨_,BZj9 p hl,h⟩
def AAc9 (ps:List (List Int)):List (List Dv):=ps.map fun p=> [.sl 1 (AAb9 p)]
theorem AAe9 (ps:List (List Int)):(AAc9 ps).length=ps.length:=by simp [AAc9]
theorem CBg9 (xs:List (List Dv)):wpFn prog ⟨[], [],wl,y,false⟩ 100 f190 [.d (.sl 1 xs)] b R=R (.d (bo (decide ((xs.length:Int)>256)))) b:=by kernel_rfl
theorem CBm9 (xs:List (List Dv)):wpFn prog ⟨[], [],wl,y,false⟩ 100 f195 [.d (.sl 1 xs)] b R=R (.d (bo ((xs.length:Int) !=256))) b:=by kernel_rfl
def c75 (args:List AV) (K:AV→Prop):Prop:=∃(xs:List (List Dv)),args= [.d (.sl 1 xs)]∧K (.d (bo (decide ((xs.length:Int)>256))))
theorem CCk9:∀args K,c75 args K→∃x,PCall prog 190 args x∧K x:=by
 rintro _ K ⟨xs,rfl,h⟩;refine ⟨_,Zbh (n:=100) (u:=false) mixed Zai Zad func190 (by rfl) (by rfl) fun Ev bb=> ?_,h⟩;rw [CBg9]
def c59 (args:List AV) (K:AV→Prop):Prop:=∃(xs:List (List Dv)),args= [.d (.sl 1 xs)]∧K (.d (bo ((xs.length:Int) !=256)))
theorem CCm9:∀args K,c59 args K→∃x,PCall prog 195 args x∧K x:=by
 rintro _ K ⟨xs,rfl,h⟩;refine ⟨_,Zbh (n:=100) (u:=false) mixed Zai Zad func195 (by rfl) (by rfl) fun Ev bb=> ?_,h⟩;rw [CBm9]
def TIx:List (Nat×(List AV→(AV→Prop)→Prop)):= [(190,c75),(195,c59)]
theorem BKv9:AAk9 prog TIx:=Zag CCk9 (Zag CCm9 Zai)
noncomputable def lpIx:Code:=sub [1,0,1,2,3] (code f219)
def tmIx (k:Nat) (xs:List (List Dv)) (n i:Int):List AV:= [.d (.sl 1 xs), .fn (.func k) [] [], .bad, .bad, .bad, .bad, .bad, .d (i64 n), .d (i64 i)]++Zaf 10 .bad
def ixR {β:Type} (K:Exit→List AV→List Blk→β→Prop) (b:β) (P:Int→Bool) (f:Nat) (xs:List (List Dv)) (n i:Int):Prop:=
 BIf (decide (i<n)) (BIf (true&&decide (0≤i)) (∃(xs0:List (List Dv)),xs[Zat i]? =some [Zam 1 xs0]∧∃(xs1:List (List Dv)), [Zae (.sl 1 xs0)]= [Zae (.sl 1 xs1)]∧
  BIf (P xs1.length) (K .ret ((tmIx f xs n i).set 4 (.d (i64 i))) [] b) (K .normal (tmIx f xs n (Zac .i64 (i+1))) [] b)) False) (K (.exit 0) (tmIx f xs n i) [] b)
theorem ix75 (xs:List (List Dv)) (n i:Int):wpc prog ⟨TIx, [],wl,y,false⟩ 100 lpIx (tmIx 190 xs n i) [] b (maskK 0 [0,1,4,7,8] K)=ixR K b (fun n=>decide (n>256)) 190 xs n i:=by kernel_rfl
theorem ix59 (xs:List (List Dv)) (n i:Int):wpc prog ⟨TIx, [],wl,y,false⟩ 100 lpIx (tmIx 195 xs n i) [] b (maskK 0 [0,1,4,7,8] K)=ixR K b (fun n=>n !=256) 195 xs n i:=by kernel_rfl
def ixP (P:Int→Bool):List (List Int)→Nat→Int
 | [],_=> -1
 |p::ps,k=>if P p.length then k else ixP P ps (k+1)
theorem BQp9 (P:Int→Bool):∀(ps:List (List Int)) (k:Nat),decide (ixP P ps k≥0)=ps.any fun p=>P p.length
 | [],k=>by simp [ixP]
 | p::ps,k=>by
  unfold ixP;rw [List.any_cons];cases h:P p.length with
  |true=>simp
  |false=>simpa using BQp9 P ps (k+1)
def IxOk (P:Int→Bool) (f:Nat):Prop:=∀ {β:Type} (wl:WLT β) (y:ACx9 β) (b:β) (K:Exit→List AV→List Blk→β→Prop) (xs:List (List Dv)) (n i:Int),
 wpc prog ⟨TIx, [],wl,y,false⟩ 100 lpIx (tmIx f xs n i) [] b (maskK 0 [0,1,4,7,8] K)=ixR K b P f xs n i
theorem wrIx {P:Int→Bool} {f:Nat} (hP:IxOk P f) {Ev:Env prog} {b:Ev.β} {Q:Exit→St Ev.β→Prop} (ps:List (List Int)) (hl:ps.length≤9223372036854775807):∀(rest:List (List Int)) (k:Nat),ps.drop k=rest→k≤ps.length→
 (∀i:Nat,ixP P rest k=i→Q .ret ⟨(tmIx f (AAc9 ps) ps.length i).set 4 (.d (i64 i)), [],b⟩)→(ixP P rest k= -1→Q (.exit 0) ⟨tmIx f (AAc9 ps) ps.length ps.length, [],b⟩)→WR Ev lpIx (rest.length+1) ⟨tmIx f (AAc9 ps) ps.length k, [],b⟩ Q
 | [],k,hd,hk,h1,h2=>by
  refine WR.ofMask [0,1,4,7,8] mixed (CX.Ok.of (u:=false) BKv9 Zad) (k:=100) ?_;show wpc _ _ _ _ _ _ _ (maskK 0 _ _);rw [hP];have:=ADw9 hd;obtain rfl:k=ps.length:=by omega
  exact Zdb (by simp) (h2 rfl)
 | p::rest,k,hd,hk,h1,h2=>by
  refine WR.ofMask [0,1,4,7,8] mixed (CX.Ok.of (u:=false) BKv9 Zad) (k:=100) ?_;show wpc _ _ _ _ _ _ _ (maskK 0 _ _);rw [hP];obtain ⟨hk',hr,hd'⟩:=ABr9 hd;refine Zbr (by simp;omega) (Zbr (by simp) ⟨AAb9 p,by simp [AAc9,hr],AAb9 p,rfl,Zau (fun hz=> ?_) fun hz=> ?_⟩)
  ·exact h1 k (by rw [AAf9] at hz;simp [ixP,hz])
  ·rw [ACt9 hk' hl];have e:ixP P (p::rest) k=ixP P rest (k+1):=by rw [AAf9] at hz;simp [ixP,hz]
   rw [e] at h1 h2;exact wrIx hP ps hl rest (k+1) hd' hk' h1 h2
def wlIx {β:Type} (P:Int→Bool) (f:Nat):WLT β:=fun c tm hp b K=>∃(ps:List (List Int)),c= .loop lpIx∧ABo9 [0,1,7,8] 0 tm=tmIx f (AAc9 ps) (AAc9 ps).length 0∧hp= []∧ps.length≤9223372036854775807∧
 (∀i:Nat,ixP P ps 0=i→K .ret ((tmIx f (AAc9 ps) (AAc9 ps).length i).set 4 (.d (i64 i))) [] b)∧(ixP P ps 0= -1→K (.exit 0) (tmIx f (AAc9 ps) (AAc9 ps).length (AAc9 ps).length) [] b)
theorem BLe9 {P:Int→Bool} {f:Nat} (hP:IxOk P f) {Ev:Env prog} (c:Code) (tm:List AV) (hp:List Blk) (b:Ev.β) (K:Exit→List AV→List Blk→Ev.β→Prop) (h:wlIx P f c tm hp b K):W Ev c ⟨tm,hp,b⟩ (fun e s=>K e s.tm s.hp s.b):=by
 obtain ⟨ps,rfl,htm,rfl,hl,h1,h2⟩:=h;rw [AAe9] at htm h1 h2;refine W.cast (htm▸AAg9 _ tm 0) (Zcx _) ?_;exact W.rounds (wrIx (Q:=fun e s=>K e s.tm s.hp s.b) hP ps hl ps 0 rfl (Nat.zero_le _) h1 h2)
def ixF {β:Type} (R:AV→β→Prop) (b:β) (P:Int→Bool) (f:Nat) (xs:List (List Dv)):Prop:=∃(ps:List (List Int)),Zbq lpIx= .loop lpIx∧tmIx f xs xs.length 0=tmIx f (AAc9 ps) (AAc9 ps).length 0∧([]:List Blk)= []∧ps.length≤9223372036854775807∧
 (∀i:Nat,ixP P ps 0=i→R (.d (i64 i)) b)∧(ixP P ps 0= -1→R (.d (i64 (-1))) b)
theorem ixF75 (P:Int→Bool) (xs:List (List Dv)):wpFn prog ⟨TIx, [],wlIx P 190,y,false⟩ 100 f219 [.d (.sl 1 xs), .fn (.func 190) [] []] b R=ixF R b P 190 xs:=by kernel_rfl
theorem ixF59 (P:Int→Bool) (xs:List (List Dv)):wpFn prog ⟨TIx, [],wlIx P 195,y,false⟩ 100 f219 [.d (.sl 1 xs), .fn (.func 195) [] []] b R=ixF R b P 195 xs:=by kernel_rfl
theorem BZm9 (ps:List (List Int)) (hl:ps.length≤9223372036854775807):PCall prog 219 [.d (.sl 1 (AAc9 ps)), .fn (.func 190) [] []] (.d (i64 (ixP (fun n=>decide (n>256)) ps 0))):=by
 refine PCall.ofFnW (n:=100) (u:=false) (fun _=>wlIx (fun n=>decide (n>256)) 190) mixed BKv9 Zad (fun Ev=>BLe9 (fun wl y b K xs n i=>ix75 wl y b K xs n i)) func219 (by rfl) (by rfl) fun Ev bb=> ?_;rw [ixF75];exact ⟨ps,rfl,rfl,rfl,hl,fun i h=>by rw [h],fun h=>by rw [h]⟩
theorem BZn9 (ps:List (List Int)) (hl:ps.length≤9223372036854775807):PCall prog 219 [.d (.sl 1 (AAc9 ps)), .fn (.func 195) [] []] (.d (i64 (ixP (fun n=>n !=256) ps 0))):=by
 refine PCall.ofFnW (n:=100) (u:=false) (fun _=>wlIx (fun n=>n !=256) 195) mixed BKv9 Zad (fun Ev=>BLe9 (fun wl y b K xs n i=>ix59 wl y b K xs n i)) func219 (by rfl) (by rfl) fun Ev bb=> ?_;rw [ixF59];exact ⟨ps,rfl,rfl,rfl,hl,fun i h=>by rw [h],fun h=>by rw [h]⟩
def cIx (args:List AV) (K:AV→Prop):Prop:=match args with
 | [_, .fn (.func 190) _ _]=>∃(ps:List (List Int)) (z:Int),args= [.d (.sl 1 (AAc9 ps)), .fn (.func 190) [] []]∧(ps.length≤9223372036854775807∧z=ixP (fun n=>decide (n>256)) ps 0)∧K (.d (i64 z))
 |_=>∃(ps:List (List Int)) (z:Int),args= [.d (.sl 1 (AAc9 ps)), .fn (.func 195) [] []]∧(ps.length≤9223372036854775807∧z=ixP (fun n=>n !=256) ps 0)∧K (.d (i64 z))
theorem CCi9:∀args K,cIx args K→∃x,PCall prog 219 args x∧K x:=by
 intro args K h;unfold cIx at h;split at h
 ·obtain ⟨ps,_,e,⟨hl,rfl⟩,h⟩:=h;rw [e];exact ⟨_,BZm9 ps hl,h⟩
 ·obtain ⟨ps,_,e,⟨hl,rfl⟩,h⟩:=h;rw [e];exact ⟨_,BZn9 ps hl,h⟩
def TCf:List (Nat×(List AV→(AV→Prop)→Prop)):= [(219,cIx)]
theorem BYd9:AAk9 prog TCf:=Zag CCi9 Zai
theorem BWv9 (xs:List (List Dv)):wpFn prog ⟨TCf, [],wl,y,false⟩ 100 f189 [.d (.sl 1 xs), .fn (.func 190) [] []] b R=(∃(ps0:List (List Int)) (z1:Int), [Zae (Zam 1 xs),AV.fn (Fn.func 190) [] []]= [Zae (Zam 1 (AAc9 ps0)),AV.fn (Fn.func 190) [] []]∧(Zab ps0≤9223372036854775807∧z1=ixP (fun (n2:Int)=>decide (n2>(256:Int))) ps0 0)∧R (.d (bo (decide (z1≥(0:Int))))) b):=by kernel_rfl
theorem BWw9 (xs:List (List Dv)):wpFn prog ⟨TCf, [],wl,y,false⟩ 100 f189 [.d (.sl 1 xs), .fn (.func 195) [] []] b R=(∃(ps0:List (List Int)) (z1:Int), [Zae (Zam 1 xs),AV.fn (Fn.func 195) [] []]= [Zae (Zam 1 (AAc9 ps0)),AV.fn (Fn.func 195) [] []]∧(Zab ps0≤9223372036854775807∧z1=ixP (fun (n2:Int)=>n2 !=(256:Int)) ps0 0)∧R (.d (bo (decide (z1≥(0:Int))))) b):=by kernel_rfl
def APa9 (ps:List (List Int)):Bool:=ps.any fun p=>decide ((p.length:Int)>256)
def ABf9 (ps:List (List Int)):Bool:=ps.any fun p=>(p.length:Int) !=256
def cCf (args:List AV) (K:AV→Prop):Prop:=match args with
 | [_, .fn (.func 190) _ _]=>∃(ps:List (List Int)) (z:Bool),args= [.d (.sl 1 (AAc9 ps)), .fn (.func 190) [] []]∧(ps.length≤9223372036854775807∧z=APa9 ps)∧K (.d (bo z))
 |_=>∃(ps:List (List Int)) (z:Bool),args= [.d (.sl 1 (AAc9 ps)), .fn (.func 195) [] []]∧(ps.length≤9223372036854775807∧z=ABf9 ps)∧K (.d (bo z))
theorem CCj9:∀args K,cCf args K→∃x,PCall prog 189 args x∧K x:=by
 intro args K h;unfold cCf at h;split at h
 ·obtain ⟨ps,_,e,⟨hl,rfl⟩,h⟩:=h;rw [e];refine ⟨_,Zbh (n:=100) (u:=false) mixed BYd9 Zad func189 (by rfl) (by rfl) fun Ev bb=> ?_,h⟩;rw [BWv9];exact ⟨ps,_,rfl,⟨hl,rfl⟩,by rw [BQp9];rfl⟩
 ·obtain ⟨ps,_,e,⟨hl,rfl⟩,h⟩:=h;rw [e];refine ⟨_,Zbh (n:=100) (u:=false) mixed BYd9 Zad func189 (by rfl) (by rfl) fun Ev bb=> ?_,h⟩;rw [BWw9];exact ⟨ps,_,rfl,⟨hl,rfl⟩,by rw [BQp9];rfl⟩
def TPgI:List (Nat×(List AV→(AV→Prop)→Prop)):= [(189,cCf)]
theorem BNc9:AAk9 prog TPgI:=Zag CCj9 Zai
theorem BAg9 (xs:List (List Dv)):wpFn prog ⟨TPgI, [],wl,y,false⟩ 100 f145 [.d (.sl 1 xs)] b R=(BIf (decide (↑(Zab xs)>(0:Int))) (BIf (decide (↑(Zab xs)≤(16:Int))) (∃(ps0:List (List Int)) (z1:Bool), [Zae (Zam 1 xs),AV.fn (Fn.func 190) [] []]= [Zae (Zam 1 (AAc9 ps0)),AV.fn (Fn.func 190) [] []]∧(Zab ps0≤9223372036854775807∧z1=APa9 ps0)∧R (.d (bo !z1)) b) (R (.d (bo false)) b)) (R (.d (bo false)) b)):=by kernel_rfl
theorem BPz9 (xs:List (List Dv)):wpFn prog ⟨TPgI, [],wl,y,false⟩ 100 f148 [.d (.sl 1 xs)] b R=(∃(ps0:List (List Int)) (z1:Bool), [Zae (Zam 1 xs),AV.fn (Fn.func 195) [] []]= [Zae (Zam 1 (AAc9 ps0)),AV.fn (Fn.func 195) [] []]∧(Zab ps0≤9223372036854775807∧z1=ABf9 ps0)∧R (.d (bo !z1)) b):=by kernel_rfl
def areS (ps:List (List Int)):Bool:=decide ((ps.length:Int)>0)&&(decide ((ps.length:Int)≤16)&& !APa9 ps)
theorem BDl9 (ps:List (List Int)):PCall prog 145 [.d (.sl 1 (AAc9 ps))] (.d (bo (areS ps))):=by
 refine Zbh (n:=100) (u:=false) mixed BNc9 Zad func145 (by rfl) (by rfl) fun Ev bb=> ?_;rw [BAg9,AAe9];refine Zau (fun h1=>Zau (fun h2=>⟨ps,_,rfl,⟨by simp at h2;omega,rfl⟩, ?_⟩) fun h2=> ?_) fun h1=> ?_
 ·rw [areS,h1,h2];rfl
 ·rw [areS,h1,h2];rfl
 ·rw [areS,h1];rfl
def AYc9 (args:List AV) (K:AV→Prop):Prop:=∃(ps:List (List Int)) (z:Bool),args= [.d (.sl 1 (AAc9 ps))]∧z=areS ps∧K (.d (bo z))
theorem AVi9:∀args K,AYc9 args K→∃x,PCall prog 145 args x∧K x:=by
 rintro _ K ⟨ps,_,rfl,rfl,h⟩;exact ⟨_,BDl9 ps,h⟩
theorem BVe9 (ps:List (List Int)) (hl:ps.length≤9223372036854775807):PCall prog 148 [.d (.sl 1 (AAc9 ps))] (.d (bo (!ABf9 ps))):=by
 refine Zbh (n:=100) (u:=false) mixed BNc9 Zad func148 (by rfl) (by rfl) fun Ev bb=> ?_;rw [BPz9];exact ⟨ps,_,rfl,⟨hl,rfl⟩,rfl⟩
def BRs9 (args:List AV) (K:AV→Prop):Prop:=∃(ps:List (List Int)) (z:Bool),args= [.d (.sl 1 (AAc9 ps))]∧(ps.length≤9223372036854775807∧z= !ABf9 ps)∧K (.d (bo z))
theorem AXy9:∀args K,BRs9 args K→∃x,PCall prog 148 args x∧K x:=by
 rintro _ K ⟨ps,_,rfl,⟨hl,rfl⟩,h⟩;exact ⟨_,BVe9 ps hl,h⟩
noncomputable def lpCh:Code:=sub [1,2,3] (code f220)
def tmCh (xs:List (List Dv)) (m i:Int):List AV:= [.yl, .rptr [.sl 1 xs], .rptr [i64 m], .bad, .d (i64 i)]++Zaf 26 .bad
noncomputable def lpCb:Code:=sub [1,2,3] (code f147)
def AOc9 (xs:List (List Dv)) (i:Int):Int:=((List.take (Zat (xs.length:Int) - Zat i) (List.drop (Zat i) xs)).length:Int)
def BFb9 (xs:List (List Dv)) (i z:Int):List (List Dv):=List.take (Zat (Zac .i64 (i+z)) - Zat i) (List.drop (Zat i) xs)
def chOk1 (xs:List (List Dv)) (i:Int):Prop:=0≤i∧i≤(xs.length:Int)∧(xs.length:Int)≤(xs.length:Int)∧(xs.length:Int)≤(xs.length:Int)
def chOk2 (xs:List (List Dv)) (i z:Int):Prop:=0≤i∧i≤Zac .i64 (i+z)∧Zac .i64 (i+z)≤Zac .i64 (i+z)∧Zac .i64 (i+z)≤(xs.length:Int)
instance (xs : List (List Dv)) (i : Int) : Decidable (chOk1 xs i) := inferInstanceAs (Decidable (_ ∧ _))
instance (xs : List (List Dv)) (i z : Int) : Decidable (chOk2 xs i z) := inferInstanceAs (Decidable (_ ∧ _))
def chR {β:Type} (y:ACx9 β) (b:β) (K:Exit→List AV→List Blk→β→Prop) (xs:List (List Dv)) (m i:Int):Prop:=
 BIf (decide (i<xs.length)) (BIf (true&&decide (chOk1 xs i)) (∃(z:Int),(z=if AOc9 xs i<m then AOc9 xs i else m)∧BIf (true&&decide (chOk2 xs i z)) (BIf (true&&Zat (Zac .i64 (i+z))==Zat (Zac .i64 (i+z)))
  (y b [.full 1 (BFb9 xs i z)] fun (c:Bool) (b1:β)=>BIf (!c) (K .ret (tmCh xs m i) [] b1) (K .normal (tmCh xs m (Zac .i64 (i+m))) [] b1))
  (y b [.d (.sl 1 (BFb9 xs i z))] fun (c:Bool) (b1:β)=>BIf (!c) (K .ret (tmCh xs m i) [] b1) (K .normal (tmCh xs m (Zac .i64 (i+m))) [] b1))) False) False)
  (K (.exit 0) (tmCh xs m i) [] b)
def ChOk (lp:Code):Prop:=∀ {β:Type} (wl:WLT β) (y:ACx9 β) (b:β) (K:Exit→List AV→List Blk→β→Prop) (xs:List (List Dv)) (m i:Int),
 wpc prog ⟨[], [],wl,y,false⟩ 100 lp (tmCh xs m i) [] b (maskT [0,1,2,4] K)=chR y b K xs m i
theorem ch88 (xs:List (List Dv)) (m i:Int):wpc prog ⟨[], [],wl,y,false⟩ 100 lpCh (tmCh xs m i) [] b (maskT [0,1,2,4] K)=chR y b K xs m i:=by kernel_rfl
theorem ch57 (xs:List (List Dv)) (m i:Int):wpc prog ⟨[], [],wl,y,false⟩ 100 lpCb (tmCh xs m i) [] b (maskT [0,1,2,4] K)=chR y b K xs m i:=by kernel_rfl
def ADe9 {α:Type} (m:Nat):Nat→List α→List (List α)
 |0,_=> []
 |n+1,xs=>if xs.isEmpty then [] else xs.take m::ADe9 m n (xs.drop m)
def itemC (c:List (List Dv)):List AV:= [.full 1 c]
theorem BJv9 {xs:List (List Dv)} {m i:Nat} (hi:i<xs.length) (hm:1≤m) (hb:xs.length+2*m<9223372036854775807):
 ∃z:Int,z=(if AOc9 xs i<(m:Int) then AOc9 xs i else m)∧BFb9 xs i z=(xs.drop i).take m∧chOk2 xs i z:=by
 have e1:AOc9 xs (i:Int)=((xs.length - i:Nat):Int):=by unfold AOc9;simp
 rw [e1];by_cases h:((xs.length - i:Nat):Int)<(m:Int)
 ·refine ⟨_,rfl, ?_, ?_⟩<;>rw [if_pos h]
  ·unfold BFb9;rw [AAt9 (by omega) (by omega)];have e2:((i:Int)+((xs.length - i:Nat):Int)).toNat - (i:Int).toNat=xs.length - i:=by omega
   rw [e2,Zbn,List.take_of_length_le (by simp),List.take_of_length_le (by simp;omega)]
  ·unfold chOk2;rw [AAt9 (by omega) (by omega)];omega
 ·refine ⟨_,rfl, ?_, ?_⟩<;>rw [if_neg h]
  ·unfold BFb9;rw [AAt9 (by omega) (by omega)];have e2:((i:Int)+(m:Int)).toNat - (i:Int).toNat=m:=by omega
   rw [e2,Zbn]
  ·unfold chOk2;rw [AAt9 (by omega) (by omega)];omega
theorem wrCh {lp:Code} (hP:ChOk lp) {Ev:Env prog} {Q:Exit→St Ev.β→Prop} (xs:List (List Dv)) (m:Nat) (hm:1≤m) (hb:xs.length+2*m<9223372036854775807):∀(n i:Nat) (b:Ev.β),(xs.drop i).length≤n→i≤xs.length+m→
 (YList Ev.Y ((ADe9 m n (xs.drop i)).map itemC) b fun b'=>∀i:Int,Q (.exit 0) ⟨tmCh xs m i, [],b'⟩∧Q .ret ⟨tmCh xs m i, [],b'⟩)→WR Ev lp (n+1) ⟨tmCh xs m i, [],b⟩ Q
 | 0,i,b,hn,hi,h=>by
  refine WR.ofMaskT [0,1,2,4] mixed (CX.Ok.of (u:=false) Zai Zad) (k:=100) ?_;rw [hP];exact Zdb (by simp at hn ⊢;omega) (h _).1
 | n+1,i,b,hn,hi,h=>by
  refine WR.ofMaskT [0,1,2,4] mixed (CX.Ok.of (u:=false) Zai Zad) (k:=100) ?_;rw [hP];by_cases hlt:i<xs.length
  ·have e0:(xs.drop i).isEmpty=false:=by
    cases hx:xs.drop i with
    |nil=>have:=ADw9 hx;omega
    |cons=>rfl
   rw [ADe9,if_neg (by rw [e0];simp),Zdu] at h;obtain ⟨z,hz,hp,hk⟩:=BJv9 hlt hm hb;refine Zbr (by simp;omega) (Zbr (by rw [show decide (chOk1 xs i)=true from decide_eq_true (by unfold chOk1;omega)];rfl) ⟨z,hz,Zbr (by rw [decide_eq_true hk];rfl) (Zbr (by simp) ?_)⟩);rw [hp];refine Ev.Ymono h fun c b' h=> ?_;cases c with
   | true=>
    refine Zdb rfl ?_;rw [AAt9 (by omega) (by omega),show (i:Int)+(m:Int)=((i+m:Nat):Int) by omega];rw [List.drop_drop] at h;exact wrCh hP xs m hm hb n (i+m) b' (by simp at hn ⊢;omega) (by omega) h
   |false=>exact Zbr rfl (h _).2
  ·have e0:xs.drop i= []:=List.drop_eq_nil_of_le (by omega);rw [e0,ADe9,if_pos (show ([]:List (List Dv)).isEmpty=true from rfl)] at h;exact Zdb (by simp;omega) (h _).1
def wlCh {β:Type} (lp:Code) (y:ACx9 β):WLT β:=fun c tm hp b K=>∃(xs:List (List Dv)) (m:Nat),c= .loop lp∧ABo9 [0,1,2,4] 0 tm=tmCh xs m 0∧hp= []∧(1≤m∧xs.length+2*m<9223372036854775807)∧
 YList y ((ADe9 m xs.length xs).map itemC) b fun b'=>∀i:Int,K (.exit 0) (tmCh xs m i) [] b'∧K .ret (tmCh xs m i) [] b'
theorem BLh9 {lp:Code} (hP:ChOk lp) {Ev:Env prog} (c:Code) (tm:List AV) (hp:List Blk) (b:Ev.β) (K:Exit→List AV→List Blk→Ev.β→Prop) (h:wlCh lp Ev.Y c tm hp b K):W Ev c ⟨tm,hp,b⟩ (fun e s=>K e s.tm s.hp s.b):=by
 obtain ⟨xs,m,rfl,htm,rfl,⟨hm,hb⟩,hK⟩:=h;refine W.cast (htm▸AAg9 _ tm 0) (Zcx _) ?_;exact W.rounds (wrCh (Q:=fun e s=>K e s.tm s.hp s.b) hP xs m hm hb xs.length 0 b (by simp) (by omega) (by simpa using hK))
theorem CBe9 (xs:List (List Dv)) (m:Int):wpc prog ⟨[], [],wlCh lpCh y,y,false⟩ 100 (code f220) (AAw9 f220 [.yl, .rptr [.sl 1 xs], .rptr [i64 m]]) [] b (fnK prog f220 fun _ b=>Q b)=(
 ∃(xs':List (List Dv)) (m':Nat),Zbq lpCh= .loop lpCh∧tmCh xs m 0=tmCh xs' m' 0∧([]:List Blk)= []∧(1≤m'∧xs'.length+2*m'<9223372036854775807)∧YList y ((ADe9 m' xs'.length xs').map itemC) b fun b'=>∀_:Int,Q b'∧Q b'):=by kernel_rfl
theorem BWm9 (xs:List (List Dv)) (m:Int):wpc prog ⟨[], [],wlCh lpCb y,y,false⟩ 100 (code f147) (AAw9 f147 [.yl, .rptr [.sl 1 xs], .rptr [i64 m]]) [] b (fnK prog f147 fun _ b=>Q b)=(
 ∃(xs':List (List Dv)) (m':Nat),Zbq lpCb= .loop lpCb∧tmCh xs m 0=tmCh xs' m' 0∧([]:List Blk)= []∧(1≤m'∧xs'.length+2*m'<9223372036854775807)∧YList y ((ADe9 m' xs'.length xs').map itemC) b fun b'=>∀_:Int,Q b'∧Q b'):=by kernel_rfl
set_option maxRecDepth 100000 in
theorem ic88 (xs:List (List Dv)) (m:Nat) (hm:1≤m) (hb:xs.length+2*m<9223372036854775807):ICall prog 220 [.yl, .rptr [.sl 1 xs], .rptr [i64 m]] (fun Y b Q=>YList Y ((ADe9 m xs.length xs).map itemC) b Q):=by
 refine ICall.ofW (c:=code f220) func220 rfl rfl fun Ev b Q h=> ?_;have h1:wpc prog ⟨[], [],wlCh lpCh Ev.Y,Ev.Y,false⟩ 100 (code f220) (AAw9 f220 [.yl, .rptr [.sl 1 xs], .rptr [i64 m]]) [] b (fnK prog f220 fun _ b=>Q b):=by
  rw [CBe9];exact ⟨xs,m,rfl,rfl,rfl,⟨hm,hb⟩,YList.mono (fun b h _=>⟨h,h⟩) _ _ h⟩
 refine AAo9 mixed (CX.Ok.ofWl (wl:=wlCh lpCh Ev.Y) (u:=false) Zai Zad (BLh9 fun wl y b K xs m i=>ch88 wl y b K xs m i)) h1 fun e tm hp b hK=> ?_;obtain ⟨g1,ys,g2,z,g3,g4⟩:=ACu9 hK;exact ⟨g1,ys,g2,g4⟩
set_option maxRecDepth 100000 in
theorem ic57 (xs:List (List Dv)) (m:Nat) (hm:1≤m) (hb:xs.length+2*m<9223372036854775807):ICall prog 147 [.yl, .rptr [.sl 1 xs], .rptr [i64 m]] (fun Y b Q=>YList Y ((ADe9 m xs.length xs).map itemC) b Q):=by
 refine ICall.ofW (c:=code f147) func147 rfl rfl fun Ev b Q h=> ?_;have h1:wpc prog ⟨[], [],wlCh lpCb Ev.Y,Ev.Y,false⟩ 100 (code f147) (AAw9 f147 [.yl, .rptr [.sl 1 xs], .rptr [i64 m]]) [] b (fnK prog f147 fun _ b=>Q b):=by
  rw [BWm9];exact ⟨xs,m,rfl,rfl,rfl,⟨hm,hb⟩,YList.mono (fun b h _=>⟨h,h⟩) _ _ h⟩
 refine AAo9 mixed (CX.Ok.ofWl (wl:=wlCh lpCb Ev.Y) (u:=false) Zai Zad (BLh9 fun wl y b K xs m i=>ch57 wl y b K xs m i)) h1 fun e tm hp b hK=> ?_;obtain ⟨g1,ys,g2,z,g3,g4⟩:=ACu9 hK;exact ⟨g1,ys,g2,g4⟩
theorem BRh9 {β:Type} (wl:WLT β) (y:ACx9 β) (b:β) (R:AV→β→Prop) (xs:List (List Dv)):wpFn prog ⟨[], [],wl,y,false⟩ 100 f193 [.d (.sl 1 xs), .d (i64 2)] b R=R (.fn (.func 220) [] [.rptr [.sl 1 xs], .rptr [i64 2]]) b:=by kernel_rfl
def BMw9 (args:List AV) (K:AV→Prop):Prop:=∃(xs:List (List Dv)),args= [.d (.sl 1 xs), .d (i64 2)]∧K (.fn (.func 220) [] [.rptr [.sl 1 xs], .rptr [i64 2]])
theorem BGa9:∀args K,BMw9 args K→∃x,PCall prog 193 args x∧K x:=by
 rintro _ K ⟨xs,rfl,h⟩;refine ⟨_,Zbh (n:=100) (u:=false) mixed Zai Zad func193 (by rfl) (by rfl) fun Ev bb=> ?_,h⟩;rw [BRh9]
def TLv:List (Nat×(List AV→(AV→Prop)→Prop)):= [(192,cLeaf),(193,BMw9),(194,cPair)]
theorem ANt9:AAk9 prog TLv:=Zag BRu9 (Zag BGa9 (Zag BRr9 Zai))
noncomputable def lpLa:Code:=sub [1,0,1,2,3] (code f191)
noncomputable def lpLb:Code:=sub [1,1,2,3] (code f191)
noncomputable def rfLv:Code:=sub [1,1,2,3,1,2,1,0,1,2] (code f191)
theorem BCg9:rfLv= .rangeFunc (.tmp 30) #[31] (AAm9 rfLv) (ABp9 rfLv):=by kernel_rfl
def tmLa (acc:AV) (ps:List (List Dv)) (n i:Int):List AV:= [.yl, .rptr [.sl 1 ps], .bad,acc, .bad, .bad, .bad, .bad, .d (.sl 1 ps), .d (i64 n), .d (i64 i)]++Zaf 41 .bad
def tmLb (now:AV):List AV:= [.yl, .bad, .bad,now]++Zaf 48 .bad
def tmLr (now:List (List Dv)):List AV:= [.yl, .bad, .bad, .d (.sl 1 now), .bad, .bad, .ptr 0 0]++Zaf 23 .bad++ [.fn (.func 220) [] [.rptr [.sl 1 now], .rptr [i64 2]]]++Zaf 21 .bad
theorem BEe9 (ps xs:List (List Dv)) (n i:Int):wpc prog ⟨TLv, [],wl,y,false⟩ 100 lpLa (tmLa (.own 22 1 xs) ps n i) [] b (maskK 0 [0,1,3,8,9,10] K)=(
 BIf (decide (i<n)) (BIf (true&&decide (0≤i)) (∃(xs0:List (List Dv)),ps[Zat i]? =some [Zam 1 xs0]∧∃(p3:List Int) (z4:Int), [AV.full 1 [[Zam 1 xs0]]]= [.full 1 [[.sl 1 (AAb9 p3)]]]∧(p3.length≤9223372036854775807∧z4=leafS p3)∧
  BIf (true&&decide ((xs.length+1)*8≤140737488355328)) (K .normal (tmLa (.own 22 1 (xs++ [[u64 z4]])) ps n (Zac .i64 (i+1))) [] b) False) False) (K (.exit 0) (tmLa (.own 22 1 xs) ps n i) [] b)):=by kernel_rfl
theorem BDv9 (now xs x:List (List Dv)):wpcY prog ⟨TLv, [],wl,y,false⟩ 100 #[31] (AAm9 rfLv) (ABp9 rfLv) (tmLr now) [.full 1 x] [cellV (.own 22 1 xs)] b (takeK 1 Kh)=(
 BIf ((x.length:Int)==2) (∃(x0:Int),x[0]? =some [u64 x0]∧∃(x3:Int),x[1]? =some [u64 x3]∧∃(a6 c7 z8:Int), [Zae (u64 x0), .d (u64 x3)]= [.d (u64 a6), .d (u64 c7)]∧z8=pairS a6 c7∧BIf (true&&decide ((xs.length+1)*8≤140737488355328)) (Kh .normal [cellV (.own 22 1 (xs++ [[u64 z8]]))] b) False)
  (∃(x9:Int),x[0]? =some [u64 x9]∧BIf (true&&decide ((xs.length+1)*8≤140737488355328)) (Kh .normal [cellV (.own 22 1 (xs++ [[u64 x9]]))] b) False)):=by kernel_rfl
def nextL:List Int→List Int
 | []=> []
 | [a]=> [a]
 |a::c::l=>pairS a c::nextL l
theorem AWv9:∀l:List Int,(nextL l).length≤l.length∧(1<l.length→(nextL l).length<l.length)
 | []=>by simp [nextL]
 | [a]=>by simp [nextL]
 |a::c::l=>by have:=(AWv9 l).1;simp only [nextL,List.length_cons];omega
theorem BCt9 {Ev:Env prog} {b:Ev.β} {Q:Exit→St Ev.β→Prop} (now:List (List Dv)):∀(n:Nat) (l acc:List Int),l.length≤n→acc.length+l.length≤1000→Q .normal ⟨tmLr now, [cellV (.own 22 1 (digR (acc++nextL l)))],b⟩→
 YList (YBody Ev (tmLr now) #[31] (AAm9 rfLv) (ABp9 rfLv) 1) ((ADe9 2 n (digR l)).map itemC) ([cellV (.own 22 1 (digR acc))],b,none) (ADq9 (tmLr now) Q)
 | 0,l,acc,hn,hb,h=>by
  have:l= []:=List.length_eq_zero_iff.1 (by omega);subst this;rw [show nextL []= [] from rfl,List.append_nil] at h;exact h
 | n+1, [],acc,hn,hb,h=>by
  have e:ADe9 2 (n+1) (digR [])= []:=rfl;rw [e];rw [show nextL []= [] from rfl,List.append_nil] at h;exact h
 | n+1, [a],acc,hn,hb,h=>by
  have e:ADe9 2 (n+1) (digR [a])= [[u64 a]]::ADe9 2 n (digR []):=rfl;rw [e,Zdu];refine YList.step (X:=⟨TLv, [],wlW Ev,Ev.Y,false⟩) (k:=100) mixed (CX.Ok.of ANt9 Zad) rfl ?_;show wpcY _ _ _ _ _ _ _ [.full 1 [[u64 a]]] [cellV _] b (takeK 1 _);rw [BDv9];refine Zdb (by simp) ⟨a,rfl,Zbr (by simp [ABd9] at hb ⊢;omega) ?_⟩;rw [AQi9];refine BCt9 now n [] (acc++ [a]) (by simp) (by simp at hb ⊢;omega) ?_;simpa [nextL] using h
 | n+1,a::c::l,acc,hn,hb,h=>by
  have e:ADe9 2 (n+1) (digR (a::c::l))= [[u64 a], [u64 c]]::ADe9 2 n (digR l):=rfl;rw [e,Zdu];refine YList.step (X:=⟨TLv, [],wlW Ev,Ev.Y,false⟩) (k:=100) mixed (CX.Ok.of ANt9 Zad) rfl ?_;show wpcY _ _ _ _ _ _ _ [.full 1 [[u64 a], [u64 c]]] [cellV _] b (takeK 1 _);rw [BDv9];refine Zbr (by simp) ⟨a,rfl,c,rfl,a,c,_,rfl,rfl,Zbr (by simp [ABd9] at hb ⊢;omega) ?_⟩;rw [AQi9];refine BCt9 now n l (acc++ [pairS a c]) (by simp at hn;omega) (by simp at hb ⊢;omega) ?_;have e2:(acc++ [pairS a c])++nextL l=acc++nextL (a::c::l):=by simp [nextL]
  rw [e2];exact h
def wlLr {β:Type}:WLT β:=fun c tm hp b K=>∃(now q:List Int),c=rfLv∧ABo9 [0,3,6,30] 0 tm=tmLr (digR now)∧hp= [cellV (.d (.s (.slice none 0 0)))]∧(now.length≤1000∧q=nextL now)∧K .normal (tmLr (digR now)) [cellV (.own 22 1 (digR q))] b
theorem BLd9 {Ev:Env prog} (c:Code) (tm:List AV) (hp:List Blk) (b:Ev.β) (K:Exit→List AV→List Blk→Ev.β→Prop) (h:wlLr c tm hp b K):W Ev c ⟨tm,hp,b⟩ (fun e s=>K e s.tm s.hp s.b):=by
 obtain ⟨now,q,rfl,htm,rfl,⟨hl,rfl⟩,hK⟩:=h;refine W.cast (htm▸AAg9 _ tm 0) (hp':= [cellV (.own 22 1 (digR []))]) (.cons (.cons (LeA.nilOwn rfl) .nil) .nil) ?_;rw [BCg9];exact W.range (s:=⟨tmLr (digR now),_,b⟩) (k:=220) (first:= []) (caps:= [.rptr [.sl 1 (digR now)], .rptr [i64 2]]) rfl rfl rfl (ic88 (digR now) 2 (by omega) (by rw [ABd9];omega)) (BCt9 (digR now) _ now [] (by rw [ABd9];exact Zas _) (by simpa using hl) (by simpa using hK))
set_option maxRecDepth 10000 in
theorem wrLa {Ev:Env prog} {b:Ev.β} {Q:Exit→St Ev.β→Prop} (ps:List (List Int)) (hl:ps.length≤1000) (hp:∀p∈ps,p.length≤9223372036854775807):∀(rest:List (List Int)) (k:Nat) (acc:List Int),ps.drop k=rest→k≤ps.length→acc.length≤k→
 Q (.exit 0) ⟨tmLa (.own 22 1 (digR (acc++rest.map leafS))) (AAc9 ps) ps.length ps.length, [],b⟩→WR Ev lpLa (rest.length+1) ⟨tmLa (.own 22 1 (digR acc)) (AAc9 ps) ps.length k, [],b⟩ Q
 | [],k,acc,hd,hk,ha,h=>by
  refine WR.ofMask [0,1,3,8,9,10] mixed (CX.Ok.of (u:=false) ANt9 Zad) (k:=100) ?_;show wpc _ _ _ _ _ _ _ (maskK 0 _ _);rw [BEe9];have:=ADw9 hd;obtain rfl:k=ps.length:=by omega
  rw [List.map_nil,List.append_nil] at h;exact Zdb (by simp) h
 | p::rest,k,acc,hd,hk,ha,h=>by
  refine WR.ofMask [0,1,3,8,9,10] mixed (CX.Ok.of (u:=false) ANt9 Zad) (k:=100) ?_;show wpc _ _ _ _ _ _ _ (maskK 0 _ _);rw [BEe9];obtain ⟨hk',hr,hd'⟩:=ABr9 hd;refine Zbr (by simp;omega) (Zbr (by simp) ⟨AAb9 p,by simp [AAc9,hr],p,_,rfl,⟨hp p (Zbi hr),rfl⟩,Zbr (by simp [ABd9];omega) ?_⟩);rw [AQi9,ACt9 hk' (by omega)];refine wrLa ps hl hp rest (k+1) (acc++ [leafS p]) hd' hk' (by simp;omega) ?_;rw [Zdu] at h;rw [List.append_assoc];exact h
def ADb9:Nat→List Int→List (List Int)
 |0,now=> [now]
 |n+1,now=>if 1<now.length then now::ADb9 n (nextL now) else [now]
def itemL (l:List Int):List AV:= [.d (.sl 1 (digR l))]
theorem BEb9 (now:List (List Dv)):wpc prog ⟨TLv, [],wlLr,y,false⟩ 100 lpLb (tmLb (.d (.sl 1 now))) [] b (maskK 0 [0,3] K)=(
 y b [.d (.sl 1 now)] fun (c:Bool) (b1:β)=>BIf c (BIf (decide ((now.length:Int)>1)) (∃(xs2:List (List Dv)), [Zae (.sl 1 now),Zae (i64 2)]= [.d (.sl 1 xs2), .d (i64 2)]∧∃(now3 q4:List Int),rfLv=rfLv∧
  [.yl, .bad, .bad,Zae (.sl 1 now), .bad, .bad, .ptr 0 0]++Zaf 23 .bad++ [.fn (.func 220) [] [.rptr [.sl 1 xs2], .rptr [i64 2]]]++Zaf 21 .bad=tmLr (digR now3)∧
  [cellV (.d (.s (.slice none 0 0)))]= [cellV (.d (.s (.slice none 0 0)))]∧(now3.length≤1000∧q4=nextL now3)∧K .normal (tmLb (.d (.sl 1 (digR q4)))) [] b1)
  (K (.exit 2) (tmLb (.d (.sl 1 now))) [] b1)) (K (.exit 2) (tmLb (.d (.sl 1 now))) [] b1)):=by kernel_rfl
set_option maxRecDepth 10000 in
theorem wrLb {Ev:Env prog} {Q:Exit→St Ev.β→Prop}:∀(n:Nat) (now:List Int) (b:Ev.β),now.length≤n+1→now.length≤1000→
 (YList Ev.Y ((ADb9 n now).map itemL) b fun b'=>∀z:List (List Dv),Q (.exit 2) ⟨tmLb (.d (.sl 1 z)), [],b'⟩)→WR Ev lpLb (n+1) ⟨tmLb (.d (.sl 1 (digR now))), [],b⟩ Q
 | 0,now,b,hn,hl,h=>by
  refine WR.ofMask [0,3] mixed (CX.Ok.ofWl (wl:=wlLr) (u:=false) ANt9 Zad BLd9) (k:=100) ?_;show wpc _ _ _ _ _ _ _ (maskK 0 _ _);rw [BEb9];refine Ev.Ymono h fun c b' h=> ?_;have h':∀z:List (List Dv),Q (.exit 2) ⟨tmLb (.d (.sl 1 z)), [],b'⟩:=by cases c<;>exact h
  cases c with
  |true=>exact Zbr rfl (Zdb (by simp [ABd9];omega) (h' _))
  |false=>exact Zdb rfl (h' _)
 | n+1,now,b,hn,hl,h=>by
  refine WR.ofMask [0,3] mixed (CX.Ok.ofWl (wl:=wlLr) (u:=false) ANt9 Zad BLd9) (k:=100) ?_;show wpc _ _ _ _ _ _ _ (maskK 0 _ _);rw [BEb9];by_cases h1:1<now.length
  ·rw [ADb9,if_pos h1,Zdu] at h;refine Ev.Ymono h fun c b' h=> ?_;cases c with
   | true=>
    have:=(AWv9 now).2 h1;exact Zbr rfl (Zbr (by simp [ABd9];omega) ⟨_,rfl,now,_,rfl,rfl,rfl,⟨hl,rfl⟩,wrLb n (nextL now) b' (by omega) (by omega) h⟩)
   |false=>exact Zdb rfl (h _)
  ·rw [ADb9,if_neg h1] at h;refine Ev.Ymono h fun c b' h=> ?_;have h':∀z:List (List Dv),Q (.exit 2) ⟨tmLb (.d (.sl 1 z)), [],b'⟩:=by cases c<;>exact h
   cases c with
   |true=>exact Zbr rfl (Zdb (by simp [ABd9];omega) (h' _))
   |false=>exact Zdb rfl (h' _)
def wl76 {β:Type} (y:ACx9 β):WLT β:=fun c tm hp b K=>match cidO c with
 |3=>∃(ps:List (List Int)) (q:List Int),c= .loop lpLa∧ABo9 [0,1,3,8,9,10] 0 tm=tmLa nilV (AAc9 ps) (AAc9 ps).length 0∧hp= []∧((ps.length≤1000∧∀p∈ps,p.length≤9223372036854775807)∧q=ps.map leafS)∧K (.exit 0) (tmLa (.own 22 1 (digR q)) (AAc9 ps) (AAc9 ps).length (AAc9 ps).length) [] b
 |7=>∃(now:List Int),c= .loop lpLb∧ABo9 [0,3] 0 (tm.map AV.view)=tmLb (.d (.sl 1 (digR now)))∧hp= []∧now.length≤1000∧YList y ((ADb9 now.length now).map itemL) b fun b'=>∀z:List (List Dv),K (.exit 2) (tmLb (.d (.sl 1 z))) [] b'
 |_=>False
theorem AOq9:∀l:List AV,LeL l (l.map AV.view)
 | []=> .nil
 |x::l=> .cons LeA.view (AOq9 l)
theorem BTj9 {Ev:Env prog} (c:Code) (tm:List AV) (hp:List Blk) (b:Ev.β) (K:Exit→List AV→List Blk→Ev.β→Prop) (h:wl76 Ev.Y c tm hp b K):W Ev c ⟨tm,hp,b⟩ (fun e s=>K e s.tm s.hp s.b):=by
 unfold wl76 at h;split at h
 ·obtain ⟨ps,q,rfl,htm,rfl,⟨⟨hl,hp⟩,rfl⟩,hK⟩:=h;rw [AAe9] at htm hK;refine W.cast (htm▸AAg9 _ tm 0) (Zcx _) ?_;refine W.cast (tm':=tmLa (.own 22 1 (digR [])) (AAc9 ps) ps.length 0) (LeL.at [_,_,_] _ (LeA.nilOwn rfl)) (Zcx _) ?_;exact W.rounds (wrLa (Q:=fun e s=>K e s.tm s.hp s.b) ps hl hp ps 0 [] rfl (Nat.zero_le _) (Nat.zero_le _) hK)
 ·obtain ⟨now,rfl,htm,rfl,hl,hK⟩:=h;refine W.cast (AOq9 _) (Zcx _) ?_;refine W.cast (htm▸AAg9 _ _ 0) (Zcx _) ?_;exact W.rounds (wrLb (Q:=fun e s=>K e s.tm s.hp s.b) now.length now b (by omega) hl hK)
 ·exact h.elim
theorem CBf9 (ps:List (List Dv)):wpc prog ⟨TLv, [],wl76 y,y,false⟩ 100 (code f191) (AAw9 f191 [.yl, .rptr [.sl 1 ps]]) [] b (fnK prog f191 fun _ b=>Q b)=(
 ∃ (ps0:List (List Int)) (q1:List Int),Zbq lpLa= .loop lpLa∧tmLa nilV ps ps.length 0=tmLa nilV (AAc9 ps0) (AAc9 ps0).length 0∧([]:List Blk)= []∧((ps0.length≤1000∧∀p∈ps0,p.length≤9223372036854775807)∧q1=ps0.map leafS)∧
  ∃(now2:List Int),Zbq lpLb= .loop lpLb∧tmLb (.d (.sl 1 (digR q1)))=tmLb (.d (.sl 1 (digR now2)))∧([]:List Blk)= []∧now2.length≤1000∧YList y ((ADb9 now2.length now2).map itemL) b fun b'=>∀_:List (List Dv),Q b'):=by kernel_rfl
theorem BIn9 (ps:List (List Dv)):wpFn prog ⟨[], [],wl,y,false⟩ 100 f146 [.d (.sl 1 ps)] b R=R (.fn (.func 191) [] [.rptr [.sl 1 ps]]) b:=by kernel_rfl
def ADk9 (ps:List (List Int)):List (List Int):=ADb9 (ps.map leafS).length (ps.map leafS)
set_option maxRecDepth 100000 in
theorem ic76 (ps:List (List Int)) (hl:ps.length≤1000) (hp:∀p∈ps,p.length≤9223372036854775807):ICall prog 191 [.yl, .rptr [.sl 1 (AAc9 ps)]] (fun Y b Q=>YList Y ((ADk9 ps).map itemL) b Q):=by
 refine ICall.ofW (c:=code f191) func191 rfl rfl fun Ev b Q h=> ?_;have h1:wpc prog ⟨TLv, [],wl76 Ev.Y,Ev.Y,false⟩ 100 (code f191) (AAw9 f191 [.yl, .rptr [.sl 1 (AAc9 ps)]]) [] b (fnK prog f191 fun _ b=>Q b):=by
  rw [CBf9];exact ⟨ps,_,rfl,rfl,rfl,⟨⟨hl,hp⟩,rfl⟩,_,rfl,rfl,rfl,by simpa using hl,YList.mono (fun b h _=>h) _ _ h⟩
 refine AAo9 mixed (CX.Ok.ofWl (wl:=wl76 Ev.Y) (u:=false) ANt9 Zad BTj9) h1 fun e tm hp b hK=> ?_;obtain ⟨g1,ys,g2,z,g3,g4⟩:=ACu9 hK;exact ⟨g1,ys,g2,g4⟩
def BMs9 (args:List AV) (K:AV→Prop):Prop:=∃(ps:List (List Dv)),args= [.d (.sl 1 ps)]∧K (.fn (.func 191) [] [.rptr [.sl 1 ps]])
theorem BFq9:∀args K,BMs9 args K→∃x,PCall prog 146 args x∧K x:=by
 rintro _ K ⟨ps,rfl,h⟩;refine ⟨_,Zbh (n:=100) (u:=false) mixed Zai Zad func146 (by rfl) (by rfl) fun Ev bb=> ?_,h⟩;rw [BIn9]
def TRt:List (Nat×(List AV→(AV→Prop)→Prop)):= [(145,AYc9),(146,BMs9)]
theorem BXx9:AAk9 prog TRt:=Zag AVi9 (Zag BFq9 Zai)
noncomputable def rfRt:Code:=sub [1,1,1,0,1,2] (code f84)
theorem BCe9:rfRt= .rangeFunc (.tmp 10) #[11] (AAm9 rfRt) (ABp9 rfRt):=by kernel_rfl
def tmRt (ps:List (List Dv)):List AV:= [.bad, .bad, .bad, .bad, .ptr 0 0]++Zaf 5 .bad++ [.fn (.func 191) [] [.rptr [.sl 1 ps]]]++Zaf 5 .bad
noncomputable def rfPr:Code:=sub [1,1,1,0,1,2] (code f87)
theorem BCf9:rfPr= .rangeFunc (.tmp 23) #[24] (AAm9 rfPr) (ABp9 rfPr):=by kernel_rfl
def tmPrI (ps:List (List Dv)):List AV:= [.bad, .bad, .bad, .ptr 0 0, .bad, .bad, .ptr 1 0]++Zaf 16 .bad++ [.fn (.func 191) [] [.rptr [.sl 1 ps]]]++Zaf 17 .bad
def sibB (v:Int):Int:=Zac Zax ↑(BitVec.toNat (Zap 64 v ^^^ Zap 64 1))
theorem BOw9 (ps x:List (List Dv)) (v:Int):wpcY prog ⟨[], [],wl,y,false⟩ 100 #[11] (AAm9 rfRt) (ABp9 rfRt) (tmRt ps) [.d (.sl 1 x)] [cellV (.d (u64 v))] b (takeK 1 Kh)=(
 ∃(x0:Int),x[0]? =some [u64 x0]∧Kh .normal [cellV (.d (u64 x0))] b):=by kernel_rfl
theorem BPd9 (ps x xs:List (List Dv)) (v:Int):wpcY prog ⟨[], [],wl,y,false⟩ 100 #[24] (AAm9 rfPr) (ABp9 rfPr) (tmPrI ps) [.d (.sl 1 x)] [cellV (.d (i64 v)),cellV (.own 22 1 xs)] b (takeK 2 Kh)=(
 BIf (decide (sibB v<(x.length:Int))) (BIf (true&&decide (0≤sibB v)) (∃(x0:Int),x[Zat (sibB v)]? =some [u64 x0]∧BIf (true&&decide ((xs.length+1)*8≤140737488355328)) (Kh .normal [cellV (.d (i64 (Zac .i64 (Zcn v 2)))),cellV (.own 22 1 (xs++ [[u64 x0]]))] b) False) False)
  (Kh .normal [cellV (.d (i64 (Zac .i64 (Zcn v 2)))),cellV (.own 22 1 xs)] b)):=by kernel_rfl
def sibN (k:Nat):Nat:=if k % 2=0 then k+1 else k - 1
theorem BBx9 {k:Nat} (h:k<1000000):sibB (k:Int)=((sibN k:Nat):Int):=by
 have e1:(Zap 64 (k:Int) ^^^ Zap 64 1).toNat=k ^^^ 1:=by
  rw [BitVec.toNat_xor,show Zap 64 (k:Int)=BitVec.ofNat 64 k by simp,BitVec.toNat_ofNat,Nat.mod_eq_of_lt (by omega)];rfl
 have h1:(k ^^^ 1) / 2=k / 2:=by rw [Nat.xor_div_two];simp
 have e2:(k ^^^ 1).testBit 0=(k.testBit 0 ^^ (1:Nat).testBit 0):=Nat.testBit_xor ..;rw [Zea,Zea,Zea] at e2;have h2:(k ^^^ 1) % 2=(k+1) % 2:=by
  rcases Zdc k with h|h<;>rcases Zdc (k ^^^ 1) with h'|h'<;>simp [h,h'] at e2<;>omega
 have h3:k ^^^ 1=sibN k:=by unfold sibN;split<;>omega
 have h4:sibN k≤k+1:=by unfold sibN;split<;>omega
 rw [sibB,e1,h3,AAt9 (by omega) (by omega)]
theorem AOs9:∀(n:Nat) (now:List Int),(ADb9 n now).length≤n+1
 |0,now=>by simp [ADb9]
 | n+1,now=>by
  rw [ADb9];split
  ·simp [AOs9 n (nextL now)]
  ·simp
theorem AZl9 (ps:List (List Int)):(ADk9 ps).length≤ps.length+1:=by
 have:=AOs9 (ps.map leafS).length (ps.map leafS);rw [List.length_map] at this;unfold ADk9;rw [List.length_map];exact this
theorem BQf9:∀ {l:List Int},l≠ []→nextL l≠ []
 | [],h=>(h rfl).elim
 | [a],h=>by simp [nextL]
 |a::c::l,h=>by simp [nextL]
theorem ARy9:∀(n:Nat) (now:List Int),now≠ []→∀l∈ADb9 n now,l≠ []
 |0,now,h=>by simpa [ADb9] using h
 | n+1,now,h=>by
  rw [ADb9];split
  ·intro l hl;rcases Zbx.1 hl with rfl|hl
   ·exact h
   ·exact ARy9 n _ (BQf9 h) l hl
  ·simpa using h
theorem BDy9 {ps:List (List Int)} (h:ps≠ []):∀l∈ADk9 ps,l≠ []:=ARy9 _ _ (by simpa using h)
def lastS:List (List Int)→Int→Int
 | [],v=>v
 |l::ls,_=>lastS ls (nth l 0)
theorem BLp9 {Ev:Env prog} {b:Ev.β} {Q:Exit→St Ev.β→Prop} (ps:List (List Dv)):∀(ls:List (List Int)) (v:Int),(∀l∈ls,l≠ [])→Q .normal ⟨tmRt ps, [cellV (.d (u64 (lastS ls v)))],b⟩→
 YList (YBody Ev (tmRt ps) #[11] (AAm9 rfRt) (ABp9 rfRt) 1) (ls.map itemL) ([cellV (.d (u64 v))],b,none) (ADq9 (tmRt ps) Q)
 | [],v,hn,h=>h
 | l::ls,v,hn,h=>by
  rw [Zdu];refine YList.step (X:=⟨[], [],wlW Ev,Ev.Y,false⟩) (k:=100) mixed (CX.Ok.of Zai Zad) rfl ?_;show wpcY _ _ _ _ _ _ _ [.d (.sl 1 (digR l))] [cellV _] b (takeK 1 _);rw [BOw9];have h0:0<l.length:=List.length_pos_iff.2 (hn l Zbb);exact ⟨nth l 0,AXq9 h0,BLp9 ps ls (nth l 0) (fun l hl=>hn l (Zaw _ hl)) h⟩
def AEy9:List (List Int)→Nat→List Int
 | [],_=> []
 |l::ls,k=>(if sibN k<l.length then [nth l (sibN k)] else [])++AEy9 ls (k / 2)
theorem BCs9 {Ev:Env prog} {b:Ev.β} {Q:Exit→St Ev.β→Prop} (ps:List (List Dv)):∀(ls:List (List Int)) (k:Nat) (acc:List Int),k<1000000→acc.length+ls.length≤100000→
 (∀z:Int,Q .normal ⟨tmPrI ps, [cellV (.d (i64 z)),cellV (.own 22 1 (digR (acc++AEy9 ls k)))],b⟩)→
 YList (YBody Ev (tmPrI ps) #[24] (AAm9 rfPr) (ABp9 rfPr) 2) (ls.map itemL) ([cellV (.d (i64 k)),cellV (.own 22 1 (digR acc))],b,none) (ADq9 (tmPrI ps) Q)
 | [],k,acc,hk,hl,h=>by
  have h:=h k;rw [AEy9,List.append_nil] at h;exact h
 | l::ls,k,acc,hk,hl,h=>by
  rw [Zdu];refine YList.step (X:=⟨[], [],wlW Ev,Ev.Y,false⟩) (k:=100) mixed (CX.Ok.of Zai Zad) rfl ?_;show wpcY _ _ _ _ _ _ _ [.d (.sl 1 (digR l))] [cellV _,cellV _] b (takeK 2 _);rw [BPd9,BBx9 hk,ABd9,show Zcn (k:Int) 2=((k / 2:Nat):Int) from rfl,AAt9 (by omega) (by omega)];simp only [List.length_cons] at hl;refine Zau (fun h1=> ?_) fun h1=> ?_
  ·have h2:sibN k<l.length:=by simp at h1;omega
   refine Zbr (by simp) ⟨nth l (sibN k),by rw [Zbn];exact AXq9 h2,Zbr (by simp [ABd9];omega) ?_⟩;rw [AQi9];refine BCs9 ps ls (k / 2) (acc++ [nth l (sibN k)]) (by omega) (by simp;omega) ?_;rw [AEy9,if_pos h2] at h;rw [List.append_assoc];exact h
  ·have h2:¬sibN k<l.length:=by simp at h1;omega
   refine BCs9 ps ls (k / 2) acc (by omega) (by omega) ?_;rw [AEy9,if_neg h2,List.nil_append] at h;exact h
def wlRt {β:Type}:WLT β:=fun c tm hp b K=>∃(ps:List (List Int)) (v q:Int),c=rfRt∧ABo9 [4,10] 0 tm=tmRt (AAc9 ps)∧hp= [cellV (.d (u64 v))]∧((ps.length≤1000∧ps≠ []∧∀p∈ps,p.length≤9223372036854775807)∧q=lastS (ADk9 ps) v)∧K .normal (tmRt (AAc9 ps)) [cellV (.d (u64 q))] b
theorem BTb9 {Ev:Env prog} (c:Code) (tm:List AV) (hp:List Blk) (b:Ev.β) (K:Exit→List AV→List Blk→Ev.β→Prop) (h:wlRt c tm hp b K):W Ev c ⟨tm,hp,b⟩ (fun e s=>K e s.tm s.hp s.b):=by
 obtain ⟨ps,v,q,rfl,htm,rfl,⟨⟨hl,h0,hp⟩,rfl⟩,hK⟩:=h;refine W.cast (htm▸AAg9 _ tm 0) (Zcx _) ?_;rw [BCe9];exact W.range (s:=⟨tmRt (AAc9 ps),_,b⟩) (k:=191) (first:= []) (caps:= [.rptr [.sl 1 (AAc9 ps)]]) rfl rfl rfl (ic76 ps hl hp) (BLp9 (AAc9 ps) (ADk9 ps) v (BDy9 h0) hK)
def wlPrI {β:Type}:WLT β:=fun c tm hp b K=>∃(ps:List (List Int)) (k:Nat) (q:List Int),c=rfPr∧ABo9 [3,6,23] 0 tm=tmPrI (AAc9 ps)∧hp= [cellV (.d (i64 k)),cellV nilV]∧((ps.length≤1000∧k<1000000∧∀p∈ps,p.length≤9223372036854775807)∧q=AEy9 (ADk9 ps) k)∧∀z:Int,K .normal (tmPrI (AAc9 ps)) [cellV (.d (i64 z)),cellV (.own 22 1 (digR q))] b
theorem BNt9 {Ev:Env prog} (c:Code) (tm:List AV) (hp:List Blk) (b:Ev.β) (K:Exit→List AV→List Blk→Ev.β→Prop) (h:wlPrI c tm hp b K):W Ev c ⟨tm,hp,b⟩ (fun e s=>K e s.tm s.hp s.b):=by
 obtain ⟨ps,k,q,rfl,htm,rfl,⟨⟨hl,h0,hp⟩,rfl⟩,hK⟩:=h;refine W.cast (htm▸AAg9 _ tm 0) (hp':= [cellV (.d (i64 k)),cellV (.own 22 1 (digR []))]) (.cons (.cons LeA.rfl .nil) (.cons (.cons (LeA.nilOwn rfl) .nil) .nil)) ?_;rw [BCf9];have:=AZl9 ps;exact W.range (s:=⟨tmPrI (AAc9 ps),_,b⟩) (k:=191) (first:= []) (caps:= [.rptr [.sl 1 (AAc9 ps)]]) rfl rfl rfl (ic76 ps hl hp) (BCs9 (AAc9 ps) (ADk9 ps) k [] h0 (by simp;omega) hK)
def rootS (ps:List (List Int)):Int×Int:=if areS ps then (lastS (ADk9 ps) 0,0) else (0,1)
def ANp9 (ps:List (List Int)) (i:Int):List Int×Int:=if areS ps&& !decide (i<0)&& !decide (i≥ps.length) then (AEy9 (ADk9 ps) i.toNat,0) else ([],1)
theorem ATl9 {ps:List (List Int)} (h:areS ps=true):ps.length≤16∧ps≠ []∧∀p∈ps,p.length≤256:=by
 simp [areS,APa9] at h;obtain ⟨h1,h2,h3⟩:=h;refine ⟨by omega,fun h=>by simp [h] at h1,fun p hp=> ?_⟩;have:=h3 p hp;omega
theorem BUo9 (ps:List (List Dv)):wpFn prog ⟨TRt, [],wlRt,y,false⟩ 100 f84 [.d (.sl 1 ps)] b R=(
 ∃ (ps0:List (List Int)) (z1:Bool), [Zae (.sl 1 ps)]= [.d (.sl 1 (AAc9 ps0))]∧z1=areS ps0∧BIf (!z1) (R (.tup [.d (u64 0), .d (i64 1)]) b) (∃(ps2:List (List Dv)), [Zae (.sl 1 ps)]= [.d (.sl 1 ps2)]∧∃(ps3:List (List Int)) (v4 q5:Int),rfRt=rfRt∧
  tmRt ps2=tmRt (AAc9 ps3)∧ [cellV (.d (u64 0))]= [cellV (.d (u64 v4))]∧((ps3.length≤1000∧ps3≠ []∧∀p∈ps3,p.length≤9223372036854775807)∧q5=lastS (ADk9 ps3) v4)∧R (.tup [.d (u64 q5), .d (i64 0)]) b)):=by kernel_rfl
theorem BPa9 (ps:List (List Dv)) (i:Int):wpFn prog ⟨TRt, [],wlPrI,y,false⟩ 100 f87 [.d (.sl 1 ps), .d (i64 i)] b R=(
 ∃ (ps0:List (List Int)) (z1:Bool), [Zae (.sl 1 ps)]= [.d (.sl 1 (AAc9 ps0))]∧z1=areS ps0∧BIf (!z1) (R (.tup [nilV, .d (i64 1)]) b) (BIf (decide (i<0)) (R (.tup [nilV, .d (i64 1)]) b) (BIf (decide (i≥(ps.length:Int))) (R (.tup [nilV, .d (i64 1)]) b)
  (∃(ps2:List (List Dv)), [Zae (.sl 1 ps)]= [.d (.sl 1 ps2)]∧∃(ps3:List (List Int)) (k4:Nat) (q5:List Int),rfPr=rfPr∧tmPrI ps2=tmPrI (AAc9 ps3)∧ [cellV (.d (i64 i)),cellV nilV]= [cellV (.d (i64 k4)),cellV nilV]∧
   ((ps3.length≤1000∧k4<1000000∧∀p∈ps3,p.length≤9223372036854775807)∧q5=AEy9 (ADk9 ps3) k4)∧∀_:Int,R (.tup [.d (.sl 1 (digR q5)), .d (i64 0)]) b)))):=by kernel_rfl
theorem BZe9 (ps:List (List Int)):PCall prog 84 [.d (.sl 1 (AAc9 ps))] (.tup [.d (u64 (rootS ps).1), .d (i64 (rootS ps).2)]):=by
 refine PCall.ofFnW (n:=100) (u:=false) (fun _=>wlRt) mixed BXx9 Zad (fun Ev=>BTb9) func84 (by rfl) (by rfl) fun Ev bb=> ?_;rw [BUo9];refine ⟨ps,_,rfl,rfl,Zau (fun h=> ?_) fun h=> ?_⟩
 ·have h:areS ps=false:=by simpa using h
  rw [rootS,if_neg (by rw [h];simp)]
 ·have h:areS ps=true:=by simpa using h
  obtain ⟨h1,h2,h3⟩:=ATl9 h;rw [rootS,if_pos h];exact ⟨_,rfl,ps,0,_,rfl,rfl,rfl,⟨⟨by omega,h2,fun p hp=>by have:=h3 p hp;omega⟩,rfl⟩,rfl⟩
def cRoot (args:List AV) (K:AV→Prop):Prop:=∃(ps:List (List Int)) (z:Int×Int),args= [.d (.sl 1 (AAc9 ps))]∧z=rootS ps∧K (.tup [.d (u64 z.1), .d (i64 z.2)])
theorem BRo9:∀args K,cRoot args K→∃x,PCall prog 84 args x∧K x:=by
 rintro _ K ⟨ps,_,rfl,rfl,h⟩;exact ⟨_,BZe9 ps,h⟩
theorem BVd9 (ps:List (List Int)) (i:Int):PCall prog 87 [.d (.sl 1 (AAc9 ps)), .d (i64 i)] (.tup [.d (.sl 1 (digR (ANp9 ps i).1)), .d (i64 (ANp9 ps i).2)]):=by
 refine PCall.ofFnV (n:=100) (u:=false) (fun _=>wlPrI) mixed BXx9 Zad (fun Ev=>BNt9) func87 (by rfl) (by rfl) fun Ev bb=> ?_;rw [BPa9,AAe9];have hn:LeV (.tup [nilV, .d (i64 1)]) (.tup [.d (.sl 1 (digR [])), .d (i64 1)]):= .tups (.cons (.nil rfl) (.cons .rfl .nil));refine ⟨ps,_,rfl,rfl,Zau (fun h=> ?_) fun h=>Zau (fun g=> ?_) fun g=>Zau (fun f=> ?_) fun f=> ?_⟩
 ·have h:areS ps=false:=by simpa using h
  rw [ANp9,if_neg (by rw [h];simp)];exact hn
 ·rw [ANp9,if_neg (by rw [g];simp)];exact hn
 ·rw [ANp9,if_neg (by rw [f];simp)];exact hn
 ·have h:areS ps=true:=by simpa using h
  obtain ⟨h1,h2,h3⟩:=ATl9 h;rw [ANp9,if_pos (by rw [h,g,f];rfl)];simp at g f;obtain ⟨k,rfl⟩:=Zcs g;exact ⟨_,rfl,ps,k,_,rfl,rfl,rfl,⟨⟨by omega,by omega,fun p hp=>by have:=h3 p hp;omega⟩,rfl⟩,fun _=> .rfl⟩
def BXd9 (args:List AV) (K:AV→Prop):Prop:=∃(ps:List (List Int)) (i:Int) (z:List Int×Int),args= [.d (.sl 1 (AAc9 ps)), .d (i64 i)]∧z=ANp9 ps i∧K (.tup [.d (.sl 1 (digR z.1)), .d (i64 z.2)])
theorem BKf9:∀args K,BXd9 args K→∃x,PCall prog 87 args x∧K x:=by
 rintro _ K ⟨ps,i,_,rfl,rfl,h⟩;exact ⟨_,BVd9 ps i,h⟩
noncomputable def lpWk:Code:=sub [2,3] (code f230)
def tmWk:List AV:= [.yl, .ptr 0 0, .ptr 1 0]++Zaf 18 .bad
def cellN (x:Int):Blk:=cellV (.d (i64 x))
section
variable {β:Type} (wl:WLT β) (y:ACx9 β) (b:β) (K:Exit→List AV→List Blk→β→Prop) (R:AV→List Blk→β→Prop)
theorem BBe9 (x k:Int):wpc prog ⟨[], [],wl,y,false⟩ 100 lpWk tmWk [cellN x,cellN k] b (maskT [0,1,2] K)=(
 BIf (decide (x>1)) (y b [.d (bo (decide (sibB k<x))), .d (bo (Int.tmod k 2==1))] fun (c:Bool) (b1:β)=>BIf (!c) (K .ret tmWk [cellN x,cellN k] b1)
  (K .normal tmWk [cellN (Zac .i64 (Zcn (Zac .i64 (x+1)) 2)),cellN (Zac .i64 (Zcn k 2))] b1)) (K (.exit 0) tmWk [cellN x,cellN k] b)):=by kernel_rfl
theorem BTv9 (x k:Int):wpFnS prog ⟨[], [],wl,y,false⟩ 100 f214 [.d (i64 x), .d (i64 k)] b R=R (.fn (.func 230) [] [.ptr 0 0, .ptr 1 0]) [cellN x,cellN k] b:=by kernel_rfl
end
def walkP:Nat→Nat→Nat→List (Bool×Bool)
 |0,_,_=> []
 |n+1,w,k=>if 1<w then (decide (sibN k<w),k % 2==1)::walkP n ((w+1) / 2) (k / 2) else []
def walkS (w k:Nat):List (Bool×Bool):=walkP w w k
def itemK (p:Bool×Bool):List AV:= [.d (bo p.1), .d (bo p.2)]
theorem wrWk {Ev:Env prog} {Q:Exit→St Ev.β→Prop}:∀(n w k:Nat) (b:Ev.β),w≤n+1→w<1000000→k<1000000→
 (YList Ev.Y ((walkP n w k).map itemK) b fun b'=>∀z t:Int,Q (.exit 0) ⟨tmWk, [cellN z,cellN t],b'⟩∧Q .ret ⟨tmWk, [cellN z,cellN t],b'⟩)→WR Ev lpWk (n+1) ⟨tmWk, [cellN w,cellN k],b⟩ Q
 | 0,w,k,b,hn,hw,hk,h=>by
  refine WR.ofMaskT [0,1,2] mixed (CX.Ok.of (u:=false) Zai Zad) (k:=100) ?_;rw [BBe9];exact Zdb (by simp;omega) (h _ _).1
 | n+1,w,k,b,hn,hw,hk,h=>by
  refine WR.ofMaskT [0,1,2] mixed (CX.Ok.of (u:=false) Zai Zad) (k:=100) ?_;rw [BBe9];by_cases h1:1<w
  ·rw [walkP,if_pos h1,Zdu] at h;refine Zbr (by simp;omega) ?_;have e1:decide (sibB (k:Int)<(w:Int))=decide (sibN k<w):=by rw [BBx9 hk];simp
   have e2:(Int.tmod (k:Int) 2==1)=(k % 2==1):=by
    rw [show Int.tmod (k:Int) 2=((k % 2:Nat):Int) from rfl];rcases Zdc k with h|h<;>rw [h]<;>rfl
   rw [e1,e2];refine Ev.Ymono h fun c b' h=> ?_;cases c with
   | true=>
    refine Zdb rfl ?_;rw [AAt9 (x:=(w:Int)+1) (by omega) (by omega),show Zcn ((w:Int)+1) 2=(((w+1) / 2:Nat):Int) from rfl,show Zcn (k:Int) 2=((k / 2:Nat):Int) from rfl,AAt9 (by omega) (by omega),AAt9 (by omega) (by omega)];exact wrWk n ((w+1) / 2) (k / 2) b' (by omega) (by omega) (by omega) h
   |false=>exact Zbr rfl (h _ _).2
  ·rw [walkP,if_neg h1] at h;exact Zdb (by simp;omega) (h _ _).1
def wlWk {β:Type} (y:ACx9 β):WLT β:=fun c tm hp b K=>∃(w k:Nat),c= .loop lpWk∧ABo9 [0,1,2] 0 tm=tmWk∧hp= [cellN w,cellN k]∧(w<1000000∧k<1000000)∧YList y ((walkS w k).map itemK) b fun b'=>∀z t:Int,K (.exit 0) tmWk [cellN z,cellN t] b'∧K .ret tmWk [cellN z,cellN t] b'
theorem BSx9 {Ev:Env prog} (c:Code) (tm:List AV) (hp:List Blk) (b:Ev.β) (K:Exit→List AV→List Blk→Ev.β→Prop) (h:wlWk Ev.Y c tm hp b K):W Ev c ⟨tm,hp,b⟩ (fun e s=>K e s.tm s.hp s.b):=by
 obtain ⟨w,k,rfl,htm,rfl,⟨hw,hk⟩,hK⟩:=h;refine W.cast (htm▸AAg9 _ tm 0) (Zcx _) ?_;exact W.rounds (wrWk (Q:=fun e s=>K e s.tm s.hp s.b) w w k b (by omega) hw hk hK)
theorem CBd9 (x k:Int):wpc prog ⟨[], [],wlWk y,y,false⟩ 100 (code f230) (AAw9 f230 [.yl, .ptr 0 0, .ptr 1 0]) [cellN x,cellN k] b (fnK prog f230 fun _ b=>Q b)=(
 ∃(w' k':Nat),Zbq lpWk= .loop lpWk∧tmWk=tmWk∧ [cellN x,cellN k]= [cellN w',cellN k']∧(w'<1000000∧k'<1000000)∧YList y ((walkS w' k').map itemK) b fun b'=>∀_ _:Int,Q b'∧Q b'):=by kernel_rfl
set_option maxRecDepth 100000 in
theorem ic92 (w k:Nat) (hw:w<1000000) (hk:k<1000000):ATp9 prog 230 (.yl::AGg9 0 2) [cellN w,cellN k] (fun Y b Q=>YList Y ((walkS w k).map itemK) b Q):=by
 refine ATp9.ofW (c:=code f230) func230 rfl rfl fun Ev b Q h=> ?_;have h1:wpc prog ⟨[], [],wlWk Ev.Y,Ev.Y,false⟩ 100 (code f230) (AAw9 f230 [.yl, .ptr 0 0, .ptr 1 0]) [cellN w,cellN k] b (fnK prog f230 fun _ b=>Q b):=by
  rw [CBd9];exact ⟨w,k,rfl,rfl,rfl,⟨hw,hk⟩,YList.mono (fun b h _ _=>⟨h,h⟩) _ _ h⟩
 refine AAo9 mixed (CX.Ok.ofWl (wl:=wlWk Ev.Y) (u:=false) Zai Zad BSx9) h1 fun e tm hp b hK=> ?_;obtain ⟨g1,ys,g2,z,g3,g4⟩:=ACu9 hK;exact ⟨g1,ys,g2,g4⟩
theorem CBa9 (x k:Int):FCall prog 214 [.d (i64 x), .d (i64 k)] (.fn (.func 230) [] [.ptr 0 0, .ptr 1 0]) [cellN x,cellN k]:=by
 refine FCall.ofFnW (n:=100) (u:=false) (fun _=>fun _ _ _ _ _=>False) mixed Zai Zad (fun Ev _ _ _ _ _ h=>h.elim) func214 (by rfl) (by rfl) (by rfl) fun Ev bb=> ?_;rw [BTv9];exact ⟨rfl,rfl⟩
def sWalk (args:List AV) (hp:List Blk) (K:AV→List Blk→Prop):Prop:=∃(x k:Int),args= [.d (i64 x), .d (i64 k)]∧K (.fn (.func 230) [] [.ptr hp.length 0, .ptr (hp.length+1) 0]) (hp++ [cellN x,cellN k])
theorem BOr9:∀args hp K,sWalk args hp K→∃x hp',SCall prog 214 args hp x hp'∧K x hp':=by
 rintro _ hp K ⟨x,k,rfl,h⟩;exact ⟨_,_,(CBa9 x k).toS rfl hp,by simpa [shift,AKk9,AJn9,AUh9,cellN,cellV,Zem] using h⟩
def SCk:List (Nat×(List AV→List Blk→(AV→List Blk→Prop)→Prop)):= [(214,sWalk)]
theorem CDp9:AAn9 prog SCk:=Zcr BOr9 Zad
noncomputable def rfCk:Code:=sub [1,1,1,0,1,2] (code f177)
theorem BCh9:rfCk= .rangeFunc (.tmp 41) #[42,43] (AAm9 rfCk) (ABp9 rfCk):=by kernel_rfl
theorem BJg9:code f177= .seq (sub [0] (code f177)) (.seq (sub [1,0] (code f177)) (.seq (sub [1,1,0] (code f177)) (.seq (.seq (sub [1,1,1,0,0] (code f177)) (.block 0 rfCk)) (sub [1,1,1,1] (code f177))))):=by kernel_rfl
def tmCa (r n i:Int) (p q:List (List Dv)):List AV:= [.d (u64 r), .d (i64 n), .d (i64 i), .d (.sl 1 p), .d (.sl 1 q), .bad, .bad, .bad, .bad, .ptr 0 0, .ptr 1 0]++Zaf 58 .bad
def tmCb (r n i:Int):List AV:= [.d (u64 r), .d (i64 n), .d (i64 i), .bad, .bad, .bad, .bad, .bad, .bad, .ptr 0 0, .ptr 1 0, .ptr 2 0]++Zaf 57 .bad
def tmCc (r:Int):List AV:= [.d (u64 r), .bad, .bad, .bad, .bad, .bad, .bad, .bad, .bad, .ptr 0 0, .ptr 1 0, .ptr 2 0]++Zaf 29 .bad++ [.fn (.func 230) [] [.ptr 3 0, .ptr 4 0]]++Zaf 27 .bad
def ckH (q:List (List Dv)) (z:Bool) (s:Int):List Blk:= [cellV (.d (.sl 1 q)),cellV (.d (bo z)),cellV (.d (u64 s))]
def ckH2 (q:List (List Dv)):List Blk:= [cellV (.d (.sl 1 q)),cellV (.d (bo false))]
theorem ck_a (r n i:Int) (p q:List (List Dv)):wpc prog ⟨[], [],wl,y,false⟩ 100 (sub [0] (code f177)) (AAw9 f177 [.d (u64 r), .d (i64 n), .d (i64 i), .d (.sl 1 p), .d (.sl 1 q)]) [] b K=K .normal (tmCa r n i p q) (ckH2 q) b:=by kernel_rfl
theorem ck_b (r n i:Int) (p q:List (List Dv)):wpc prog ⟨[], [],wl,y,false⟩ 100 (sub [1,0] (code f177)) (tmCa r n i p q) (ckH2 q) b (maskT [0,1,2,3,4,9,10] K)=(
 BIf (decide (n<1)) (K .ret (tmCa r n i p q) (ckH2 q) b) (BIf (decide (n>16)) (K .ret (tmCa r n i p q) (ckH2 q) b) (BIf (decide (i<0)) (K .ret (tmCa r n i p q) (ckH2 q) b) (BIf (decide (i≥n)) (K .ret (tmCa r n i p q) (ckH2 q) b)
  (BIf (decide ((p.length:Int)>256)) (K .ret (tmCa r n i p q) (ckH2 q) b) (K .normal (tmCa r n i p q) (ckH2 q) b)))))):=by kernel_rfl
theorem ck_c (r n i:Int) (p q:List (List Dv)):wpc prog ⟨TLv, [],wl,y,false⟩ 100 (sub [1,1,0] (code f177)) (tmCa r n i p q) (ckH2 q) b (maskT [0,1,2,9,10,11] K)=(
 ∃(p0:List Int) (z1:Int), [AV.full 1 [[.sl 1 p]]]= [.full 1 [[.sl 1 (AAb9 p0)]]]∧(p0.length≤9223372036854775807∧z1=leafS p0)∧K .normal (tmCb r n i) (ckH q false z1) b):=by kernel_rfl
theorem ck_d (r n i s:Int) (q:List (List Dv)):wpc prog ⟨TLv,SCk,wl,y,false⟩ 100 (sub [1,1,1,0,0] (code f177)) (tmCb r n i) (ckH q false s) b (maskT [0,9,10,11,41] K)=(
 ∃(x0 k1:Int), [Zae (i64 n), .d (i64 i)]= [.d (i64 x0), .d (i64 k1)]∧K .normal (tmCc r) (ckH q false s++ [cellN x0,cellN k1]) b):=by kernel_rfl
def rest1 (q:List (List Dv)):List (List Dv):=List.take (Zat (q.length:Int) - Zat 1) (List.drop (Zat 1) q)
theorem BRg9 (r s:Int) (t u:Bool) (q:List (List Dv)):wpcY prog ⟨TLv, [],wl,y,false⟩ 100 #[42,43] (AAm9 rfCk) (ABp9 rfCk) (lowTm 3 (tmCc r)) [.d (bo t), .d (bo u)] (ckH q false s) b (takeK 3 Kh)=(
 BIf (!t) (Kh .normal (ckH q false s) b) (BIf ((q.length:Int)==0) (Kh .ret (ckH q false s) b) (∃(x0:Int),q[0]? =some [u64 x0]∧
  BIf u (∃(a3 c4 z5:Int), [Zae (u64 x0), .d (u64 s)]= [.d (u64 a3), .d (u64 c4)]∧z5=pairS a3 c4∧BIf (true&&decide ((0:Int)≤1∧(1:Int)≤q.length∧(q.length:Int)≤q.length∧(q.length:Int)≤q.length)) (Kh .normal (ckH (rest1 q) false z5) b) False)
   (∃(a6 c7 z8:Int), [Zae (u64 s), .d (u64 x0)]= [.d (u64 a6), .d (u64 c7)]∧z8=pairS a6 c7∧BIf (true&&decide ((0:Int)≤1∧(1:Int)≤q.length∧(q.length:Int)≤q.length∧(q.length:Int)≤q.length)) (Kh .normal (ckH (rest1 q) false z8) b) False)))):=by kernel_rfl
theorem ck_e (r s:Int) (q:List (List Dv)):wpc prog ⟨[], [],wl,y,false⟩ 100 (sub [1,1,1,1] (code f177)) (lowTm 3 (tmCc r)) (ckH q false s) b (maskT [10] K)=(
 BIf ((q.length:Int)==0) (K .ret (Zaf 10 .bad++ [.ptr 1 0]++Zaf 58 .bad) (ckH q (s==r) s) b) (K .ret (Zaf 10 .bad++ [.ptr 1 0]++Zaf 58 .bad) (ckH q false s) b)):=by kernel_rfl
def AEz9:List (Bool×Bool)→List Int→Int→Option (List Int×Int)
 | [],q,s=>some (q,s)
 |(t,u)::l,q,s=>if t then match q with
  | []=>none
  |x::q=>AEz9 l q (if u then pairS x s else pairS s x)
  else AEz9 l q s
theorem AVf9 (u:Bool) (l:List (Bool×Bool)) (q:List Int) (s:Int):AEz9 ((false,u)::l) q s=AEz9 l q s:=by cases q<;>simp [AEz9]
theorem ASy9 (u:Bool) (l:List (Bool×Bool)) (s:Int):AEz9 ((true,u)::l) [] s=none:=by rw [AEz9,if_pos rfl]
theorem AVd9 (l:List (Bool×Bool)) (x:Int) (q:List Int) (s:Int):AEz9 ((true,true)::l) (x::q) s=AEz9 l q (pairS x s):=by rw [AEz9,if_pos rfl,if_pos rfl]
theorem AVe9 (l:List (Bool×Bool)) (x:Int) (q:List Int) (s:Int):AEz9 ((true,false)::l) (x::q) s=AEz9 l q (pairS s x):=by rw [AEz9,if_pos rfl,if_neg (by simp)]
def topS (r:Int):Option (List Int×Int)→Bool
 |some (q,s)=>q.isEmpty&&s==r
 |none=>false
def AFt9 (r n i:Int) (p q:List Int):Bool:= !decide (n<1)&&(!decide (n>16)&&(!decide (i<0)&&(!decide (i≥n)&&(!decide ((p.length:Int)>256)&&topS r (AEz9 (walkS n.toNat i.toNat) q (leafS p))))))
theorem BCn9 (x:Int) (q:List Int):rest1 (digR (x::q))=digR q:=by
 unfold rest1;rw [show Zat 1=1 from rfl,Zbn,ABd9,show (digR (x::q)).drop 1=digR q from rfl];exact List.take_of_length_le (by rw [ABd9];simp)
theorem AWj9 {Ev:Env prog} {b:Ev.β} {Q:Exit→St Ev.β→Prop} (r:Int):∀(ls:List (Bool×Bool)) (q:List Int) (s:Int),
 (∀q' s',AEz9 ls q s=some (q',s')→Q .normal ⟨lowTm 3 (tmCc r),ckH (digR q') false s',b⟩)→(AEz9 ls q s=none→∀q' s',Q .ret ⟨lowTm 3 (tmCc r),ckH q' false s',b⟩)→
 YList (YBody Ev (lowTm 3 (tmCc r)) #[42,43] (AAm9 rfCk) (ABp9 rfCk) 3) (ls.map itemK) (ckH (digR q) false s,b,none) (ADq9 (lowTm 3 (tmCc r)) Q)
 | [],q,s,h1,h2=>h1 q s rfl
 | (t,u)::ls,q,s,h1,h2=>by
  rw [Zdu];refine YList.step (X:=⟨TLv, [],wlW Ev,Ev.Y,false⟩) (k:=100) mixed (CX.Ok.of ANt9 Zad) rfl ?_;show wpcY _ _ _ _ _ _ _ [.d (bo t), .d (bo u)] _ b (takeK 3 _);rw [BRg9];cases t with
  | false=>
   rw [AVf9] at h1 h2;exact Zbr rfl (AWj9 r ls q s h1 h2)
  | true=>
   refine Zdb rfl ?_;cases q with
   |nil=>exact Zbr rfl (h2 (ASy9 _ _ _) _ _)
   | cons x q=>
    refine Zdb (by rw [ABd9];simp;omega) ⟨x,rfl, ?_⟩;have hc:decide ((0:Int)≤1∧(1:Int)≤(digR (x::q)).length∧((digR (x::q)).length:Int)≤(digR (x::q)).length∧((digR (x::q)).length:Int)≤(digR (x::q)).length)=true:=decide_eq_true (by rw [ABd9];simp only [List.length_cons];omega);cases u with
    | true=>
     rw [AVd9] at h1 h2;refine Zbr rfl ⟨_,_,_,rfl,rfl,Zbr (by rw [hc];rfl) ?_⟩;rw [BCn9];exact AWj9 r ls q (pairS x s) h1 h2
    | false=>
     rw [AVe9] at h1 h2;refine Zdb rfl ⟨_,_,_,rfl,rfl,Zbr (by rw [hc];rfl) ?_⟩;rw [BCn9];exact AWj9 r ls q (pairS s x) h1 h2
theorem CCc9 (r n i:Int) (p q:List (List Dv)):resAs prog (ckH2 q) (tmCa r n i p q) Tryz.f177.results.toList=some [.d (bo false)]:=by kernel_rfl
theorem CCb9 (r s:Int) (z:Bool) (q:List (List Dv)):resAs prog (ckH q z s) (lowTm 3 (tmCc r)) Tryz.f177.results.toList=some [.d (bo z)]:=by kernel_rfl
theorem CCa9 (s:Int) (z:Bool) (q:List (List Dv)):resAs prog (ckH q z s) (Zaf 10 .bad++ [.ptr 1 0]++Zaf 58 .bad) Tryz.f177.results.toList=some [.d (bo z)]:=by kernel_rfl
theorem BVk9 (r n i:Int) (p q:List Int):PCall prog 177 [.d (u64 r), .d (i64 n), .d (i64 i), .d (.sl 1 (AAb9 p)), .d (.sl 1 (digR q))] (.d (bo (AFt9 r n i p q))):=by
 refine PCall.ofW0 (x0:=bo (AFt9 r n i p q)) (c:=code f177) func177 rfl rfl rfl fun Ev b=> ?_;have hfin:∀ {tm:List AV} {hp:List Blk} {b':Ev.β} (z:Bool),resAs prog hp tm Tryz.f177.results.toList=some [.d (bo z)]→z=AFt9 r n i p q→AIg9 prog f177 (fun y hp _=>y= .d (bo (AFt9 r n i p q))∧Zae (bo (AFt9 r n i p q))= .d (bo (AFt9 r n i p q))) .ret (⟨tm,hp,b'⟩:St Ev.β):=by
  rintro tm hp b' z h rfl;exact ⟨.inl rfl,_,h,rfl,rfl⟩
 rw [BJg9];refine W0.seq (W0.of (AAo9 mixed (CX.Ok.of (u:=false) Zai Zad) (n:=100) (K:=thenK (fun tm hp b'=>tm=tmCa r n i (AAb9 p) (digR q)∧hp=ckH2 (digR q)) fun _ _ _ _=>False) ?_ ?_))
 ·rw [ck_a];exact ⟨rfl,rfl⟩
 intro e tm hp b' h;cases e<;>first|exact h.elim|skip
 obtain ⟨rfl,rfl⟩:=h;refine W0.seq (W0.of (W.castPost (AAo9 mixed (CX.Ok.of (u:=false) Zai Zad) (n:=100) (K:=maskT [0,1,2,3,4,9,10] fun e tm hp b'=>tm=tmCa r n i (AAb9 p) (digR q)∧hp=ckH2 (digR q)∧
  ((e= .normal∧1≤n∧n≤16∧0≤i∧i<n∧p.length≤256∧AFt9 r n i p q=topS r (AEz9 (walkS n.toNat i.toNat) q (leafS p)))∨(e= .ret∧false=AFt9 r n i p q))) ?_ ?_)))
 ·rw [ck_b,AAf9];refine Zau (fun g=>⟨rfl,rfl, .inr ⟨rfl,by rw [AFt9,g];rfl⟩⟩) fun g1=>Zau (fun g=>⟨rfl,rfl, .inr ⟨rfl,by rw [AFt9,g1,g];rfl⟩⟩) fun g2=>Zau (fun g=>⟨rfl,rfl, .inr ⟨rfl,by rw [AFt9,g1,g2,g];rfl⟩⟩) fun g3=>
   Zau (fun g=>⟨rfl,rfl, .inr ⟨rfl,by rw [AFt9,g1,g2,g3,g];rfl⟩⟩) fun g4=>Zau (fun g=>⟨rfl,rfl, .inr ⟨rfl,by rw [AFt9,g1,g2,g3,g4,g];rfl⟩⟩) fun g5=>⟨rfl,rfl, .inl ⟨rfl, ?_⟩⟩
  refine ⟨?_, ?_, ?_, ?_, ?_,by rw [AFt9,g1,g2,g3,g4,g5];rfl⟩
  ·simp at g1;omega
  ·simp at g2;omega
  ·simp at g3;omega
  ·simp at g4;omega
  ·simp at g5;omega
 intro e tm hp b' h;refine ⟨_,_,AAg9 [0,1,2,3,4,9,10] tm 0,Zcx _, ?_⟩;obtain ⟨h1,rfl,h2⟩:=h;rcases h2 with ⟨rfl,n1,n2,i1,i2,hp,hck⟩|⟨rfl,hz⟩
 rotate_left
 ·rw [h1];exact hfin false (CCc9 _ _ _ _ _) hz
 show W0 Ev _ _ _;rw [h1];clear h1;obtain ⟨w,rfl⟩:=Zcs (show 0≤n by omega);obtain ⟨k,rfl⟩:=Zcs i1;rw [Zbn,Zbn] at hck;refine W0.seq (W0.of (W.castPost (AAo9 mixed (CX.Ok.of (u:=false) ANt9 Zad) (n:=100) (K:=maskT [0,1,2,9,10,11] (thenK (fun tm hp b'=>tm=tmCb r w k∧hp=ckH (digR q) false (leafS p)) fun _ _ _ _=>False)) ?_ ?_)))
 ·rw [ck_c];exact ⟨p,_,rfl,⟨by omega,rfl⟩,rfl,rfl⟩
 intro e tm hp b' h;refine ⟨_,_,AAg9 [0,1,2,9,10,11] tm 0,Zcx _, ?_⟩;cases e<;>first|exact h.elim|skip
 obtain ⟨h1,rfl⟩:=h;show W0 Ev _ _ _;rw [h1];clear h1;refine W0.seq (W0.seq (W0.of (W.castPost (AAo9 mixed (CX.Ok.of (u:=false) ANt9 CDp9) (n:=100) (K:=maskT [0,9,10,11,41] (thenK (fun tm hp b'=>tm=tmCc r∧hp=ckH (digR q) false (leafS p)++ [cellN w,cellN k]) fun _ _ _ _=>False)) ?_ ?_))))
 ·rw [ck_d];exact ⟨_,_,rfl,rfl,rfl⟩
 intro e tm hp b' h;refine ⟨_,_,AAg9 [0,9,10,11,41] tm 0,Zcx _, ?_⟩;cases e<;>first|exact h.elim|skip
 obtain ⟨h1,rfl⟩:=h;show W0 Ev _ _ _;rw [h1];clear h1;refine W0.block ?_;rw [BCh9];refine W0.ranges (hp0:=ckH (digR q) false (leafS p)) (lent:= [cellN w,cellN k]) rfl ?_ rfl ?_ rfl (ic92 w k (by omega) (by omega)) ?_
 ·intro q hq;simp at hq;rcases hq with rfl|rfl<;>rfl
 ·intro q hq;simp at hq;rcases hq with rfl|rfl<;>exact ⟨rfl,rfl⟩
 refine AWj9 r (walkS w k) q (leafS p) (fun q' s' hc=> ?_) fun hc q' s'=> ?_
 ·show W0 Ev _ _ _;refine W0.of (W.castPost (AAo9 mixed (CX.Ok.of (u:=false) Zai Zad) (n:=100) (K:=maskT [10] fun e tm hp b'=>e= .ret∧tm=Zaf 10 .bad++ [.ptr 1 0]++Zaf 58 .bad∧hp=ckH (digR q') (topS r (some (q',s'))) s') ?_ ?_))
  ·rw [ck_e,ABd9];refine Zau (fun g=>⟨rfl,rfl, ?_⟩) fun g=>⟨rfl,rfl, ?_⟩
   ·have:q'= []:=by simpa using g
    subst this;rfl
   ·cases q' with
    |nil=>simp at g
    |cons=>rfl
  intro e tm hp b' h;refine ⟨_,_,AAg9 [10] tm 0,Zcx _, ?_⟩;obtain ⟨rfl,h1,rfl⟩:=h;rw [h1];exact hfin _ (CCa9 _ _ _) (by rw [hck,hc])
 ·exact hfin false (CCb9 _ _ _ _) (by rw [hck,hc];rfl)
def BXi9 (args:List AV) (K:AV→Prop):Prop:=∃(r n i:Int) (p q:List Int) (z:Bool),args= [.d (u64 r), .d (i64 n), .d (i64 i), .d (.sl 1 (AAb9 p)), .d (.sl 1 (digR q))]∧z=AFt9 r n i p q∧K (.d (bo z))
theorem BKk9:∀args K,BXi9 args K→∃x,PCall prog 177 args x∧K x:=by
 rintro _ K ⟨r,n,i,p,q,_,rfl,rfl,h⟩;exact ⟨_,BVk9 r n i p q,h⟩
noncomputable def rfSp:Code:=sub [1,1,1,0,1,2] (code f27)
theorem BCd9:rfSp= .rangeFunc (.tmp 12) #[13] (AAm9 rfSp) (ABp9 rfSp):=by kernel_rfl
def tmSp (ps:List (List Dv)):List AV:= [.bad, .bad, .bad, .bad, .ptr 0 0]++Zaf 7 .bad++ [.fn (.func 147) [] [.rptr [.sl 1 ps], .rptr [i64 256]]]++Zaf 10 .bad
def ADd9 (n:Int):Bool:=decide (n≥1)&&decide (n≤4096)
def ABl9 (n:Int):Int:=Zac Zax (Zcn (Zac Zax (Zac Zax (n+(256:Int)) - (1:Int))) (256:Int))
theorem BOi9 (n:Int):wpFn prog ⟨[], [],wl,y,false⟩ 100 f85 [.d (i64 n)] b R=BIf (decide (n≥1)) (R (.d (bo (decide (n≤4096)))) b) (R (.d (bo false)) b):=by kernel_rfl
theorem BRe9 (n:Int):wpFn prog ⟨[], [],wl,y,false⟩ 100 f125 [.d (i64 n)] b R=R (.d (i64 (ABl9 n))) b:=by kernel_rfl
theorem BJu9 (xs:List (List Dv)):wpFn prog ⟨[], [],wl,y,false⟩ 100 f86 [.d (.sl 1 xs), .d (i64 256)] b R=R (.fn (.func 147) [] [.rptr [.sl 1 xs], .rptr [i64 256]]) b:=by kernel_rfl
theorem BVa9 (n:Int):PCall prog 85 [.d (i64 n)] (.d (bo (ADd9 n))):=by
 refine Zbh (n:=100) (u:=false) mixed Zai Zad func85 (by rfl) (by rfl) fun Ev bb=> ?_;rw [BOi9];exact Zau (fun h=>by rw [ADd9,h];rfl) fun h=>by rw [ADd9,h];rfl
def BKd9 (args:List AV) (K:AV→Prop):Prop:=∃(n:Int) (z:Bool),args= [.d (i64 n)]∧z=ADd9 n∧K (.d (bo z))
theorem AQj9:∀args K,BKd9 args K→∃x,PCall prog 85 args x∧K x:=by
 rintro _ K ⟨n,_,rfl,rfl,h⟩;exact ⟨_,BVa9 n,h⟩
theorem BVi9 (n:Int):PCall prog 125 [.d (i64 n)] (.d (i64 (ABl9 n))):=by
 refine Zbh (n:=100) (u:=false) mixed Zai Zad func125 (by rfl) (by rfl) fun Ev bb=> ?_;rw [BRe9]
def BFw9 (args:List AV) (K:AV→Prop):Prop:=∃(n z:Int),args= [.d (i64 n)]∧z=ABl9 n∧K (.d (i64 z))
theorem ALa9:∀args K,BFw9 args K→∃x,PCall prog 125 args x∧K x:=by
 rintro _ K ⟨n,_,rfl,rfl,h⟩;exact ⟨_,BVi9 n,h⟩
theorem BPx9 (xs:List (List Dv)):PCall prog 86 [.d (.sl 1 xs), .d (i64 256)] (.fn (.func 147) [] [.rptr [.sl 1 xs], .rptr [i64 256]]):=by
 refine Zbh (n:=100) (u:=false) mixed Zai Zad func86 (by rfl) (by rfl) fun Ev bb=> ?_;rw [BJu9]
def BMv9 (args:List AV) (K:AV→Prop):Prop:=∃(xs:List (List Dv)),args= [.d (.sl 1 xs), .d (i64 256)]∧K (.fn (.func 147) [] [.rptr [.sl 1 xs], .rptr [i64 256]])
theorem BFz9:∀args K,BMv9 args K→∃x,PCall prog 86 args x∧K x:=by
 rintro _ K ⟨xs,rfl,h⟩;exact ⟨_,BPx9 xs,h⟩
def TAn:List (Nat×(List AV→(AV→Prop)→Prop)):= [(85,BKd9)]
theorem CDk9:AAk9 prog TAn:=Zag AQj9 Zai
def notA (a n r t:Int):AV:= .agg [.d (i64 a), .d (i64 n), .d (u64 r), .d (i64 t)]
def AAi9 (a n t:Int):Bool:=decide (a≥1)&&(decide (a≤1000000000)&&(ADd9 n&&(decide (t≥0)&&decide (t≤1000000000))))
theorem AVj9 (a n r t:Int):wpFn prog ⟨TAn, [],wl,y,false⟩ 100 f83 [notA a n r t] b R=(
 BIf (decide (a≥1)) (BIf (decide (a≤1000000000)) (∃(n0:Int) (z1:Bool), [Zae (i64 n)]= [.d (i64 n0)]∧z1=ADd9 n0∧BIf z1 (BIf (decide (t≥0)) (R (.d (bo (decide (t≤1000000000)))) b) (R (.d (bo false)) b)) (R (.d (bo false)) b)) (R (.d (bo false)) b)) (R (.d (bo false)) b)):=by kernel_rfl
theorem AZj9 (a n r t:Int):PCall prog 83 [notA a n r t] (.d (bo (AAi9 a n t))):=by
 refine Zbh (n:=100) (u:=false) mixed CDk9 Zad func83 (by rfl) (by rfl) fun Ev bb=> ?_;rw [AVj9];refine Zau (fun h1=>Zau (fun h2=>⟨n,_,rfl,rfl,Zau (fun h3=>Zau (fun h4=> ?_) fun h4=> ?_) fun h3=> ?_⟩) fun h2=> ?_) fun h1=> ?_
 ·rw [AAi9,h1,h2,h3,h4];rfl
 ·rw [AAi9,h1,h2,h3,h4];rfl
 ·rw [AAi9,h1,h2,h3];rfl
 ·rw [AAi9,h1,h2];rfl
 ·rw [AAi9,h1];rfl
def ANa9 (args:List AV) (K:AV→Prop):Prop:=∃(a n r t:Int) (z:Bool),args= [notA a n r t]∧z=AAi9 a n t∧K (.d (bo z))
theorem AKg9:∀args K,ANa9 args K→∃x,PCall prog 83 args x∧K x:=by
 rintro _ K ⟨a,n,r,t,_,rfl,rfl,h⟩;exact ⟨_,AZj9 a n r t,h⟩
def lenW:Nat→Nat→Nat→Nat
 |0,_,_=>0
 |n+1,w,k=>if 1<w then (if sibN k<w then 1 else 0)+lenW n ((w+1) / 2) (k / 2) else 0
def padS (p:List Int):List Int:=p++Zaf (256 - p.length) 0
theorem APs9 {p:List Int} (h:p.length≤256):(padS p).length=256:=by simp [padS];omega
theorem BDp9 (p:List Int) (h:p.length≤256):flatA ((AAb9 p).take 256)++(flatA (Zaf 256 [u8 0])).drop ((AAb9 p).take 256).length=flatA (AAb9 (padS p)):=by
 have e:Zaf 256 [u8 0]=AAb9 (Zaf 256 0):=by simp only [AAb9,List.map_replicate]
 rw [e,AFu9,AAf9,List.take_of_length_le h];have key:∀q:List Int,flatA (AAb9 q)=q.map fun x=>Zae (u8 x):=by
  intro q;induction q with
  |nil=>rfl
  | cons a q ih=>
   rw [show AAb9 (a::q)= [u8 a]::AAb9 q from rfl];simp only [flatA,List.flatten_cons,List.map_append] at ih ⊢;rw [ih];rfl
 rw [key,key,key,padS,List.map_append,←List.map_drop,List.drop_replicate]
theorem ASv9 {α γ:Type} (f:α→γ) (m:Nat):∀(n:Nat) (xs:List α),ADe9 m n (xs.map f)=(ADe9 m n xs).map (List.map f)
 |0,xs=>rfl
 | n+1,xs=>by
  rw [ADe9,ADe9];cases xs with
  |nil=>rfl
  | cons a xs=>
   rw [if_neg (by simp),if_neg (by simp),←List.map_take,←List.map_drop,ASv9 f m n];rfl
theorem ASw9 {α:Type} (m:Nat):∀(n:Nat) (xs:List α),(∀c∈ADe9 m n xs,c.length≤m)∧(ADe9 m n xs).length≤n
 |0,xs=>by simp [ADe9]
 | n+1,xs=>by
  rw [ADe9];split
  ·simp
  ·obtain ⟨h1,h2⟩:=ASw9 m n (xs.drop m);refine ⟨fun c hc=> ?_,by simp;omega⟩;rcases Zbx.1 hc with rfl|hc
   ·simp;omega
   ·exact h1 c hc
def GByte:List (Nat×(List AV→List Blk→(AV→List Blk→Prop)→Prop)):= [(1000000+5,fun _ _ _=>False)]
theorem ANj9:AAn9 prog GByte:=Zcr (fun _ _ _ h=>h.elim) Zad
theorem BOg9 (ps xs x:List (List Dv)):wpcY prog ⟨[],GByte,wl,y,false⟩ 100 #[13] (AAm9 rfSp) (ABp9 rfSp) (tmSp ps) [.full 1 x] [cellV (.own 33 1 xs)] b (takeK 1 Kh)=(
 0 =0∧0=0∧∃(xs0:List (List Dv)),flatA (x.take 256)++(flatA (Zaf 256 [u8 0])).drop (x.take 256).length=flatA xs0∧xs0.length=256∧(∀r∈xs0,r.length=1)∧
  BIf (true&&decide ((xs.length+1)*24≤140737488355328)) (Kh .normal [cellV (.own 33 1 (xs++ [[.sl 1 xs0]]))] b) False):=by kernel_rfl
theorem BIh9 (ps:List (List Int)) (p:List Int):AAc9 ps++ [[.sl 1 (AAb9 p)]]=AAc9 (ps++ [p]):=by simp [AAc9]
def BWf9 (p:List Int):List AV:= [.full 1 (AAb9 p)]
theorem BLo9 {Ev:Env prog} {b:Ev.β} {Q:Exit→St Ev.β→Prop} (ps:List (List Dv)):∀(l acc:List (List Int)),(∀p∈l,p.length≤256)→acc.length+l.length≤1000000→Q .normal ⟨tmSp ps, [cellV (.own 33 1 (AAc9 (acc++l.map padS)))],b⟩→
 YList (YBody Ev (tmSp ps) #[13] (AAm9 rfSp) (ABp9 rfSp) 1) (l.map BWf9) ([cellV (.own 33 1 (AAc9 acc))],b,none) (ADq9 (tmSp ps) Q)
 | [],acc,hl,hb,h=>by rw [List.map_nil,List.append_nil] at h;exact h
 | p::l,acc,hl,hb,h=>by
  rw [Zdu];refine YList.step (X:=⟨[],GByte,wlW Ev,Ev.Y,false⟩) (k:=100) mixed (CX.Ok.of Zai ANj9) rfl ?_;show wpcY _ _ _ _ _ _ _ [.full 1 (AAb9 p)] [cellV _] b (takeK 1 _);rw [BOg9];have hp:=hl p (Zbb ..);refine ⟨rfl,rfl,AAb9 (padS p),BDp9 p hp,by rw [AAf9,APs9 hp],fun r hr=> ?_,Zbr (by simp [AAe9] at hb ⊢;omega) ?_⟩
  ·simp only [AAb9,Zbd] at hr;obtain ⟨_,_,rfl⟩:=hr;rfl
  rw [BIh9];refine BLo9 ps l (acc++ [padS p]) (fun q hq=>hl q (Zaw _ hq)) (by simp at hb ⊢;omega) ?_;rw [List.append_assoc];exact h
def ABn9 (p:List Int):List (List Int):=(ADe9 256 p.length p).map padS
def wlSp {β:Type}:WLT β:=fun c tm hp b K=>∃(p:List Int) (q:List (List Int)),c=rfSp∧ABo9 [4,12] 0 tm=tmSp (AAb9 p)∧hp= [cellV (.d (.s (.slice none 0 0)))]∧(p.length≤1000000∧q=ABn9 p)∧K .normal (tmSp (AAb9 p)) [cellV (.own 33 1 (AAc9 q))] b
theorem BTa9 {Ev:Env prog} (c:Code) (tm:List AV) (hp:List Blk) (b:Ev.β) (K:Exit→List AV→List Blk→Ev.β→Prop) (h:wlSp c tm hp b K):W Ev c ⟨tm,hp,b⟩ (fun e s=>K e s.tm s.hp s.b):=by
 obtain ⟨p,q,rfl,htm,rfl,⟨hl,rfl⟩,hK⟩:=h;refine W.cast (htm▸AAg9 _ tm 0) (hp':= [cellV (.own 33 1 (AAc9 []))]) (.cons (.cons (LeA.nilOwn rfl) .nil) .nil) ?_;rw [BCd9];refine W.range (s:=⟨tmSp (AAb9 p),_,b⟩) (k:=147) (first:= []) (caps:= [.rptr [.sl 1 (AAb9 p)], .rptr [i64 256]]) rfl rfl rfl (ic57 (AAb9 p) 256 (by omega) (by rw [AAf9];omega)) ?_;have e:(ADe9 256 (AAb9 p).length (AAb9 p)).map itemC=(ADe9 256 p.length p).map BWf9:=by
  rw [AAf9,AAb9,ASv9,List.map_map];rfl
 rw [e];have:=ASw9 256 p.length p;exact BLo9 (AAb9 p) _ [] this.1 (by simp;omega) (by simpa [ABn9] using hK)
def TSp:List (Nat×(List AV→(AV→Prop)→Prop)):= [(85,BKd9),(86,BMv9)]
theorem CCz9:AAk9 prog TSp:=Zag AQj9 (Zag BFz9 Zai)
noncomputable def lp61:Code:=sub [1,0,2,3] (code f197)
noncomputable def lp62:Code:=sub [1,0,2,3] (code f198)
def tm61 (p:List (List Dv)) (c:Int):List AV:= [.d (.sl 1 p), .d (u8 c)]++Zaf 19 .bad
def tm62 (p:List (List Dv)) (c:Int):List AV:= [.d (.sl 1 p), .d (u8 c)]++Zaf 22 .bad
noncomputable def lp38a:Code:=sub [1,1,0,1,2,3] (code f149)
noncomputable def lp38b:Code:=sub [1,1,1,1,0,1,2,3] (code f149)
def tm38a (ps:List (List Dv)) (s n i:Int):List AV:= [.d (.sl 1 ps), .bad, .bad, .d (i64 s), .bad, .bad, .bad, .bad, .bad, .d (.sl 1 ps), .d (i64 n), .d (i64 i)]++Zaf 24 .bad
def tm38b (ps:List (List Dv)) (v m:Nat) (n i:Int):List AV:= [.bad, .bad, .bad, .bad, .bad, .bad, .gref 0 v m 1]++Zaf 18 .bad++ [.d (.sl 1 ps), .d (i64 n), .d (i64 i)]++Zaf 8 .bad
def bds:Nat→List AV→List AV|0,l=>l|n+1,l=>Zba::bds n l
theorem r61 (p:List (List Dv)) (c:Int):wpc prog ⟨[], [],wl,y,false⟩ 100 lp61 (tm61 p c) [] b (maskK 0 [0,1] K)=(BIf (decide (((Zab p:Nat):Int)>(0:Int))) (∃(x0:Int),p[0]? =some [u8 x0]∧BIf (x0==c) (BIf (true&&decide ((0:Int)≤(1:Int)∧(1:Int)≤((Zab p:Nat):Int)∧((Zab p:Nat):Int)≤((Zab p:Nat):Int)∧((Zab p:Nat):Int)≤((Zab p:Nat):Int))) (K .normal (Zae (Zam 1 (List.take (Zat ((Zab p:Nat):Int) - Zat (1:Int)) (List.drop (Zat (1:Int)) p)))::Zae (u8 c)::bds 19 []) [] b) False) (K (Exit.exit 0) (Zae (Zam 1 p)::Zae (u8 c)::bds 19 []) [] b)) (K (Exit.exit 0) (Zae (Zam 1 p)::Zae (u8 c)::bds 19 []) [] b)):=by kernel_rfl
theorem r62 (p:List (List Dv)) (c:Int):wpc prog ⟨[], [],wl,y,false⟩ 100 lp62 (tm62 p c) [] b (maskK 0 [0,1] K)=(BIf (decide (((Zab p:Nat):Int)>(0:Int))) (BIf (true&&decide ((0:Int)≤Zac .i64 (((Zab p:Nat):Int) - (1:Int)))) (∃(x0:Int),p[Zat (Zac .i64 (((Zab p:Nat):Int) - (1:Int)))]? =some [u8 x0]∧BIf (x0==c) (BIf (true&&decide ((0:Int)≤(0:Int)∧(0:Int)≤Zac .i64 (((Zab p:Nat):Int) - (1:Int))∧Zac .i64 (((Zab p:Nat):Int) - (1:Int))≤((Zab p:Nat):Int)∧((Zab p:Nat):Int)≤((Zab p:Nat):Int))) (K .normal (Zae (Zam 1 (List.take (Zat (Zac .i64 (((Zab p:Nat):Int) - (1:Int))) - Zat (0:Int)) (List.drop (Zat (0:Int)) p)))::Zae (u8 c)::bds 22 []) [] b) False) (K (Exit.exit 0) (Zae (Zam 1 p)::Zae (u8 c)::bds 22 []) [] b)) False) (K (Exit.exit 0) (Zae (Zam 1 p)::Zae (u8 c)::bds 22 []) [] b)):=by kernel_rfl
theorem r38a (ps:List (List Dv)) (s n i:Int):wpc prog ⟨[], [],wl,y,false⟩ 100 lp38a (tm38a ps s n i) [] b (maskK 0 [0,3,9,10,11] K)=(BIf (decide (i<n)) (BIf (true&&decide (0≤i)) (∃(xs0:List (List Dv)),ps[Zat i]? =some [Zam 1 xs0]∧BIf (decide (Zac .i64 (s+((Zab xs0:Nat):Int))<(0:Int))) False (K .normal (Zae (Zam 1 ps)::Zba::Zba::Zae (i64 (Zac .i64 (s+((Zab xs0:Nat):Int))))::bds 5 (Zae (Zam 1 ps)::Zae (i64 n)::Zae (i64 (Zac .i64 (i+1)))::bds 24 [])) [] b)) False) (K (Exit.exit 0) (Zae (Zam 1 ps)::Zba::Zba::Zae (i64 s)::bds 5 (Zae (Zam 1 ps)::Zae (i64 n)::Zae (i64 i)::bds 24 [])) [] b)):=by kernel_rfl
theorem r38b (ps:List (List Dv)) (cs:List AV) (v m:Nat) (n i:Int):wpc prog ⟨[],GByte,wl,y,false⟩ 100 lp38b (tm38b ps v m n i) [blkG cs v] b (maskT [6,25,26,27] K)=(BIf (decide (i<n)) (BIf (true&&decide (0≤i)) (∃(xs0:List (List Dv)),ps[Zat i]? =some [Zam 1 xs0]∧v=v∧BIf (decide ((m+Zab xs0)*1≤140737488355328)) (K .normal (bds 6 (AV.gref 0 (v+1) (m+Zab xs0) 1::bds 18 (Zae (Zam 1 ps)::Zae (i64 n)::Zae (i64 (Zac .i64 (i+1)))::bds 8 []))) [Blk.mk (cs++flatA xs0) false true (v+1)] b) False) False) (K (Exit.exit 2) (bds 6 (AV.gref 0 v m 1::bds 18 (Zae (Zam 1 ps)::Zae (i64 n)::Zae (i64 i)::bds 8 []))) [Blk.mk cs false true v] b)):=by kernel_rfl
abbrev Qz27:List AV:= [Zae (Zdy (.slice none 0 0)),Zae (i64 1)]
theorem BOf9 (xs:List (List Dv)):wpFn prog ⟨TSp, [],wlSp,y,false⟩ 100 f27 [.d (.sl 1 xs)] b R=(∃(n0:Int) (z1:Bool), [Zae (i64 ((Zab xs:Nat):Int))]= [Zae (i64 n0)]∧z1=ADd9 n0∧BIf (!z1) (R (.tup Qz27) b) (∃(xs2:List (List Dv)), [Zae (Zam 1 xs),Zae (i64 256)]= [Zae (Zam 1 xs2),Zae (i64 256)]∧∃(p3:List Int) (q4:List (List Int)),rfSp=rfSp∧(bds 4 (Zbe 0 0::bds 7 (AV.fn (Fn.func 147) [] [Zcj [Zam 1 xs2],Zcj [i64 256]]::bds 10 [])))=(bds 4 (Zbe 0 0::bds 7 (AV.fn (Fn.func 147) [] [Zcj [Zam 1 (AAb9 p3)],Zcj [i64 256]]::bds 10 [])))∧ [Blk.mk [Zae (Zdy (.slice none 0 0))] false false 0]= [Blk.mk [Zae (Zdy (.slice none 0 0))] false false 0]∧(Zab p3≤1000000∧q4=ABn9 p3)∧R (.tup [Zae (Zam 1 (AAc9 q4)),Zae (i64 0)]) b)):=by kernel_rfl
theorem BLu9 (p:List Int) (hl:p.length≤9223372036854775807):PCall prog 27 [.d (.sl 1 (AAb9 p))] (if ADd9 p.length then .tup [.d (.sl 1 (AAc9 (ABn9 p))), .d (i64 0)] else .tup [.d (.sl 1 []), .d (i64 1)]):=by
 refine PCall.ofFnV (n:=100) (u:=false) (fun _=>wlSp) mixed CCz9 Zad (fun Ev=>BTa9) func27 (by rfl) (by rfl) fun Ev bb=> ?_;rw [BOf9,AAf9];refine ⟨_,_,rfl,rfl,Zau (fun h=> ?_) fun h=>⟨_,rfl,p,_,rfl,rfl,rfl,⟨?_,rfl⟩, ?_⟩⟩
 ·rw [if_neg (by simpa using h)];exact LeV.tups (.cons (.nil rfl) (.cons .rfl .nil))
 ·simp [ADd9] at h;omega
 ·rw [if_pos (by simpa using h)];exact .rfl
def BXa9 (args:List AV) (K:AV→Prop):Prop:=∃(p:List Int),args= [.d (.sl 1 (AAb9 p))]∧p.length≤9223372036854775807∧∃(z:Bool) (q:List (List Int)),z=ADd9 p.length∧q=ABn9 p∧
 BIf z (K (.tup [.d (.sl 1 (AAc9 q)), .d (i64 0)])) (K (.tup [.d (.sl 1 []), .d (i64 1)]))
theorem BKc9:∀args K,BXa9 args K→∃x,PCall prog 27 args x∧K x:=by
 rintro _ K ⟨p,rfl,hl,z,q,hz,rfl,h⟩;refine ⟨_,BLu9 p hl, ?_⟩;rw [←hz];cases z<;>exact h
def trimR (c:Int) (p:List Int):List Int:=(p.reverse.dropWhile (· ==c)).reverse
theorem BGx9 (c a:Int) (l:List Int):trimR c (l++ [a])=if (a==c)=true then trimR c l else l++ [a]:=by
 simp only [trimR,List.reverse_append,List.reverse_cons,List.reverse_nil,List.nil_append,List.singleton_append,Zcz];split<;>simp
theorem wr61 {Ev:Env prog} {b:Ev.β} {Q:Exit→St Ev.β→Prop} (c:Int):∀(p:List Int),p.length≤9223372036854775807→Q (.exit 0) ⟨tm61 (AAb9 (p.dropWhile (· ==c))) c, [],b⟩→WR Ev lp61 (p.length+1) ⟨tm61 (AAb9 p) c, [],b⟩ Q
 | [],hl,h=>by
  refine WR.ofMask [0,1] mixed (CX.Ok.of (u:=false) Zai Zad) (k:=100) ?_;show wpc _ _ _ _ _ _ _ (maskK 0 _ _);rw [r61];exact Zdb (by simp [AAf9]) h
 | a::p,hl,h=>by
  refine WR.ofMask [0,1] mixed (CX.Ok.of (u:=false) Zai Zad) (k:=100) ?_;show wpc _ _ _ _ _ _ _ (maskK 0 _ _);rw [r61,AAf9];refine Zbr (by simp<;>omega) ⟨a,rfl,Zau (fun g=>Zbr (by simp<;>omega) ?_) fun g=> ?_⟩
  ·rw [Zcz,if_pos g] at h;have e:List.take (Zat ((a::p).length:Int) - Zat 1) (List.drop (Zat 1) (AAb9 (a::p)))=AAb9 p:=by
    rw [show Zat 1=1 from rfl,show (AAb9 (a::p)).drop 1=AAb9 p from rfl];exact List.take_of_length_le (by rw [AAf9];simp)
   rw [e];exact wr61 c p (by simp at hl<;>omega) h
  ·rw [Zcz,if_neg (by rw [g];simp)] at h;exact h
theorem wr62 {Ev:Env prog} {b:Ev.β} {Q:Exit→St Ev.β→Prop} (c:Int):∀(n:Nat) (p:List Int),p.length≤n→n≤9223372036854775807→Q (.exit 0) ⟨tm62 (AAb9 (trimR c p)) c, [],b⟩→WR Ev lp62 (n+1) ⟨tm62 (AAb9 p) c, [],b⟩ Q
 | n,p,hn,hl,h=>by
  refine WR.ofMask [0,1] mixed (CX.Ok.of (u:=false) Zai Zad) (k:=100) ?_;show wpc _ _ _ _ _ _ _ (maskK 0 _ _);rw [r62,AAf9];rcases List.eq_nil_or_concat p with rfl|⟨l,a,rfl⟩
  ·exact Zdb (by simp) h
  ·rw [List.concat_eq_append] at*;rw [BGx9] at h;have e0:Zac Zax (((l++ [a]).length:Int) - 1)=l.length:=by
    rw [AAt9 (by simp<;>omega) (by simp at hn ⊢<;>omega)];simp
   rw [e0,Zbn];refine Zbr (by simp<;>omega) (Zbr (by simp) ⟨a,by simp [AAb9],Zau (fun g=>Zbr (by simp<;>omega) ?_) fun g=> ?_⟩)
   ·rw [if_pos g] at h;have e:List.take (l.length - Zat 0) (List.drop (Zat 0) (AAb9 (l++ [a])))=AAb9 l:=by
     rw [show Zat 0=0 from rfl,List.drop_zero,Nat.sub_zero,AFu9,List.take_left'];rfl
    rw [e];cases n with
    |zero=>simp at hn
    |succ n=>exact wr62 c n l (by simp at hn<;>omega) (by omega) h
   ·rw [if_neg (by rw [g];simp)] at h;exact h
def wl61 {β:Type}:WLT β:=fun c tm hp b K=>∃(p:List Int) (x:Int) (z:List Int),c= .loop lp61∧ABo9 [0,1] 0 tm=tm61 (AAb9 p) x∧hp= []∧(p.length≤9223372036854775807∧z=p.dropWhile (· ==x))∧K (.exit 0) (tm61 (AAb9 z) x) [] b
theorem BTm9 {Ev:Env prog} (c:Code) (tm:List AV) (hp:List Blk) (b:Ev.β) (K:Exit→List AV→List Blk→Ev.β→Prop) (h:wl61 c tm hp b K):W Ev c ⟨tm,hp,b⟩ (fun e s=>K e s.tm s.hp s.b):=by
 obtain ⟨p,x,z,rfl,htm,rfl,⟨hl,rfl⟩,hK⟩:=h;refine W.cast (htm▸AAg9 _ tm 0) (Zcx _) ?_;exact W.rounds (wr61 (Q:=fun e s=>K e s.tm s.hp s.b) x p hl hK)
def wl62 {β:Type}:WLT β:=fun c tm hp b K=>∃(p:List Int) (x:Int) (z:List Int),c= .loop lp62∧ABo9 [0,1] 0 tm=tm62 (AAb9 p) x∧hp= []∧(p.length≤9223372036854775807∧z=trimR x p)∧K (.exit 0) (tm62 (AAb9 z) x) [] b
theorem BTl9 {Ev:Env prog} (c:Code) (tm:List AV) (hp:List Blk) (b:Ev.β) (K:Exit→List AV→List Blk→Ev.β→Prop) (h:wl62 c tm hp b K):W Ev c ⟨tm,hp,b⟩ (fun e s=>K e s.tm s.hp s.b):=by
 obtain ⟨p,x,z,rfl,htm,rfl,⟨hl,rfl⟩,hK⟩:=h;refine W.cast (htm▸AAg9 _ tm 0) (Zcx _) ?_;exact W.rounds (wr62 (Q:=fun e s=>K e s.tm s.hp s.b) x p.length p (Zas _) hl hK)
def strZ:ByteArray:=⟨#[0]⟩
theorem CBl9 (p:List (List Dv)) (x:Int):wpFn prog ⟨[], [],wl61,y,false⟩ 100 f197 [.d (.sl 1 p), .d (u8 x)] b R=(∃(p0:List Int) (x1:Int) (z2:List Int),Zbq lp61=Zbq lp61∧(Zae (Zam 1 p)::Zae (u8 x)::bds 19 [])=(Zae (Zam 1 (AAb9 p0))::Zae (u8 x1)::bds 19 [])∧([]:List Blk)= []∧(Zab p0≤9223372036854775807∧z2=List.dropWhile (fun (x3:Int)=>x3==x1) p0)∧BIf (((Zab (AAb9 z2):Nat):Int)==(0:Int)) (R (.d (Zdy (.slice none 0 0))) b) (R (.d (Zam 1 (AAb9 z2))) b)):=by kernel_rfl
theorem CBk9 (p:List (List Dv)) (x:Int):wpFn prog ⟨[], [],wl62,y,false⟩ 100 f198 [.d (.sl 1 p), .d (u8 x)] b R=(∃(p0:List Int) (x1:Int) (z2:List Int),Zbq lp62=Zbq lp62∧(Zae (Zam 1 p)::Zae (u8 x)::bds 22 [])=(Zae (Zam 1 (AAb9 p0))::Zae (u8 x1)::bds 22 [])∧([]:List Blk)= []∧(Zab p0≤9223372036854775807∧z2=trimR x1 p0)∧R (.d (Zam 1 (AAb9 z2))) b):=by kernel_rfl
theorem pcTl (p:List Int) (x:Int) (hl:p.length≤9223372036854775807):PCall prog 197 [.d (.sl 1 (AAb9 p)), .d (u8 x)] (.d (.sl 1 (AAb9 (p.dropWhile (· ==x))))):=by
 refine PCall.ofFnV (n:=100) (u:=false) (fun _=>wl61) mixed Zai Zad (fun Ev=>BTm9) func197 (by rfl) (by rfl) fun Ev bb=> ?_;rw [CBl9];refine ⟨p,x,_,rfl,rfl,rfl,⟨hl,rfl⟩,Zau (fun h=> ?_) fun h=> .rfl⟩;have e:p.dropWhile (· ==x)= []:=by
  have:(p.dropWhile (· ==x)).length=0:=by simpa [AAf9] using h
  exact List.length_eq_zero_iff.1 this
 rw [e];exact .nil rfl
theorem pcTr (p:List Int) (x:Int) (hl:p.length≤9223372036854775807):PCall prog 198 [.d (.sl 1 (AAb9 p)), .d (u8 x)] (.d (.sl 1 (AAb9 (trimR x p)))):=by
 refine PCall.ofFnV (n:=100) (u:=false) (fun _=>wl62) mixed Zai Zad (fun Ev=>BTl9) func198 (by rfl) (by rfl) fun Ev bb=> ?_;rw [CBk9];exact ⟨p,x,_,rfl,rfl,rfl,⟨hl,rfl⟩, .rfl⟩
def cTl (args:List AV) (K:AV→Prop):Prop:=∃(p:List Int) (x:Int) (z:List Int),args= [.d (.sl 1 (AAb9 p)), .d (u8 x)]∧(p.length≤9223372036854775807∧z=p.dropWhile (· ==x))∧K (.d (.sl 1 (AAb9 z)))
theorem CCh9:∀args K,cTl args K→∃x,PCall prog 197 args x∧K x:=by
 rintro _ K ⟨p,x,_,rfl,⟨hl,rfl⟩,h⟩;exact ⟨_,pcTl p x hl,h⟩
def cTr (args:List AV) (K:AV→Prop):Prop:=∃(p:List Int) (x:Int) (z:List Int),args= [.d (.sl 1 (AAb9 p)), .d (u8 x)]∧(p.length≤9223372036854775807∧z=trimR x p)∧K (.d (.sl 1 (AAb9 z)))
theorem CCg9:∀args K,cTr args K→∃x,PCall prog 198 args x∧K x:=by
 rintro _ K ⟨p,x,_,rfl,⟨hl,rfl⟩,h⟩;exact ⟨_,pcTr p x hl,h⟩
def TTrim:List (Nat×(List AV→(AV→Prop)→Prop)):= [(197,cTl),(198,cTr)]
theorem BSm9:AAk9 prog TTrim:=Zag CCh9 (Zag CCg9 Zai)
theorem BUa9 (p:List (List Dv)):wpFn prog ⟨TTrim, [],wl,y,false⟩ 100 f150 [.d (.sl 1 p), .d (.s (.string strZ))] b R=(BIf (((Zab p:Nat):Int)==(0:Int)) (R (.d (Zdy (.slice none 0 0))) b) (∃(c0:UInt8),strZ[0]? =some c0∧BIf (decide (((Zef c0:Nat):Int)<(128:Int))) (∃(c3:UInt8),strZ[0]? =some c3∧∃(p6:List Int) (x7:Int) (z8:List Int), [Zae (Zam 1 p),Zae (u8 ((Zef c3:Nat):Int))]= [Zae (Zam 1 (AAb9 p6)),Zae (u8 x7)]∧(Zab p6≤9223372036854775807∧z8=trimR x7 p6)∧∃(c9:UInt8),strZ[0]? =some c9∧∃(p12:List Int) (x13:Int) (z14:List Int), [Zae (Zam 1 (AAb9 z8)),Zae (u8 ((Zef c9:Nat):Int))]= [Zae (Zam 1 (AAb9 p12)),Zae (u8 x13)]∧(Zab p12≤9223372036854775807∧z14=List.dropWhile (fun (x15:Int)=>x15==x13) p12)∧R (.d (Zam 1 (AAb9 z14))) b) False)):=by kernel_rfl
theorem BOb9 (x:Int) (p:List Int):(trimR x p).length≤p.length:=by
 simp only [trimR,List.length_reverse];exact Zch (List.Sublist.length_le (Zei _)) (by rw [List.length_reverse];exact Zas _)
def trimS (p:List Int):List Int:=(trimR 0 p).dropWhile (· ==0)
theorem BZa9 (p:List Int) (hl:p.length≤9223372036854775807):PCall prog 150 [.d (.sl 1 (AAb9 p)), .d (.s (.string strZ))] (.d (.sl 1 (AAb9 (trimS p)))):=by
 refine PCall.ofFnV (n:=100) (u:=false) (fun _=>wlNo _) mixed BSm9 Zad (fun Ev=>AHo9 Ev) func150 (by rfl) (by rfl) fun Ev bb=> ?_;rw [BUa9,AAf9];refine Zau (fun h=> ?_) fun h=>⟨0,rfl,Zbr (by decide) ⟨0,rfl,p,0,_,rfl,⟨hl,rfl⟩,0,rfl,trimR 0 p,0,_,rfl,⟨Zch (BOb9 0 p) hl,rfl⟩, .rfl⟩⟩;have:p= []:=by
  have:p.length=0:=by simpa using h
  exact List.length_eq_zero_iff.1 this
 subst this;exact .nil rfl
def cTrim (args:List AV) (K:AV→Prop):Prop:=∃(p z:List Int),args= [.d (.sl 1 (AAb9 p)), .d (.s (.string strZ))]∧(p.length≤9223372036854775807∧z=trimS p)∧K (.d (.sl 1 (AAb9 z)))
theorem BRi9:∀args K,cTrim args K→∃x,PCall prog 150 args x∧K x:=by
 rintro _ K ⟨p,_,rfl,⟨hl,rfl⟩,h⟩;exact ⟨_,BZa9 p hl,h⟩
theorem BWi9 (n:Int):wpFnS prog ⟨[],GByte,wl,y,false⟩ 100 f196 [nilV, .d (i64 n)] b RS=(BIf (decide (n<(0:Int))) False (BIf (decide (Zac .i64 (n - 0)>(0:Int))) (BIf (true&&decide ((0:Int)<Zac .i64 (n - 0))&&decide (Zac .i64 (n - 0)*(1:Int)≤(281474976710656:Int))&&decide (Zac .i64 (n - 0)≤(9223372036854775807:Int))&&true&&true&&true&&true) (0=0∧RS (AV.gref 0 1 0 1) [Blk.mk [] false true 1] b) False) (RS (Zae (Zdy (.slice none 0 0))) [] b))):=by kernel_rfl
theorem CBb9 (n:Int) (h0:0<n) (hn:n≤1000000):FCall prog 196 [nilV, .d (i64 n)] (.gref 0 1 0 1) [blkG [] 1]:=by
 refine FCall.ofFnW (n:=100) (u:=false) (fun _=>wlNo _) mixed Zai ANj9 (fun Ev=>AHo9 Ev) func196 (by rfl) (by rfl) (by rfl) fun Ev bb=> ?_;rw [BWi9];have e:Zac Zax (n - 0)=n:=by rw [AAt9 (by omega) (by omega)];omega
 rw [e];refine Zdb (by simp<;>omega) (Zbr (by simp<;>omega) (Zbr ?_ ⟨rfl,rfl,rfl⟩));simp only [Bool.and_true,Bool.true_and,Zal,decide_eq_true_eq];omega
def sGrow (args:List AV) (hp:List Blk) (K:AV→List Blk→Prop):Prop:=∃(n:Int),args= [nilV, .d (i64 n)]∧(0<n∧n≤1000000)∧K (.gref hp.length 1 0 1) (hp++ [blkG [] 1])
theorem BOs9:∀args hp K,sGrow args hp K→∃x hp',SCall prog 196 args hp x hp'∧K x hp':=by
 rintro _ hp K ⟨n,rfl,⟨h0,hn⟩,h⟩;exact ⟨_,_,(CBb9 n h0 hn).toS rfl hp,by simpa [shift,AKk9,AJn9,AUh9,blkG] using h⟩
def SCc:List (Nat×(List AV→List Blk→(AV→List Blk→Prop)→Prop)):= [(196,sGrow),(1000000+5,fun _ _ _=>False)]
theorem CDq9:AAn9 prog SCc:=Zcr BOs9 ANj9
def sumL (ps:List (List Int)):Nat:=ps.flatten.length
theorem wr38a {Ev:Env prog} {b:Ev.β} {Q:Exit→St Ev.β→Prop} (ps:List (List Int)) (hl:ps.length≤1000000):∀(rest:List (List Int)) (k s:Nat),ps.drop k=rest→k≤ps.length→s+sumL rest≤1000000→
 (∀i:Int,Q (.exit 0) ⟨tm38a (AAc9 ps) ((s+sumL rest:Nat):Int) ps.length i, [],b⟩)→WR Ev lp38a (rest.length+1) ⟨tm38a (AAc9 ps) s ps.length k, [],b⟩ Q
 | [],k,s,hd,hk,hs,h=>by
  refine WR.ofMask [0,3,9,10,11] mixed (CX.Ok.of (u:=false) Zai Zad) (k:=100) ?_;show wpc _ _ _ _ _ _ _ (maskK 0 _ _);rw [r38a];have:=ADw9 hd;exact Zdb (by simp<;>omega) (h _)
 | p::rest,k,s,hd,hk,hs,h=>by
  refine WR.ofMask [0,3,9,10,11] mixed (CX.Ok.of (u:=false) Zai Zad) (k:=100) ?_;show wpc _ _ _ _ _ _ _ (maskK 0 _ _);rw [r38a];obtain ⟨hk',hr,hd'⟩:=ABr9 hd;have hsum:sumL (p::rest)=p.length+sumL rest:=by simp [sumL]
  rw [hsum] at hs h;have e:Zac Zax ((s:Int)+((AAb9 p).length:Int))=((s+p.length:Nat):Int):=by rw [AAf9,AAt9 (by omega) (by omega)];omega
  refine Zbr (by simp<;>omega) (Zbr (by simp) ⟨AAb9 p,by simp [AAc9,hr], ?_⟩);rw [e,ACt9 hk' (by omega)];refine Zdb (by simp<;>omega) (wr38a ps hl rest (k+1) (s+p.length) hd' hk' (by omega) ?_);rw [Nat.add_assoc];exact h
theorem wr38b {Ev:Env prog} {b:Ev.β} {Q:Exit→St Ev.β→Prop} (ps:List (List Int)) (hl:ps.length≤1000000):∀(rest:List (List Int)) (k v:Nat) (acc:List Int),ps.drop k=rest→k≤ps.length→acc.length+sumL rest≤1000000→
 (∀(i:Int),Q (.exit 2) ⟨tm38b (AAc9 ps) (v+rest.length) (acc++rest.flatten).length ps.length i, [blkG (flatA (AAb9 (acc++rest.flatten))) (v+rest.length)],b⟩)→
 WR Ev lp38b (rest.length+1) ⟨tm38b (AAc9 ps) v acc.length ps.length k, [blkG (flatA (AAb9 acc)) v],b⟩ Q
 | [],k,v,acc,hd,hk,hs,h=>by
  refine WR.ofMaskT [6,25,26,27] mixed (CX.Ok.of (u:=false) Zai ANj9) (k:=100) ?_;rw [r38b];have:=ADw9 hd;simp only [List.flatten_nil,List.append_nil] at h;exact Zdb (by simp<;>omega) (h _)
 | p::rest,k,v,acc,hd,hk,hs,h=>by
  refine WR.ofMaskT [6,25,26,27] mixed (CX.Ok.of (u:=false) Zai ANj9) (k:=100) ?_;rw [r38b];obtain ⟨hk',hr,hd'⟩:=ABr9 hd;have hsum:sumL (p::rest)=p.length+sumL rest:=by simp [sumL]
  rw [hsum] at hs;refine Zbr (by simp<;>omega) (Zbr (by simp) ⟨AAb9 p,by simp [AAc9,hr],rfl,Zbr (by rw [AAf9];simp<;>omega) ?_⟩);rw [ACt9 hk' (by omega),AAf9];have e:flatA (AAb9 acc)++flatA (AAb9 p)=flatA (AAb9 (acc++p)):=by rw [ADv9,ADv9,ADv9,List.map_append]
  rw [e,←List.length_append];refine wr38b ps hl rest (k+1) (v+1) (acc++p) hd' hk' (by rw [List.length_append];omega) fun i=> ?_;have h1:=h i;rw [List.flatten_cons,←List.append_assoc,List.length_cons,show v+(rest.length+1)=v+1+rest.length by omega] at h1;exact h1
def wl38 {β:Type}:WLT β:=fun c tm hp b K=>match cidO c with
 |4=>∃(ps:List (List Int)) (z:Nat),c= .loop lp38a∧ABo9 [0,3,9,10,11] 0 tm=tm38a (AAc9 ps) 0 (AAc9 ps).length 0∧hp= []∧((ps.length≤1000000∧sumL ps≤1000000)∧z=sumL ps)∧∀i:Int,K (.exit 0) (tm38a (AAc9 ps) z (AAc9 ps).length i) [] b
 |12=>∃(ps:List (List Int)) (v z m:Nat) (q:List Int),c= .loop lp38b∧ABo9 [6,25,26,27] 0 tm=tm38b (AAc9 ps) v 0 (AAc9 ps).length 0∧hp= [blkG [] v]∧((ps.length≤1000000∧sumL ps≤1000000)∧z=v+ps.length∧q=ps.flatten∧m=q.length)∧∀i:Int,K (.exit 2) (tm38b (AAc9 ps) z m (AAc9 ps).length i) [blkG (flatA (AAb9 q)) z] b
 |_=>False
theorem BTq9 {Ev:Env prog} (c:Code) (tm:List AV) (hp:List Blk) (b:Ev.β) (K:Exit→List AV→List Blk→Ev.β→Prop) (h:wl38 c tm hp b K):W Ev c ⟨tm,hp,b⟩ (fun e s=>K e s.tm s.hp s.b):=by
 unfold wl38 at h;split at h
 ·obtain ⟨ps,z,rfl,htm,rfl,⟨⟨hl,hs⟩,rfl⟩,hK⟩:=h;rw [AAe9] at htm hK;refine W.cast (htm▸AAg9 _ tm 0) (Zcx _) ?_;exact W.rounds (wr38a (Q:=fun e s=>K e s.tm s.hp s.b) ps hl ps 0 0 rfl (Nat.zero_le _) (by omega) (by simpa using hK))
 ·obtain ⟨ps,v,z,m,q,rfl,htm,rfl,⟨⟨hl,hs⟩,rfl,rfl,rfl⟩,hK⟩:=h;rw [AAe9] at htm hK;refine W.cast (htm▸AAg9 _ tm 0) (Zcx _) ?_;exact W.rounds (wr38b (Q:=fun e s=>K e s.tm s.hp s.b) ps hl ps 0 v [] rfl (Nat.zero_le _) (by simpa using hs) (by simpa using hK))
 ·exact h.elim
abbrev Qz33 (v0:List (List Int)):=Zae (Zam 1 (AAc9 v0))::Zae (i64 ((Zab (AAc9 v0):Nat):Int))::Zae (i64 0)::bds 8 []
theorem BJr9 (ps:List (List Dv)):wpFn prog ⟨[],SCc,wl38,y,false⟩ 100 f149 [.d (.sl 1 ps)] b R=(∃(ps0:List (List Int)) (z1:Nat),Zbq lp38a=Zbq lp38a∧(Zae (Zam 1 ps)::Zba::Zba::Zae (i64 0)::bds 5 (Zae (Zam 1 ps)::Zae (i64 ((Zab ps:Nat):Int))::Zae (i64 0)::bds 24 []))=(Zae (Zam 1 (AAc9 ps0))::Zba::Zba::Zae (i64 0)::bds 5 (Zae (Zam 1 (AAc9 ps0))::Zae (i64 ((Zab (AAc9 ps0):Nat):Int))::Zae (i64 0)::bds 24 []))∧([]:List Blk)= []∧((Zab ps0≤1000000∧sumL ps0≤1000000)∧z1=sumL ps0)∧∀(i:Int),∃(n2:Int), [Zae (Zdy (.slice none 0 0)),Zae (i64 (z1:Int))]= [Zae (Zdy (.slice none 0 0)),Zae (i64 n2)]∧((0:Int)<n2∧n2≤(1000000:Int))∧∃(ps3:List (List Int)) (v4:Nat) (z5:Nat) (m6:Nat) (q7:List Int),Zbq lp38b=Zbq lp38b∧(bds 6 (AV.gref 0 1 0 1::bds 18 (Qz33 ps0)))=(bds 6 (AV.gref 0 v4 0 1::bds 18 (Qz33 ps3)))∧ [Blk.mk [] false true 1]= [Blk.mk [] false true v4]∧((Zab ps3≤1000000∧sumL ps3≤1000000)∧z5=v4+Zab ps3∧q7=List.flatten ps3∧m6=Zab q7)∧∀(i:Int),z5=z5∧∃(xs8:List (List Dv)),flatA (AAb9 q7)=flatA xs8∧Zab xs8=m6∧(∀(r:List Dv),r∈xs8→Zab r=1)∧R (.d (Zam 1 xs8)) b):=by kernel_rfl
theorem BPv9 (ps:List (List Int)) (hl:ps.length≤1000000) (h0:0<sumL ps) (hs:sumL ps≤1000000):PCall prog 149 [.d (.sl 1 (AAc9 ps))] (.d (.sl 1 (AAb9 ps.flatten))):=by
 refine PCall.ofFnW (n:=100) (u:=false) (fun _=>wl38) mixed Zai CDq9 (fun Ev=>BTq9) func149 (by rfl) (by rfl) fun Ev bb=> ?_;rw [BJr9];refine ⟨ps,_,rfl,rfl,rfl,⟨⟨hl,hs⟩,rfl⟩,fun _=>⟨_,rfl,by omega,ps,1,_,_,_,rfl,rfl,rfl,⟨⟨hl,hs⟩,rfl,rfl,rfl⟩,fun _=>⟨rfl,AAb9 ps.flatten,rfl,by rw [AAf9],fun r hr=> ?_,rfl⟩⟩⟩;simp only [AAb9,Zbd] at hr;obtain ⟨_,_,rfl⟩:=hr;rfl
def BMu9 (args:List AV) (K:AV→Prop):Prop:=∃(ps:List (List Int)) (z:List Int),args= [.d (.sl 1 (AAc9 ps))]∧((ps.length≤1000000∧0<sumL ps∧sumL ps≤1000000)∧z=ps.flatten)∧K (.d (.sl 1 (AAb9 z)))
theorem BFx9:∀args K,BMu9 args K→∃x,PCall prog 149 args x∧K x:=by
 rintro _ K ⟨ps,_,rfl,⟨⟨h1,h2,h3⟩,rfl⟩,h⟩;exact ⟨_,BPv9 ps h1 h2 h3,h⟩
def TJn:List (Nat×(List AV→(AV→Prop)→Prop)):= [(85,BKd9),(125,BFw9),(148,BRs9),(149,BMu9),(150,cTrim)]
theorem CDf9:AAk9 prog TJn:=Zag AQj9 (Zag ALa9 (Zag AXy9 (Zag BFx9 (Zag BRi9 Zai))))
theorem BWd9 (ps:List (List Dv)) (n:Int):wpFn prog ⟨TJn, [],wl,y,false⟩ 100 f89 [.d (.sl 1 ps), .d (i64 n)] b R=(∃(n0:Int) (z1:Bool), [Zae (i64 n)]= [Zae (i64 n0)]∧z1=ADd9 n0∧BIf (!z1) (R (.tup Qz27) b) (∃(n2:Int) (z3:Int), [Zae (i64 n)]= [Zae (i64 n2)]∧z3=ABl9 n2∧BIf (((Zab ps:Nat):Int) !=z3) (R (.tup Qz27) b) (∃(ps4:List (List Int)) (z5:Bool), [Zae (Zam 1 ps)]= [Zae (Zam 1 (AAc9 ps4))]∧(Zab ps4≤9223372036854775807∧z5= !ABf9 ps4)∧BIf (!z5) (R (.tup Qz27) b) (∃(ps6:List (List Int)) (z7:List Int), [Zae (Zam 1 ps)]= [Zae (Zam 1 (AAc9 ps6))]∧((Zab ps6≤1000000∧0<sumL ps6∧sumL ps6≤1000000)∧z7=List.flatten ps6)∧BIf (true&&decide ((0:Int)≤n∧n≤((Zab (AAb9 z7):Nat):Int)∧((Zab (AAb9 z7):Nat):Int)≤((Zab (AAb9 z7):Nat):Int)∧((Zab (AAb9 z7):Nat):Int)≤((Zab (AAb9 z7):Nat):Int))) (∃(p8:List Int) (z9:List Int), [Zae (Zam 1 (List.take (Zat ((Zab (AAb9 z7):Nat):Int) - Zat n) (List.drop (Zat n) (AAb9 z7)))),Zae (Zdy (Value.string (ByteArray.mk #[(0:UInt8)])))]= [Zae (Zam 1 (AAb9 p8)),Zae (Zdy (Value.string strZ))]∧(Zab p8≤9223372036854775807∧z9=trimS p8)∧BIf (decide (((Zab (AAb9 z9):Nat):Int)>(0:Int))) (R (.tup [Zae (Zdy (.slice none 0 0)),Zae (i64 12)]) b) (BIf (true&&decide ((0:Int)≤(0:Int)∧(0:Int)≤n∧n≤n∧n≤((Zab (AAb9 z7):Nat):Int))) (BIf (true&&Zat n==Zat n) (R (.tup [AV.full 1 (List.take (Zat n - Zat (0:Int)) (List.drop (Zat (0:Int)) (AAb9 z7))),Zae (i64 0)]) b) (R (.tup [Zae (Zam 1 (List.take (Zat n - Zat (0:Int)) (List.drop (Zat (0:Int)) (AAb9 z7)))),Zae (i64 0)]) b)) False)) False)))):=by kernel_rfl
theorem AHk9 {n:Nat} (h:n≤1000000):ABl9 n=(((n+255) / 256:Nat):Int):=by
 unfold ABl9;have e1:Zac Zax ((n:Int)+256)=((n+256:Nat):Int):=by rw [AAt9 (by omega) (by omega)];omega
 have e2:Zac Zax (((n+256:Nat):Int) - 1)=((n+255:Nat):Int):=by rw [AAt9 (by omega) (by omega)];omega
 have e3:Zcn ((n+255:Nat):Int) 256=(((n+255) / 256:Nat):Int):=by
  rw [Zdd (by omega)];rfl
 rw [e1,e2,e3,AAt9 (by omega) (by omega)]
theorem APl9:∀ {ps:List (List Int)},ABf9 ps=false→ps.flatten.length=256*ps.length
 | [],_=>rfl
 | p::ps,h=>by
  simp only [ABf9,List.any_cons,Bool.or_eq_false_iff] at h;have h1:p.length=256:=by have:=h.1;simp at this;omega
  have:=APl9 (ps:=ps) h.2;simp only [List.flatten_cons,List.length_append,List.length_cons];omega
def joinS (ps:List (List Int)) (n:Int):List Int×Int:=
 if (!ADd9 n)||(((ps.length:Int) !=ABl9 n)||ABf9 ps) then ([],1)
 else if 0<(trimS (ps.flatten.drop n.toNat)).length then ([],12) else (ps.flatten.take n.toNat,0)
theorem AGd9 {n:Int} (h:ADd9 n=true):∃k:Nat,n=k∧1≤k∧k≤4096:=by
 simp only [ADd9,Zal,decide_eq_true_eq] at h;exact ⟨n.toNat,by omega,by omega,by omega⟩
theorem BZl9 (ps:List (List Int)) (n:Int) (hl:ps.length≤9223372036854775807):PCall prog 89 [.d (.sl 1 (AAc9 ps)), .d (i64 n)] (.tup [.d (.sl 1 (AAb9 (joinS ps n).1)), .d (i64 (joinS ps n).2)]):=by
 refine PCall.ofFnV (n:=100) (u:=false) (fun _=>wlNo _) mixed CDf9 Zad (fun Ev=>AHo9 Ev) func89 (by rfl) (by rfl) fun Ev bb=> ?_;rw [BWd9,AAe9];have bad:∀z:Int,((!ADd9 n)||(((ps.length:Int) !=ABl9 n)||ABf9 ps))=true→z=1→LeV (AV.tup [Zae (Zdy (Zbo none 0 0)),Zae (i64 z)]) (.tup [.d (.sl 1 (AAb9 (joinS ps n).1)), .d (i64 (joinS ps n).2)]):=by
  intro z h hz;rw [joinS,if_pos h,hz];exact LeV.tups (.cons (.nil rfl) (.cons .rfl .nil))
 refine ⟨n,_,rfl,rfl,Zau (fun g1=>bad 1 (by rw [g1];rfl) rfl) fun g1=>⟨n,_,rfl,rfl,Zau (fun g2=>bad 1 (by rw [g1,g2];rfl) rfl) fun g2=>⟨ps,_,rfl,⟨hl,rfl⟩,Zau (fun g3=>bad 1 (by rw [g1,g2];simpa using g3) rfl) fun g3=> ?_⟩⟩⟩;have hz:ADd9 n=true:=by simpa using g1
 have hc:(ps.length:Int)=ABl9 n:=by simpa using g2
 have ho:ABf9 ps=false:=by simpa using g3
 obtain ⟨k,rfl,hk1,hk2⟩:=AGd9 hz;rw [AHk9 (by omega)] at hc;have hfl:=APl9 ho;have hk3:k≤ps.flatten.length:=by omega
 have hgood:((!ADd9 (k:Int))||(((ps.length:Int) !=ABl9 k)||ABf9 ps))=false:=by rw [g1,g2,ho];rfl
 refine ⟨ps,_,rfl,⟨⟨by omega,by unfold sumL;omega,by unfold sumL;omega⟩,rfl⟩, ?_⟩;rw [AAf9,Zbn,Zbn,AOx9,AFu9];have e1:List.take (ps.flatten.length - k) (List.drop k ps.flatten)=List.drop k ps.flatten:=List.take_of_length_le (by simp);rw [e1];refine Zbr (by simp only [Bool.true_and,decide_eq_true_eq];omega) ⟨_,_,rfl,⟨by rw [List.length_drop];omega,rfl⟩,Zau (fun g4=> ?_) fun g4=>Zbr (by simp only [Bool.true_and,decide_eq_true_eq];omega) (Zbr (by simp) ?_)⟩
 ·rw [AAf9] at g4;rw [joinS,if_neg (by rw [hgood];simp),if_pos (by simpa using g4)];exact LeV.tups (.cons (.nil rfl) (.cons .rfl .nil))
 ·rw [AAf9] at g4;have e2:List.take (k - Zat 0) (List.drop (Zat 0) (AAb9 ps.flatten))=AAb9 (ps.flatten.take k):=by rw [show Zat 0=0 from rfl,List.drop_zero,Nat.sub_zero,AFu9]
  rw [e2,joinS,if_neg (by rw [hgood];simp),if_neg (by simpa using g4),Zbn];exact LeV.tups (.cons .full (.cons .rfl .nil))
def cJoin (args:List AV) (K:AV→Prop):Prop:=∃(ps:List (List Int)) (n:Int) (z:List Int) (e:Int),args= [.d (.sl 1 (AAc9 ps)), .d (i64 n)]∧(ps.length≤9223372036854775807∧(z,e)=joinS ps n)∧K (.tup [.d (.sl 1 (AAb9 z)), .d (i64 e)])
theorem BRv9:∀args K,cJoin args K→∃x,PCall prog 89 args x∧K x:=by
 rintro _ K ⟨ps,n,z,e,rfl,⟨hl,he⟩,h⟩;have h1:=BZl9 ps n hl;rw [←he] at h1;exact ⟨_,h1,h⟩
def TAc:List (Nat×(List AV→(AV→Prop)→Prop)):= [(27,BXa9),(83,ANa9),(84,cRoot)]
theorem CDl9:AAk9 prog TAc:=Zag BKc9 (Zag AKg9 (Zag BRo9 Zai))
abbrev Qz35:List AV:= [Zbj [Zae (i64 0),Zae (i64 0),Zae (u64 0),Zae (i64 0)],Zae (i64 1)]
theorem BAj9 (v t:Int) (p:List (List Dv)):wpFn prog ⟨TAc, [],wl,y,false⟩ 100 f25 [.d (i64 v), .d (.sl 1 p), .d (i64 t)] b R=(∃(p0:List Int), [Zae (Zam 1 p)]= [Zae (Zam 1 (AAb9 p0))]∧Zab p0≤9223372036854775807∧∃(z1:Bool) (q2:List (List Int)),z1=ADd9 ((Zab p0:Nat):Int)∧q2=ABn9 p0∧BIf z1 (∃(a3:Int) (n4:Int) (r5:Int) (t6:Int) (z7:Bool), [Zbj [Zae (i64 v),Zae (i64 ((Zab p:Nat):Int)),Zae (u64 0),Zae (i64 t)]]= [Zbj [Zae (i64 a3),Zae (i64 n4),Zae (u64 r5),Zae (i64 t6)]]∧z7=AAi9 a3 n4 t6∧BIf (!z7) (R (.tup Qz35) b) (∃(ps8:List (List Int)) (z9:Int×Int), [Zae (Zam 1 (AAc9 q2))]= [Zae (Zam 1 (AAc9 ps8))]∧z9=rootS ps8∧R (.tup [Zbj [Zae (i64 v),Zae (i64 ((Zab p:Nat):Int)),Zae (u64 (Prod.fst z9)),Zae (i64 t)],Zae (i64 (Prod.snd z9))]) b)) (R (.tup Qz35) b)):=by kernel_rfl
theorem BJs9 (p:List (List Dv)):wpFn prog ⟨[], [],wl,y,false⟩ 100 f120 [.d (.sl 1 p)] b R=(∀(t:Bool),(t=true→p= [])→BIf t (R (.d (Zdy (.slice none 0 0))) b) (BIf (decide ((0+Zab p)*1≤140737488355328)) (BIf (List.isEmpty p) (R (AV.full 1 []) b) (R (.d (Zam 1 ([]++p))) b)) False)):=by kernel_rfl
theorem BEy9 (p:List (List Dv)):wpFn prog ⟨[], [],wl,y,false⟩ 100 f51 [.d (.sl 1 p)] b R=(∀(t:Bool),(t=true→p= [])→BIf t (R (.d (Zdy (.slice none 0 0))) b) (BIf (decide ((0+Zab p)*8≤140737488355328)) (BIf (List.isEmpty p) (R (AV.full 1 []) b) (R (.d (Zam 1 ([]++p))) b)) False)):=by kernel_rfl
structure NotT where
 v:Int
 n:Int
 r:Int
 t:Int
def annS (v:Int) (p:List Int) (t:Int):NotT×Int:=
 if ADd9 p.length&&AAi9 v p.length t then (⟨v,p.length,(rootS (ABn9 p)).1,t⟩,(rootS (ABn9 p)).2) else (⟨0,0,0,0⟩,1)
def notV (x:NotT):AV:=notA x.v x.n x.r x.t
theorem BDm9 (v t:Int) (p:List Int) (hl:p.length≤9223372036854775807):PCall prog 25 [.d (i64 v), .d (.sl 1 (AAb9 p)), .d (i64 t)] (.tup [notV (annS v p t).1, .d (i64 (annS v p t).2)]):=by
 refine Zbh (n:=100) (u:=false) mixed CDl9 Zad func25 (by rfl) (by rfl) fun Ev bb=> ?_;rw [BAj9];refine ⟨p,rfl,hl,_,_,rfl,rfl,Zau (fun g1=>⟨_,_,_,_,_,rfl,rfl,Zau (fun g2=> ?_) fun g2=>⟨_,_,rfl,rfl, ?_⟩⟩) fun g1=> ?_⟩
 ·rw [AAf9] at g2;have g2:AAi9 v p.length t=false:=by simpa using g2
  rw [annS,g1,g2];rfl
 ·rw [AAf9] at g2 ⊢;have g2:AAi9 v p.length t=true:=by simpa using g2
  rw [annS,g1,g2];rfl
 ·rw [annS,g1];rfl
def AQl9 (args:List AV) (K:AV→Prop):Prop:=∃(v t:Int) (p:List Int) (z:NotT) (e:Int),args= [.d (i64 v), .d (.sl 1 (AAb9 p)), .d (i64 t)]∧(p.length≤9223372036854775807∧(z,e)=annS v p t)∧K (.tup [notV z, .d (i64 e)])
theorem ANb9:∀args K,AQl9 args K→∃x,PCall prog 25 args x∧K x:=by
 rintro _ K ⟨v,t,p,z,e,rfl,⟨hl,he⟩,h⟩;have:=BDm9 v t p hl;rw [←he] at this;exact ⟨_,this,h⟩
def AAh9 (qs:List (List Int)):List (List Dv):=qs.map fun q=> [.sl 1 (digR q)]
def G22:List (Nat×(List AV→List Blk→(AV→List Blk→Prop)→Prop)):= [(1000000+33,fun _ _ _=>False),(1000000+28,fun _ _ _=>False)]
theorem BYi9:AAn9 prog G22:=Zcr (fun _ _ _ h=>h.elim) (Zcr (fun _ _ _ h=>h.elim) Zad)
theorem AZz9 (p:List (List Dv)):wpFnS prog ⟨[],G22,wl,y,false⟩ 100 f127 [.d (.sl 1 p)] b RS=(∀(t:Bool),(t=true→p= [])→BIf t (RS (Zae (Zdy (.slice none 0 0))) [] b) (BIf (true&&decide (Zab p*24≤140737488355328)) (BIf (decide (0<Zab p)) (RS (AV.gref 0 0 (Zab p) 1) [Blk.mk (flatA p) false true 0] b) (RS (AV.full 1 []) [] b)) False)):=by kernel_rfl
theorem AZy9 (p:List (List Dv)):wpFnS prog ⟨[],G22,wl,y,false⟩ 100 f128 [.d (.sl 1 p)] b RS=(∀(t:Bool),(t=true→p= [])→BIf t (RS (Zae (Zdy (.slice none 0 0))) [] b) (BIf (true&&decide (Zab p*24≤140737488355328)) (BIf (decide (0<Zab p)) (RS (AV.gref 0 0 (Zab p) 1) [Blk.mk (flatA p) false true 0] b) (RS (AV.full 1 []) [] b)) False)):=by kernel_rfl
theorem BPw9 (xs:List (List Dv)) (hl:xs.length≤1000000):PCall prog 120 [.d (.sl 1 xs)] (.d (.sl 1 xs)):=by
 refine PCall.ofFnV (n:=100) (u:=false) (fun _=>wlNo _) mixed Zai Zad (fun Ev=>AHo9 Ev) func120 (by rfl) (by rfl) fun Ev bb=> ?_;rw [BJs9];refine fun t ht=>Zau (fun h=>by rw [ht h];exact .nil rfl) fun h=>Zbr (by simp<;>omega) (Zau (fun h=>by rw [List.isEmpty_iff.1 h];exact .full) fun h=> .rfl)
def BFy9 (args:List AV) (K:AV→Prop):Prop:=∃(xs:List (List Dv)),args= [.d (.sl 1 xs)]∧xs.length≤1000000∧K (.d (.sl 1 xs))
theorem ATj9:∀args K,BFy9 args K→∃x,PCall prog 120 args x∧K x:=by
 rintro _ K ⟨xs,rfl,hl,h⟩;exact ⟨_,BPw9 xs hl,h⟩
theorem BId9 (xs:List (List Dv)) (hl:xs.length≤1000000):PCall prog 51 [.d (.sl 1 xs)] (.d (.sl 1 xs)):=by
 refine PCall.ofFnV (n:=100) (u:=false) (fun _=>wlNo _) mixed Zai Zad (fun Ev=>AHo9 Ev) func51 (by rfl) (by rfl) fun Ev bb=> ?_;rw [BEy9];refine fun t ht=>Zau (fun h=>by rw [ht h];exact .nil rfl) fun h=>Zbr (by simp<;>omega) (Zau (fun h=>by rw [List.isEmpty_iff.1 h];exact .full) fun h=> .rfl)
def AMz9 (args:List AV) (K:AV→Prop):Prop:=∃(xs:List (List Dv)),args= [.d (.sl 1 xs)]∧xs.length≤1000000∧K (.d (.sl 1 xs))
theorem AHl9:∀args K,AMz9 args K→∃x,PCall prog 51 args x∧K x:=by
 rintro _ K ⟨xs,rfl,hl,h⟩;exact ⟨_,BId9 xs hl,h⟩
structure SprT where
 no:NotT
 ps:List (List Int)
 qs:List (List Int)
 rows:List (List Dv)
 pf:List Int
 i1:Int
 i2:Int
 i3:Int
 i4:Int
 i5:Int
def spD (s:SprT):List Dv:= [i64 s.no.v,i64 s.no.n,u64 s.no.r,i64 s.no.t, .sl 1 (AAc9 s.ps), .sl 1 (AAh9 s.qs), .sl 2 s.rows, .sl 1 (digR s.pf),i64 s.i1,i64 s.i2,i64 s.i3,i64 s.i4,i64 s.i5]
def spV (s:SprT):AV:= .agg [.d (i64 s.no.v), .d (i64 s.no.n), .d (u64 s.no.r), .d (i64 s.no.t), .d (.sl 1 (AAc9 s.ps)), .d (.sl 1 (AAh9 s.qs)), .d (.sl 2 s.rows), .d (.sl 1 (digR s.pf)), .d (i64 s.i1), .d (i64 s.i2), .d (i64 s.i3), .d (i64 s.i4), .d (i64 s.i5)]
def TSo:List (Nat×(List AV→(AV→Prop)→Prop)):= [(125,BFw9),(177,BXi9)]
theorem CDa9:AAk9 prog TSo:=Zag ALa9 (Zag BKk9 Zai)
noncomputable def lp45:Code:=sub [1,1,0,1,2,3] (code f88)
def tm45 (ps:List (List Dv)) (n i:Int):List AV:= [.bad, .ptr 0 0]++Zaf 40 .bad++ [.d (.sl 1 ps), .d (i64 n), .d (i64 i)]++Zaf 16 .bad
def TSs:List (Nat×(List AV→(AV→Prop)→Prop)):= [(125,BFw9),(83,ANa9),(148,BRs9)]
theorem CCy9:AAk9 prog TSs:=Zag ALa9 (Zag AKg9 (Zag AXy9 Zai))
theorem BIf9:BKy9 prog 127 1:=fun xs hl=>by
 refine Zen (n:=100) (u:=false) (fun _=>wlNo _) mixed Zai BYi9 (fun Ev=>AHo9 Ev) func127 (by rfl) (by rfl) (by split<;>rfl) fun Ev bb=> ?_;rw [AZz9];refine fun t ht=>Zau (fun h=>by rw [ht h];exact ⟨.nilFull rfl,rfl⟩) fun h=>Zbr (by simp<;>omega) ?_;cases xs with
 |nil=>exact Zdb rfl ⟨.rfl,rfl⟩
 |cons a xs=>exact Zbr (by simp) ⟨.rfl,rfl⟩
theorem BIe9:BKy9 prog 128 1:=fun xs hl=>by
 refine Zen (n:=100) (u:=false) (fun _=>wlNo _) mixed Zai BYi9 (fun Ev=>AHo9 Ev) func128 (by rfl) (by rfl) (by split<;>rfl) fun Ev bb=> ?_;rw [AZy9];refine fun t ht=>Zau (fun h=>by rw [ht h];exact ⟨.nilFull rfl,rfl⟩) fun h=>Zbr (by simp<;>omega) ?_;cases xs with
 |nil=>exact Zdb rfl ⟨.rfl,rfl⟩
 |cons a xs=>exact Zbr (by simp) ⟨.rfl,rfl⟩
theorem BHv9 (s:SprT) (i:Int) (p q:List (List Dv)):wpFn prog ⟨TSo, [],wl,y,false⟩ 100 f126 [spV s, .d (i64 i), .d (.sl 1 p), .d (.sl 1 q)] b R=(∃(n0:Int) (z1:Int), [Zae (i64 (NotT.n (SprT.no s)))]= [Zae (i64 n0)]∧z1=ABl9 n0∧∃(r2:Int) (n3:Int) (i4:Int) (p5:List Int) (q6:List Int) (z7:Bool), [Zae (u64 (NotT.r (SprT.no s))),Zae (i64 z1),Zae (i64 i),Zae (Zam 1 p),Zae (Zam 1 q)]= [Zae (u64 r2),Zae (i64 n3),Zae (i64 i4),Zae (Zam 1 (AAb9 p5)),Zae (Zam 1 (digR q6))]∧z7=AFt9 r2 n3 i4 p5 q6∧R (.d (bo z7)) b):=by kernel_rfl
def ABx9 (s:SprT) (i:Int) (p q:List Int):Bool:=AFt9 s.no.r (ABl9 s.no.n) i p q
theorem BPp9 (s:SprT) (i:Int) (p q:List Int):PCall prog 126 [spV s, .d (i64 i), .d (.sl 1 (AAb9 p)), .d (.sl 1 (digR q))] (.d (bo (ABx9 s i p q))):=by
 refine Zbh (n:=100) (u:=false) mixed CDa9 Zad func126 (by rfl) (by rfl) fun Ev bb=> ?_;rw [BHv9];exact ⟨_,_,rfl,rfl,_,_,_,_,_,_,rfl,rfl,rfl⟩
def BFn9 (args:List AV) (K:AV→Prop):Prop:=∃(s:SprT) (i:Int) (p q:List Int) (z:Bool),args= [spV s, .d (i64 i), .d (.sl 1 (AAb9 p)), .d (.sl 1 (digR q))]∧z=ABx9 s i p q∧K (.d (bo z))
theorem ATg9:∀args K,BFn9 args K→∃x,PCall prog 126 args x∧K x:=by
 rintro _ K ⟨s,i,p,q,_,rfl,rfl,h⟩;exact ⟨_,BPp9 s i p q,h⟩
def TPd:List (Nat×(List AV→(AV→Prop)→Prop)):= [(126,BFn9)]
theorem BYa9:AAk9 prog TPd:=Zag ATg9 Zai
def blkSI (s:SprT):Blk:=⟨(spD s).map .d,false,false,0⟩
abbrev Qz1 (v0:SprT):List AV:= [Zae (i64 (NotT.v (SprT.no v0))),Zae (i64 (NotT.n (SprT.no v0))),Zae (u64 (NotT.r (SprT.no v0))),Zae (i64 (NotT.t (SprT.no v0))),Zae (Zam 1 (AAc9 (SprT.ps v0))),Zae (Zam 1 (AAh9 (SprT.qs v0))),Zae (Zam 2 (SprT.rows v0)),Zae (Zam 1 (digR (SprT.pf v0))),Zae (i64 (SprT.i1 v0)),Zae (i64 (SprT.i2 v0)),Zae (i64 (SprT.i3 v0)),Zae (i64 (SprT.i4 v0)),Zae (i64 (SprT.i5 v0))]
theorem r45 (s:SprT) (ps:List (List Dv)) (n i:Int):wpc prog ⟨TPd, [],wl,y,false⟩ 100 lp45 (tm45 ps n i) [blkSI s] b (maskT [1,2,42,43,44] K)=(BIf (decide (i<n)) (BIf (true&&decide (0≤i)) (∃(xs0:List (List Dv)),ps[Zat i]? =some [Zam 1 xs0]∧BIf (true&&decide (0≤i)) (∃(xs3:List (List Dv)),(AAh9 (SprT.qs s))[Zat i]? =some [Zam 1 xs3]∧∃(s6:SprT) (i7:Int) (p8:List Int) (q9:List Int) (z10:Bool), [Zbj (Qz1 s),Zae (i64 i),Zae (Zam 1 xs0),Zae (Zam 1 xs3)]= [Zbj (Qz1 s6),Zae (i64 i7),Zae (Zam 1 (AAb9 p8)),Zae (Zam 1 (digR q9))]∧z10=ABx9 s6 i7 p8 q9∧BIf (!z10) (K .ret (Zba::Zbe 0 0::Zae (bo false)::bds 39 (Zae (Zam 1 ps)::Zae (i64 n)::Zae (i64 i)::bds 16 [])) [Blk.mk (Qz1 s) false false 0] b) (K .normal (Zba::Zbe 0 0::bds 40 (Zae (Zam 1 ps)::Zae (i64 n)::Zae (i64 (Zac .i64 (i+1)))::bds 16 [])) [Blk.mk (Qz1 s) false false 0] b)) False) False) (K (Exit.exit 0) (Zba::Zbe 0 0::bds 40 (Zae (Zam 1 ps)::Zae (i64 n)::Zae (i64 i)::bds 16 [])) [Blk.mk (Qz1 s) false false 0] b)):=by kernel_rfl
def allP (s:SprT):Nat→List (List Int)→List (List Int)→Bool
 |k,p::ps,q::qs=>ABx9 s k p q&&allP s (k+1) ps qs
 |_,_,_=>true
theorem ABq9 (qs:List (List Int)):(AAh9 qs).length=qs.length:=by simp [AAh9]
theorem wr45 {Ev:Env prog} {b:Ev.β} {Q:Exit→St Ev.β→Prop} (s:SprT) (hl:s.ps.length≤1000000):∀(ps qs:List (List Int)) (k:Nat),s.ps.drop k=ps→s.qs.drop k=qs→k≤s.ps.length→ps.length=qs.length→
 (allP s k ps qs=true→∀i:Int,Q (.exit 0) ⟨tm45 (AAc9 s.ps) s.ps.length i, [blkSI s],b⟩)→(allP s k ps qs=false→∀i:Int,Q .ret ⟨(tm45 (AAc9 s.ps) s.ps.length i).set 2 (.d (bo false)), [blkSI s],b⟩)→
 WR Ev lp45 (ps.length+1) ⟨tm45 (AAc9 s.ps) s.ps.length k, [blkSI s],b⟩ Q
 | [],qs,k,hd,hd2,hk,hlen,h1,h2=>by
  refine WR.ofMaskT [1,2,42,43,44] mixed (CX.Ok.of (u:=false) BYa9 Zad) (k:=100) ?_;rw [r45];have:=ADw9 hd;exact Zdb (by simp<;>omega) (h1 (by rw [allP];intros;simp_all) _)
 |p::ps, [],k,hd,hd2,hk,hlen,h1,h2=>by simp at hlen
 | p::ps,q::qs,k,hd,hd2,hk,hlen,h1,h2=>by
  refine WR.ofMaskT [1,2,42,43,44] mixed (CX.Ok.of (u:=false) BYa9 Zad) (k:=100) ?_;rw [r45];obtain ⟨hk',hr,hd'⟩:=ABr9 hd;obtain ⟨hk2,hr2,hd2'⟩:=ABr9 hd2;refine Zbr (by simp<;>omega) (Zbr (by simp) ⟨AAb9 p,by simp [AAc9,hr],Zbr (by simp) ⟨digR q,by simp [AAh9,hr2],s,k,p,q,_,rfl,rfl,Zau (fun g=> ?_) fun g=> ?_⟩⟩)
  ·have g:ABx9 s k p q=false:=by simpa using g
   exact h2 (by rw [allP,g];rfl) _
  ·have g:ABx9 s k p q=true:=by simpa using g
   rw [allP,g,Bool.true_and] at h1 h2;rw [ACt9 hk' (by omega)];exact wr45 s hl ps qs (k+1) hd' hd2' hk' (by simpa using hlen) h1 h2
def wl45 {β:Type}:WLT β:=fun c tm hp b K=>∃(s:SprT) (z:Bool),c= .loop lp45∧ABo9 [1,42,43,44] 0 tm=tm45 (AAc9 s.ps) (AAc9 s.ps).length 0∧hp= [blkSI s]∧((s.ps.length≤1000000∧s.qs.length=s.ps.length)∧z=allP s 0 s.ps s.qs)∧
 BIf z (∀i:Int,K (.exit 0) (tm45 (AAc9 s.ps) (AAc9 s.ps).length i) [blkSI s] b) (∀i:Int,K .ret ((tm45 (AAc9 s.ps) (AAc9 s.ps).length i).set 2 (.d (bo false))) [blkSI s] b)
theorem BTo9 {Ev:Env prog} (c:Code) (tm:List AV) (hp:List Blk) (b:Ev.β) (K:Exit→List AV→List Blk→Ev.β→Prop) (h:wl45 c tm hp b K):W Ev c ⟨tm,hp,b⟩ (fun e s=>K e s.tm s.hp s.b):=by
 obtain ⟨s,z,rfl,htm,rfl,⟨⟨hl,hlen⟩,hz⟩,hK⟩:=h;rw [AAe9] at htm hK;refine W.cast (htm▸AAg9 _ tm 0) (Zcx _) ?_;exact W.rounds (wr45 (Q:=fun e s=>K e s.tm s.hp s.b) s hl s.ps s.qs 0 rfl rfl (Nat.zero_le _) hlen.symm (fun h=>by rw [hz,h] at hK;exact hK) fun h=>by rw [hz,h] at hK;exact hK)
abbrev Qz25 (v0:SprT):=Zba::Zbe 0 0::bds 40 (Zae (Zam 1 (AAc9 (SprT.ps v0)))::Zae (i64 ((Zab (AAc9 (SprT.ps v0)):Nat):Int))::Zae (i64 0)::bds 16 [])
theorem BOh9 (s:SprT):wpFn prog ⟨TSs, [],wl45,y,false⟩ 100 f88 [spV s] b R=(∃(a0:Int) (n1:Int) (r2:Int) (t3:Int) (z4:Bool), [Zbj [Zae (i64 (NotT.v (SprT.no s))),Zae (i64 (NotT.n (SprT.no s))),Zae (u64 (NotT.r (SprT.no s))),Zae (i64 (NotT.t (SprT.no s)))]]= [Zbj [Zae (i64 a0),Zae (i64 n1),Zae (u64 r2),Zae (i64 t3)]]∧z4=AAi9 a0 n1 t3∧BIf (!z4) (R (.d (bo false)) b) (∃(n5:Int) (z6:Int), [Zae (i64 (NotT.n (SprT.no s)))]= [Zae (i64 n5)]∧z6=ABl9 n5∧BIf (decide (((Zab (AAc9 (SprT.ps s)):Nat):Int)>z6)) (R (.d (bo false)) b) (BIf (((Zab (AAh9 (SprT.qs s)):Nat):Int) !=((Zab (AAc9 (SprT.ps s)):Nat):Int)) (R (.d (bo false)) b) (∃(ps7:List (List Int)) (z8:Bool), [Zae (Zam 1 (AAc9 (SprT.ps s)))]= [Zae (Zam 1 (AAc9 ps7))]∧(Zab ps7≤9223372036854775807∧z8= !ABf9 ps7)∧BIf (!z8) (R (.d (bo false)) b) (∃(s9:SprT) (z10:Bool),Zbq lp45=Zbq lp45∧(Qz25 s)=(Qz25 s9)∧ [Blk.mk (Qz1 s) false false 0]= [Blk.mk (Qz1 s9) false false 0]∧((Zab (SprT.ps s9)≤1000000∧Zab (SprT.qs s9)=Zab (SprT.ps s9))∧z10=allP s9 0 (SprT.ps s9) (SprT.qs s9))∧BIf z10 (∀(i:Int),R (.d (bo true)) b) (∀(i:Int),R (.d (bo false)) b)))))):=by kernel_rfl
def ACj9 (s:SprT):Bool:=AAi9 s.no.v s.no.n s.no.t&&(!decide ((s.ps.length:Int)>ABl9 s.no.n)&&(!((s.qs.length:Int) !=s.ps.length)&&(!ABf9 s.ps&&allP s 0 s.ps s.qs)))
noncomputable def AUr9:Code:=sub [1,1,1,1,0,1,2,3] (code f53)
noncomputable def AMf9:Code:=sub [1,1,1,1,1,0,1,2,3] (code f53)
def outB (s:SprT) (X Y:AV):Blk:=⟨[.d (i64 s.no.v), .d (i64 s.no.n), .d (u64 s.no.r), .d (i64 s.no.t),X,Y,nilV,nilV, .d (i64 s.i1), .d (i64 s.i2), .d (i64 s.i3), .d (i64 s.i4), .d (i64 s.i5)],false,false,0⟩
def AYt9 (pf rows:List (List Dv)) (n i:Int):List AV:= [.bad, .bad, .d (.sl 1 pf), .bad, .bad, .bad, .ptr 1 0, .bad, .ptr 2 0, .ptr 3 0]++Zaf 52 .bad++ [.d (.sl 1 rows), .d (i64 n), .d (i64 i)]++Zaf 32 .bad
def AYs9 (rows:List (List Dv)) (n i:Int):List AV:= [.bad, .bad, .bad, .bad, .bad, .bad, .ptr 1 0, .bad, .ptr 2 0, .ptr 3 0]++Zaf 72 .bad++ [.d (.sl 1 rows), .d (i64 n), .d (i64 i)]++Zaf 12 .bad
def TPa:List (Nat×(List AV→(AV→Prop)→Prop)):= [(120,BFy9),(51,AMz9)]
theorem BKu9:AAk9 prog TPa:=Zag ATj9 (Zag AHl9 Zai)
abbrev Qz5 (v0:SprT) (v1:List (List Dv)):List AV:= [Zae (i64 (NotT.v (SprT.no v0))),Zae (i64 (NotT.n (SprT.no v0))),Zae (u64 (NotT.r (SprT.no v0))),Zae (i64 (NotT.t (SprT.no v0))),Zdh 33 1 v1,Zae (Zdy (.slice none 0 0)),Zae (Zdy (.slice none 0 0)),Zae (Zdy (.slice none 0 0)),Zae (i64 (SprT.i1 v0)),Zae (i64 (SprT.i2 v0)),Zae (i64 (SprT.i3 v0)),Zae (i64 (SprT.i4 v0)),Zae (i64 (SprT.i5 v0))]
theorem r21a (s:SprT) (b0 b1 b2:Blk) (J:List Blk) (pf rows acc:List (List Dv)) (n i:Int):wpc prog ⟨TPa, [],wl,y,false⟩ 100 AUr9 (AYt9 pf rows n i) ([b0,b1,b2,outB s (.own 33 1 acc) nilV]++J) b (maskT [2,6,8,9,62,63,64] K)=(BIf (decide (i<n)) (BIf (true&&decide (0≤i)) (∃(xs0:List (List Dv)),rows[Zat i]? =some [Zam 1 xs0]∧∃(xs3:List (List Dv)), [Zae (Zam 1 xs0)]= [Zae (Zam 1 xs3)]∧Zab xs3≤1000000∧BIf (true&&decide ((Zab acc+1)*24≤140737488355328)) (K .normal (Zba::Zba::Zae (Zam 1 pf)::bds 3 (Zbe 1 0::Zba::Zbe 2 0::Zbe 3 0::bds 52 (Zae (Zam 1 rows)::Zae (i64 n)::Zae (i64 (Zac .i64 (i+1)))::bds 32 []))) (b0::b1::b2::Blk.mk [Zae (i64 (NotT.v (SprT.no s))),Zae (i64 (NotT.n (SprT.no s))),Zae (u64 (NotT.r (SprT.no s))),Zae (i64 (NotT.t (SprT.no s))),Zdh 33 1 (acc++ [[Zam 1 xs3]]),Zae (Zdy (.slice none 0 0)),Zae (Zdy (.slice none 0 0)),Zae (Zdy (.slice none 0 0)),Zae (i64 (SprT.i1 s)),Zae (i64 (SprT.i2 s)),Zae (i64 (SprT.i3 s)),Zae (i64 (SprT.i4 s)),Zae (i64 (SprT.i5 s))] false false 0::List.append._f [] PUnit.unit J) b) False) False) (K (Exit.exit 1) (Zba::Zba::Zae (Zam 1 pf)::bds 3 (Zbe 1 0::Zba::Zbe 2 0::Zbe 3 0::bds 52 (Zae (Zam 1 rows)::Zae (i64 n)::Zae (i64 i)::bds 32 []))) (b0::b1::b2::Blk.mk (Qz5 s acc) false false 0::List.append._f [] PUnit.unit J) b)):=by kernel_rfl
abbrev Qz20 (v0:SprT) (v1:List (List Dv)) (v2:List (List Dv)):List AV:= [Zae (i64 (NotT.v (SprT.no v0))),Zae (i64 (NotT.n (SprT.no v0))),Zae (u64 (NotT.r (SprT.no v0))),Zae (i64 (NotT.t (SprT.no v0))),Zdh 33 1 v1,Zdh 28 1 v2,Zae (Zdy (.slice none 0 0)),Zae (Zdy (.slice none 0 0)),Zae (i64 (SprT.i1 v0)),Zae (i64 (SprT.i2 v0)),Zae (i64 (SprT.i3 v0)),Zae (i64 (SprT.i4 v0)),Zae (i64 (SprT.i5 v0))]
theorem r21b (s:SprT) (b0 b1 b2:Blk) (J:List Blk) (X:List (List Dv)) (rows acc:List (List Dv)) (n i:Int):wpc prog ⟨TPa, [],wl,y,false⟩ 100 AMf9 (AYs9 rows n i) ([b0,b1,b2,outB s (.own 33 1 X) (.own 28 1 acc)]++J) b (maskT [6,8,9,82,83,84] K)=(BIf (decide (i<n)) (BIf (true&&decide (0≤i)) (∃(xs0:List (List Dv)),rows[Zat i]? =some [Zam 1 xs0]∧∃(xs3:List (List Dv)), [Zae (Zam 1 xs0)]= [Zae (Zam 1 xs3)]∧Zab xs3≤1000000∧BIf (true&&decide ((Zab acc+1)*24≤140737488355328)) (K .normal (bds 6 (Zbe 1 0::Zba::Zbe 2 0::Zbe 3 0::bds 72 (Zae (Zam 1 rows)::Zae (i64 n)::Zae (i64 (Zac .i64 (i+1)))::bds 12 []))) (b0::b1::b2::Blk.mk [Zae (i64 (NotT.v (SprT.no s))),Zae (i64 (NotT.n (SprT.no s))),Zae (u64 (NotT.r (SprT.no s))),Zae (i64 (NotT.t (SprT.no s))),Zdh 33 1 X,Zdh 28 1 (acc++ [[Zam 1 xs3]]),Zae (Zdy (.slice none 0 0)),Zae (Zdy (.slice none 0 0)),Zae (i64 (SprT.i1 s)),Zae (i64 (SprT.i2 s)),Zae (i64 (SprT.i3 s)),Zae (i64 (SprT.i4 s)),Zae (i64 (SprT.i5 s))] false false 0::List.append._f [] PUnit.unit J) b) False) False) (K (Exit.exit 3) (bds 6 (Zbe 1 0::Zba::Zbe 2 0::Zbe 3 0::bds 72 (Zae (Zam 1 rows)::Zae (i64 n)::Zae (i64 i)::bds 12 []))) (b0::b1::b2::Blk.mk (Qz20 s X acc) false false 0::List.append._f [] PUnit.unit J) b)):=by kernel_rfl
theorem BUz9 (s:SprT) (hl:s.ps.length≤9223372036854775807):PCall prog 88 [spV s] (.d (bo (ACj9 s))):=by
 refine PCall.ofFnW (n:=100) (u:=false) (fun _=>wl45) mixed CCy9 Zad (fun Ev=>BTo9) func88 (by rfl) (by rfl) fun Ev bb=> ?_;rw [BOh9];refine ⟨_,_,_,_,_,rfl,rfl,Zau (fun g=> ?_) fun g1=>⟨_,_,rfl,rfl,Zau (fun g=> ?_) fun g2=>Zau (fun g=> ?_) fun g3=>⟨_,_,rfl,⟨hl,rfl⟩,Zau (fun g=> ?_) fun g4=>⟨s,_,rfl,rfl,rfl,⟨⟨?_, ?_⟩,rfl⟩,Zau (fun g5 _=> ?_) fun g5 _=> ?_⟩⟩⟩⟩
 ·have:AAi9 s.no.v s.no.n s.no.t=false:=by simpa using g
  rw [ACj9,this];rfl
 ·rw [AAe9] at g;have h1:AAi9 s.no.v s.no.n s.no.t=true:=by simpa using g1
  rw [ACj9,h1,g];rfl
 ·rw [AAe9,ABq9] at g;rw [AAe9] at g2;have h1:AAi9 s.no.v s.no.n s.no.t=true:=by simpa using g1
  rw [ACj9,h1,g2,g];rfl
 ·rw [AAe9,ABq9] at g3;rw [AAe9] at g2;have h1:AAi9 s.no.v s.no.n s.no.t=true:=by simpa using g1
  have h4:ABf9 s.ps=true:=by simpa using g
  rw [ACj9,h1,g2,g3,h4];rfl
 ·rw [AAe9] at g2;have h1:AAi9 s.no.v s.no.n s.no.t=true:=by simpa using g1
  have h6:ADd9 s.no.n=true:=by simp only [AAi9,Zal] at h1;exact h1.2.2.1
  obtain ⟨k,hk,hk1,hk2⟩:=AGd9 h6;rw [hk,AHk9 (by omega)] at g2;simp at g2;omega
 ·rw [AAe9,ABq9] at g3;simp at g3;omega
 ·rw [AAe9] at g2;rw [AAe9,ABq9] at g3;have h1:AAi9 s.no.v s.no.n s.no.t=true:=by simpa using g1
  have h4:ABf9 s.ps=false:=by simpa using g4
  rw [ACj9,h1,g2,g3,h4,g5];rfl
 ·rw [AAe9] at g2;rw [AAe9,ABq9] at g3;have h1:AAi9 s.no.v s.no.n s.no.t=true:=by simpa using g1
  have h4:ABf9 s.ps=false:=by simpa using g4
  rw [ACj9,h1,g2,g3,h4,g5];rfl
def BRm9 (args:List AV) (K:AV→Prop):Prop:=∃(s:SprT) (z:Bool),args= [spV s]∧(s.ps.length≤9223372036854775807∧z=ACj9 s)∧K (.d (bo z))
theorem AXu9:∀args K,BRm9 args K→∃x,PCall prog 88 args x∧K x:=by
 rintro _ K ⟨s,_,rfl,⟨hl,rfl⟩,h⟩;exact ⟨_,BUz9 s hl,h⟩
theorem ALy9 (ps:List (List Int)) (p:List Int):AAc9 ps++ [[.sl 1 (AAb9 p)]]=AAc9 (ps++ [p]):=by simp [AAc9]
theorem AJq9 (ps:List (List Int)) (p:List Int):AAh9 ps++ [[.sl 1 (digR p)]]=AAh9 (ps++ [p]):=by simp [AAh9]
theorem BSw9 {Ev:Env prog} {b:Ev.β} {Q:Exit→St Ev.β→Prop} (s:SprT) (b0 b1 b2:Blk) (J:List Blk) (pf:List (List Dv)) (L:List (List Int)) (hl:L.length≤1000000) (hL:∀p∈L,p.length≤1000000):∀(rest:List (List Int)) (k:Nat) (acc:List (List Int)),L.drop k=rest→k≤L.length→acc.length≤k→
 (∀i:Int,Q (.exit 1) ⟨AYt9 pf (AAc9 L) L.length i, [b0,b1,b2,outB s (.own 33 1 (AAc9 (acc++rest))) nilV]++J,b⟩)→WR Ev AUr9 (rest.length+1) ⟨AYt9 pf (AAc9 L) L.length k, [b0,b1,b2,outB s (.own 33 1 (AAc9 acc)) nilV]++J,b⟩ Q
 | [],k,acc,hd,hk,ha,h=>by
  refine WR.ofMaskT [2,6,8,9,62,63,64] mixed (CX.Ok.of (u:=false) BKu9 Zad) (k:=100) ?_;rw [r21a];have:=ADw9 hd;rw [List.append_nil] at h;exact Zdb (by simp<;>omega) (h _)
 | p::rest,k,acc,hd,hk,ha,h=>by
  refine WR.ofMaskT [2,6,8,9,62,63,64] mixed (CX.Ok.of (u:=false) BKu9 Zad) (k:=100) ?_;rw [r21a];obtain ⟨hk',hr,hd'⟩:=ABr9 hd;refine Zbr (by simp<;>omega) (Zbr (by simp) ⟨AAb9 p,by simp [AAc9,hr],_,rfl,by rw [AAf9];exact hL p (Zbi hr),Zbr (by simp [AAe9]<;>omega) ?_⟩);rw [ALy9,ACt9 hk' (by omega)];refine BSw9 s b0 b1 b2 J pf L hl hL rest (k+1) (acc++ [p]) hd' hk' (by simp<;>omega) ?_;rw [List.append_assoc];exact h
theorem BSv9 {Ev:Env prog} {b:Ev.β} {Q:Exit→St Ev.β→Prop} (s:SprT) (b0 b1 b2:Blk) (J:List Blk) (X:List (List Dv)) (L:List (List Int)) (hl:L.length≤1000000) (hL:∀p∈L,p.length≤1000000):∀(rest:List (List Int)) (k:Nat) (acc:List (List Int)),L.drop k=rest→k≤L.length→acc.length≤k→
 (∀i:Int,Q (.exit 3) ⟨AYs9 (AAh9 L) L.length i, [b0,b1,b2,outB s (.own 33 1 X) (.own 28 1 (AAh9 (acc++rest)))]++J,b⟩)→WR Ev AMf9 (rest.length+1) ⟨AYs9 (AAh9 L) L.length k, [b0,b1,b2,outB s (.own 33 1 X) (.own 28 1 (AAh9 acc))]++J,b⟩ Q
 | [],k,acc,hd,hk,ha,h=>by
  refine WR.ofMaskT [6,8,9,82,83,84] mixed (CX.Ok.of (u:=false) BKu9 Zad) (k:=100) ?_;rw [r21b];have:=ADw9 hd;rw [List.append_nil] at h;exact Zdb (by simp<;>omega) (h _)
 | p::rest,k,acc,hd,hk,ha,h=>by
  refine WR.ofMaskT [6,8,9,82,83,84] mixed (CX.Ok.of (u:=false) BKu9 Zad) (k:=100) ?_;rw [r21b];obtain ⟨hk',hr,hd'⟩:=ABr9 hd;refine Zbr (by simp<;>omega) (Zbr (by simp) ⟨digR p,by simp [AAh9,hr],_,rfl,by rw [ABd9];exact hL p (Zbi hr),Zbr (by simp [ABq9]<;>omega) ?_⟩);rw [AJq9,ACt9 hk' (by omega)];refine BSv9 s b0 b1 b2 J X L hl hL rest (k+1) (acc++ [p]) hd' hk' (by simp<;>omega) ?_;rw [List.append_assoc];exact h
def wl21I {β:Type}:WLT β:=fun c tm hp b K=>match cidO c with
 |11=>c= .loop AUr9∧ALq9 hp [62] tm fun tm1=>∃(s:SprT) (pf:List (List Dv)) (L z:List (List Int)),ABo9 [2,6,8,9,62,63,64] 0 tm1=AYt9 pf (AAc9 L) (AAc9 L).length 0∧(frz hp (occ (tm.getD 62 .bad)))[3]? =some (outB s nilV nilV)∧
  ((L.length≤1000000∧∀p∈L,p.length≤1000000)∧z=L)∧∀i:Int,K (.exit 1) (AYt9 pf (AAc9 z) (AAc9 z).length i) ((frz hp (occ (tm.getD 62 .bad))).set 3 (outB s (.own 33 1 (AAc9 z)) nilV)) b
 |16=>c= .loop AMf9∧ALq9 hp [82] tm fun tm1=>∃(s:SprT) (X:List (List Dv)) (L z:List (List Int)),ABo9 [6,8,9,82,83,84] 0 tm1=AYs9 (AAh9 L) (AAh9 L).length 0∧(frz hp (occ (tm.getD 82 .bad)))[3]? =some (outB s (.own 33 1 X) nilV)∧
  ((L.length≤1000000∧∀p∈L,p.length≤1000000)∧z=L)∧∀i:Int,K (.exit 3) (AYs9 (AAh9 z) (AAh9 z).length i) ((frz hp (occ (tm.getD 82 .bad))).set 3 (outB s (.own 33 1 X) (.own 28 1 (AAh9 z)))) b
 |_=>False
theorem BNv9 {Ev:Env prog} (c:Code) (tm:List AV) (hp:List Blk) (b:Ev.β) (K:Exit→List AV→List Blk→Ev.β→Prop) (h:wl21I c tm hp b K):W Ev c ⟨tm,hp,b⟩ (fun e s=>K e s.tm s.hp s.b):=by
 unfold wl21I at h;split at h
 ·obtain ⟨rfl,h⟩:=h;refine W.sealed h ?_;rintro tm1 ⟨s,pf,L,z,htm,h3,⟨⟨hl,hL⟩,rfl⟩,hK⟩;obtain ⟨b0,b1,b2,J,e⟩:=four h3;rw [e] at hK ⊢;rw [AAe9] at htm hK;refine W.cast (htm▸AAg9 _ tm1 0) (hp':= [b0,b1,b2,outB s (.own 33 1 (AAc9 [])) nilV]++J) (LeH.at [b0,b1,b2] J (LeL.at [_,_,_,_] _ (LeA.nilOwn rfl))) ?_;exact W.rounds (BSw9 (Q:=fun e s=>K e s.tm s.hp s.b) s b0 b1 b2 J pf z hl hL z 0 [] rfl (Nat.zero_le _) (Nat.zero_le _) hK)
 ·obtain ⟨rfl,h⟩:=h;refine W.sealed h ?_;rintro tm1 ⟨s,X,L,z,htm,h3,⟨⟨hl,hL⟩,rfl⟩,hK⟩;obtain ⟨b0,b1,b2,J,e⟩:=four h3;rw [e] at hK ⊢;rw [ABq9] at htm hK;refine W.cast (htm▸AAg9 _ tm1 0) (hp':= [b0,b1,b2,outB s (.own 33 1 X) (.own 28 1 (AAh9 []))]++J) (LeH.at [b0,b1,b2] J (LeL.at [_,_,_,_,_] _ (LeA.nilOwn rfl))) ?_;exact W.rounds (BSv9 (Q:=fun e s=>K e s.tm s.hp s.b) s b0 b1 b2 J X z hl hL z 0 [] rfl (Nat.zero_le _) (Nat.zero_le _) hK)
 ·exact h.elim
def TPt:List (Nat×(List AV→(AV→Prop)→Prop)):= [(125,BFw9),(88,BRm9),(126,BFn9)]
theorem CDd9:AAk9 prog TPt:=Zag ALa9 (Zag AXu9 (Zag ATg9 Zai))
def SPt:List (Nat×(List AV→List Blk→(AV→List Blk→Prop)→Prop)):= [(127,BOt9 1),(128,BOt9 1)]
theorem CDn9:AAn9 prog SPt:=Zcr BIf9.toS (Zcr BIe9.toS Zad)
abbrev Qz3:List AV:= [Zae (i64 0),Zae (i64 0),Zae (u64 0),Zae (i64 0),Zae (Zdy (.slice none 0 0)),Zae (Zdy (.slice none 0 0)),Zae (Zdy (.slice none 0 0)),Zae (Zdy (.slice none 0 0)),Zae (i64 0),Zae (i64 0),Zae (i64 0),Zae (i64 0),Zae (i64 0)]
abbrev Qz6 (v0:SprT):=Blk.mk [Zae (i64 (NotT.v (SprT.no v0))),Zae (i64 (NotT.n (SprT.no v0))),Zae (u64 (NotT.r (SprT.no v0))),Zae (i64 (NotT.t (SprT.no v0))),Zae (Zdy (.slice none 0 0)),Zae (Zdy (.slice none 0 0)),Zae (Zdy (.slice none 0 0)),Zae (Zdy (.slice none 0 0)),Zae (i64 (SprT.i1 v0)),Zae (i64 (SprT.i2 v0)),Zae (i64 (SprT.i3 v0)),Zae (i64 (SprT.i4 v0)),Zae (i64 (SprT.i5 v0))] false false 0
abbrev Qz7 (v0:SprT) (v1:List (List Int)):=Blk.mk [Zae (i64 (NotT.v (SprT.no v0))),Zae (i64 (NotT.n (SprT.no v0))),Zae (u64 (NotT.r (SprT.no v0))),Zae (i64 (NotT.t (SprT.no v0))),Zdh 33 1 (AAc9 v1),Zae (Zdy (.slice none 0 0)),Zae (Zdy (.slice none 0 0)),Zae (Zdy (.slice none 0 0)),Zae (i64 (SprT.i1 v0)),Zae (i64 (SprT.i2 v0)),Zae (i64 (SprT.i3 v0)),Zae (i64 (SprT.i4 v0)),Zae (i64 (SprT.i5 v0))] false false 0
abbrev Qz8 (v0:SprT) (v1:List (List Dv)) (v2:List (List Int)):List AV:= [Zbj [Zae (i64 (NotT.v (SprT.no v0))),Zae (i64 (NotT.n (SprT.no v0))),Zae (u64 (NotT.r (SprT.no v0))),Zae (i64 (NotT.t (SprT.no v0))),Zae (Zam 1 v1),Zae (Zam 1 (AAh9 v2)),Zae (Zdy (.slice none 0 0)),Zae (Zdy (.slice none 0 0)),Zae (i64 (SprT.i1 v0)),Zae (i64 (SprT.i2 v0)),Zae (i64 (SprT.i3 v0)),Zae (i64 (SprT.i4 v0)),Zae (i64 (SprT.i5 v0))],Zae (i64 0)]
abbrev Qz14 (v0:List (List Int)):List AV:=bds 6 (Zbe 1 0::Zba::Zbe 2 0::Zbe 3 0::bds 72 (Zae (Zam 1 (AAh9 v0))::Zae (i64 ((Zab (AAh9 v0):Nat):Int))::Zae (i64 0)::bds 12 []))
abbrev Qz24 (v0:List (List Dv)) (v1:List (List Int)):=Zba::Zba::Zae (Zam 1 v0)::bds 3 (Zbe 1 0::Zba::Zbe 2 0::Zbe 3 0::bds 52 (Zae (Zam 1 (AAc9 v1))::Zae (i64 ((Zab (AAc9 v1):Nat):Int))::Zae (i64 0)::bds 32 []))
abbrev Qz28 (v0:List (List Dv)):List AV:=bds 6 (Zbe 1 0::Zba::Zbe 2 0::Zbe 3 0::bds 72 (Zae (Zam 1 [[Zam 1 v0]])::Zae (i64 1)::Zae (i64 0)::bds 12 []))
abbrev Qz29 (v0:List (List Dv)) (v1:List (List Dv)):List AV:=bds 6 (Zbe 1 0::Zba::Zbe 2 0::Zbe 3 0::bds 72 (Zae (Zam 1 v0)::Zae (i64 ((Zab v1+1:Nat):Int))::Zae (i64 0)::bds 12 []))
theorem BYz9 (s:SprT) (p q:List (List Dv)):wpFn prog ⟨TPt,SPt,wl21I,y,false⟩ 100 f53 [spV s, .d (.sl 1 p), .d (.sl 1 q)] b R=(∃(s0:SprT) (z1:Bool), [Zbj (Qz1 s)]= [Zbj (Qz1 s0)]∧(Zab (SprT.ps s0)≤9223372036854775807∧z1=ACj9 s0)∧BIf (!z1) (R (.tup [Zbj Qz3,Zae (i64 1)]) b) (BIf (((Zab p:Nat):Int) !=(256:Int)) (R (.tup [Zbj Qz3,Zae (i64 1)]) b) (∃(n2:Int) (z3:Int), [Zae (i64 (NotT.n (SprT.no s)))]= [Zae (i64 n2)]∧z3=ABl9 n2∧BIf (((Zab (AAc9 (SprT.ps s)):Nat):Int)==z3) (R (.tup [Zbj Qz3,Zae (i64 10)]) b) (∃(s4:SprT) (i5:Int) (p6:List Int) (q7:List Int) (z8:Bool), [Zbj (Qz1 s),Zae (i64 ((Zab (AAc9 (SprT.ps s)):Nat):Int)),Zae (Zam 1 p),Zae (Zam 1 q)]= [Zbj (Qz1 s4),Zae (i64 i5),Zae (Zam 1 (AAb9 p6)),Zae (Zam 1 (digR q7))]∧z8=ABx9 s4 i5 p6 q7∧BIf (!z8) (R (.tup [Zbj Qz3,Zae (i64 12)]) b) (∃(xs9:List (List Dv)), [Zae (Zam 1 (AAc9 (SprT.ps s)))]= [Zae (Zam 1 xs9)]∧Zab xs9≤1000000∧BIf (List.isEmpty xs9) (Zbq AUr9=Zbq AUr9∧∃(s10:SprT) (pf11:List (List Dv)) (L12:List (List Int)) (z13:List (List Int)),(Zba::Zba::Zae (Zam 1 q)::bds 3 (Zbe 1 0::Zba::Zbe 2 0::Zbe 3 0::bds 52 (Zae (Zam 1 [[Zam 1 p]])::Zae (i64 1)::Zae (i64 0)::bds 32 [])))=(Qz24 pf11 L12)∧some (Qz6 s)=some (Qz6 s10)∧((Zab L12≤1000000∧∀(p:List Int),p∈L12→Zab p≤1000000)∧z13=L12)∧∀(i:Int),∃(xs14:List (List Dv)), [Zae (Zam 1 (AAh9 (SprT.qs s)))]= [Zae (Zam 1 xs14)]∧Zab xs14≤1000000∧BIf (List.isEmpty xs14) (Zbq AMf9=Zbq AMf9∧∃(s15:SprT) (X16:List (List Dv)) (L17:List (List Int)) (z18:List (List Int)),(Qz28 pf11)=(Qz14 L17)∧some (Qz7 s10 z13)=some (Blk.mk (Qz5 s15 X16) false false 0)∧((Zab L17≤1000000∧∀(p:List Int),p∈L17→Zab p≤1000000)∧z18=L17)∧∀(i:Int),R (.tup (Qz8 s15 X16 z18)) b) (0=0∧BIf (decide ((Zab xs14+1)*24≤140737488355328)) (1=1∧Zbq AMf9=Zbq AMf9∧1=1∧∃(xs19:List (List Dv)),flatA xs14++ [Zae (Zam 1 pf11)]=flatA xs19∧Zab xs19=Zab xs14+1∧(∀(r:List Dv),r∈xs19→Zab r=1)∧∃(s20:SprT) (X21:List (List Dv)) (L22:List (List Int)) (z23:List (List Int)),(Qz29 xs19 xs14)=(Qz14 L22)∧some (Qz7 s10 z13)=some (Blk.mk (Qz5 s20 X21) false false 0)∧((Zab L22≤1000000∧∀(p:List Int),p∈L22→Zab p≤1000000)∧z23=L22)∧∀(i:Int),R (.tup (Qz8 s20 X21 z23)) b) False)) (0=0∧BIf (decide ((Zab xs9+1)*24≤140737488355328)) (1=1∧Zbq AUr9=Zbq AUr9∧1=1∧∃(xs24:List (List Dv)),flatA xs9++ [Zae (Zam 1 p)]=flatA xs24∧Zab xs24=Zab xs9+1∧(∀(r:List Dv),r∈xs24→Zab r=1)∧∃(s25:SprT) (pf26:List (List Dv)) (L27:List (List Int)) (z28:List (List Int)),(Zba::Zba::Zae (Zam 1 q)::bds 3 (Zbe 1 0::Zba::Zbe 2 0::Zbe 3 0::bds 52 (Zae (Zam 1 xs24)::Zae (i64 ((Zab xs9+1:Nat):Int))::Zae (i64 0)::bds 32 [])))=(Qz24 pf26 L27)∧some (Qz6 s)=some (Qz6 s25)∧((Zab L27≤1000000∧∀(p:List Int),p∈L27→Zab p≤1000000)∧z28=L27)∧∀(i:Int),∃(xs29:List (List Dv)), [Zae (Zam 1 (AAh9 (SprT.qs s)))]= [Zae (Zam 1 xs29)]∧Zab xs29≤1000000∧BIf (List.isEmpty xs29) (Zbq AMf9=Zbq AMf9∧∃(s30:SprT) (X31:List (List Dv)) (L32:List (List Int)) (z33:List (List Int)),(Qz28 pf26)=(Qz14 L32)∧some (Qz7 s25 z28)=some (Blk.mk (Qz5 s30 X31) false false 0)∧((Zab L32≤1000000∧∀(p:List Int),p∈L32→Zab p≤1000000)∧z33=L32)∧∀(i:Int),R (.tup (Qz8 s30 X31 z33)) b) (0=0∧BIf (decide ((Zab xs29+1)*24≤140737488355328)) (1=1∧Zbq AMf9=Zbq AMf9∧1=1∧∃(xs34:List (List Dv)),flatA xs29++ [Zae (Zam 1 pf26)]=flatA xs34∧Zab xs34=Zab xs29+1∧(∀(r:List Dv),r∈xs34→Zab r=1)∧∃(s35:SprT) (X36:List (List Dv)) (L37:List (List Int)) (z38:List (List Int)),(Qz29 xs34 xs29)=(Qz14 L37)∧some (Qz7 s25 z28)=some (Blk.mk (Qz5 s35 X36) false false 0)∧((Zab L37≤1000000∧∀(p:List Int),p∈L37→Zab p≤1000000)∧z38=L37)∧∀(i:Int),R (.tup (Qz8 s35 X36 z38)) b) False)) False)))))):=by kernel_rfl
def BGq9:SprT:=⟨⟨0,0,0,0⟩, [], [], [], [],0,0,0,0,0⟩
def putS (s:SprT) (p q:List Int):SprT×Int:=
 if ACj9 s=false∨p.length≠256 then (BGq9,1) else if (s.ps.length:Int)=ABl9 s.no.n then (BGq9,10) else if ABx9 s s.ps.length p q=false then (BGq9,12)
 else (⟨s.no,s.ps++ [p],s.qs++ [q], [], [],s.i1,s.i2,s.i3,s.i4,s.i5⟩,0)
theorem AUw9 (ps:List (List Int)) (p:List Int):flatA (AAc9 ps)++ [Zae (.sl 1 (AAb9 p))]=flatA (AAc9 (ps++ [p])):=by
 rw [←ALy9,AKx9];rfl
theorem ASn9 (ps:List (List Int)) (p:List Int):flatA (AAh9 ps)++ [Zae (.sl 1 (digR p))]=flatA (AAh9 (ps++ [p])):=by
 rw [←AJq9,AKx9];rfl
theorem BIg9 {ps:List (List Int)}:∀r∈AAc9 ps,r.length=1:=by
 intro r hr;simp only [AAc9,Zbd] at hr;obtain ⟨_,_,rfl⟩:=hr;rfl
theorem BDd9 {ps:List (List Int)}:∀r∈AAh9 ps,r.length=1:=by
 intro r hr;simp only [AAh9,Zbd] at hr;obtain ⟨_,_,rfl⟩:=hr;rfl
theorem AJm9 {s:SprT} (h:ACj9 s=true):s.ps.length≤4096∧s.qs.length=s.ps.length∧(∀p∈s.ps,p.length=256)∧ADd9 s.no.n=true∧AAi9 s.no.v s.no.n s.no.t=true:=by
 simp only [ACj9,Zal] at h;obtain ⟨h1,h2,h3,h4,h5⟩:=h;have h6:ADd9 s.no.n=true:=by simp only [AAi9,Zal] at h1;exact h1.2.2.1
 obtain ⟨k,hk,hk1,hk2⟩:=AGd9 h6;rw [hk,AHk9 (by omega)] at h2;refine ⟨by simp at h2;omega,by simp at h3;omega,fun p hp=> ?_,h6,h1⟩;have h4:ABf9 s.ps=false:=by simpa using h4
 rw [ABf9,List.any_eq_false] at h4;have:=h4 p hp;simp at this;omega
theorem pcPut (s:SprT) (p q:List Int) (hl:s.ps.length≤9223372036854775807) (hq:q.length≤1000000) (hqs:∀x∈s.qs,x.length≤1000000):
 PCall prog 53 [spV s, .d (.sl 1 (AAb9 p)), .d (.sl 1 (digR q))] (.tup [spV (putS s p q).1, .d (i64 (putS s p q).2)]):=by
 refine PCall.ofFnV (n:=100) (u:=false) (fun _=>wl21I) mixed CDd9 CDn9 (fun Ev=>BNv9) func53 (by rfl) (by rfl) fun Ev bb=> ?_;rw [BYz9];have bad:∀e:Int,putS s p q=(BGq9,e)→LeV (AV.tup [Zbj [Zae (i64 (0:Int)),Zae (i64 (0:Int)),Zae (u64 (0:Int)),Zae (i64 (0:Int)),Zae (Zdy (Zbo none 0 0)),Zae (Zdy (Zbo none 0 0)),Zae (Zdy (Zbo none 0 0)),Zae (Zdy (Zbo none 0 0)),Zae (i64 (0:Int)),Zae (i64 (0:Int)),Zae (i64 (0:Int)),Zae (i64 (0:Int)),Zae (i64 (0:Int))],Zae (i64 e)])
  (.tup [spV (putS s p q).1, .d (i64 (putS s p q).2)]):=by
  intro e he;rw [he];exact LeV.tups (.cons (LeV.aggs (.cons .rfl (.cons .rfl (.cons .rfl (.cons .rfl (.cons (.nil rfl) (.cons (.nil rfl) (.cons (.nil rfl) (.cons (.nil rfl) (LeVs.refl _)))))))))) (.cons .rfl .nil))
 have good:∀ps' qs',putS s p q=(⟨s.no,ps',qs', [], [],s.i1,s.i2,s.i3,s.i4,s.i5⟩,0)→LeV (AV.tup [Zbj [.d (i64 s.no.v), .d (i64 s.no.n), .d (u64 s.no.r), .d (i64 s.no.t), .d (.sl 1 (AAc9 ps')), .d (.sl 1 (AAh9 qs')),Zae (Zdy (Zbo none 0 0)),Zae (Zdy (Zbo none 0 0)), .d (i64 s.i1), .d (i64 s.i2), .d (i64 s.i3), .d (i64 s.i4), .d (i64 s.i5)],Zae (i64 0)])
  (.tup [spV (putS s p q).1, .d (i64 (putS s p q).2)]):=by
  intro ps' qs' he;rw [he];exact LeV.tups (.cons (LeV.aggs (.cons .rfl (.cons .rfl (.cons .rfl (.cons .rfl (.cons .rfl (.cons .rfl (.cons (.nil rfl) (.cons (.nil rfl) (LeVs.refl _)))))))))) (.cons .rfl .nil))
 refine ⟨s,_,rfl,⟨hl,rfl⟩,Zau (fun g=>bad 1 (by rw [putS,if_pos (.inl (by simpa using g))])) fun g1=>Zau (fun g=>bad 1 (by rw [putS,if_pos (.inr (by rw [AAf9] at g;simp at g;omega))])) fun g2=>⟨_,_,rfl,rfl,Zau (fun g=>bad 10 ?_) fun g3=>⟨s,_,p,q,_,rfl,rfl,Zau (fun g=>bad 12 ?_) fun g4=> ?_⟩⟩⟩;all_goals
  have h1:ACj9 s=true:=by simpa using g1
  have h2:p.length=256:=by rw [AAf9] at g2;simp at g2;omega
  have hn:¬(ACj9 s=false∨p.length≠256):=by rw [h1,h2];simp
 ·rw [AAe9] at g;rw [putS,if_neg hn,if_pos (by simpa using g)]
 ·rw [AAe9] at g3 g;rw [putS,if_neg hn,if_neg (by simpa using g3),if_pos (by simpa using g)]
 rw [AAe9] at g3;obtain ⟨f1,f2,f3,f4,f5⟩:=AJm9 h1;have h4:ABx9 s s.ps.length p q=true:=by rw [AAe9] at g4;simpa using g4
 have hput:putS s p q=(⟨s.no,s.ps++ [p],s.qs++ [q], [], [],s.i1,s.i2,s.i3,s.i4,s.i5⟩,0):=by
  rw [putS,if_neg hn,if_neg (by simpa using g3),if_neg (by rw [h4];simp)]
 have eP:(AAc9 (s.ps++ [p])).length=(AAc9 s.ps).length+1:=by simp [AAe9]
 have eQ:(AAh9 (s.qs++ [q])).length=(AAh9 s.qs).length+1:=by simp [ABq9]
 have bP:(s.ps++ [p]).length≤1000000∧∀x∈s.ps++ [p],x.length≤1000000:=by
  refine ⟨by simp;omega,fun x hx=> ?_⟩;rcases Zco.1 hx with hx|hx
  ·rw [f3 x hx];decide
  ·simp at hx;subst hx;omega
 have bQ:(s.qs++ [q]).length≤1000000∧∀x∈s.qs++ [q],x.length≤1000000:=by
  refine ⟨by simp;omega,fun x hx=> ?_⟩;rcases Zco.1 hx with hx|hx
  ·exact hqs x hx
  ·simp at hx;subst hx;exact hq
 refine ⟨AAc9 s.ps,rfl,by rw [AAe9];omega,Zau (fun h=> ?_) fun h=> ?_⟩
 ·have e1:s.ps= []:=by
   have:(AAc9 s.ps).length=0:=by rw [List.isEmpty_iff] at h;rw [h];rfl
   rw [AAe9] at this;exact List.length_eq_zero_iff.1 this
  have e2:s.qs= []:=List.length_eq_zero_iff.1 (by rw [f2,e1];rfl);rw [e1] at hput bP;rw [e2] at hput bQ;refine ⟨rfl,s,digR q, [p],_,rfl,rfl,⟨bP,rfl⟩,fun _=>⟨AAh9 s.qs,rfl,by rw [ABq9,f2];omega,Zbr (by rw [e2];rfl) ⟨rfl,s,AAc9 [p], [q],_,rfl,rfl,⟨bQ,rfl⟩,fun _=>good [p] [q] hput⟩⟩⟩
 ·have e1:(AAh9 s.qs).isEmpty=false:=by
   cases hq2:s.qs with
   | nil=>
    have:s.ps= []:=List.length_eq_zero_iff.1 (by rw [←f2,hq2];rfl);rw [this] at h;cases h
   |cons a l=>rfl
  refine ⟨rfl,Zbr (by rw [decide_eq_true_eq,AAe9];omega) ⟨rfl,rfl,rfl,AAc9 (s.ps++ [p]),AUw9 _ _,eP,BIg9,s,digR q,s.ps++ [p],_,congrArg (fun z:Nat=>AYt9 (digR q) (AAc9 (s.ps++ [p])) (z:Int) 0) eP.symm,rfl,⟨bP,rfl⟩,fun _=>⟨AAh9 s.qs,rfl,by rw [ABq9,f2];omega,Zdb e1 ⟨rfl,Zbr (by rw [decide_eq_true_eq,ABq9];omega) ⟨rfl,rfl,rfl,AAh9 (s.qs++ [q]),ASn9 _ _,eQ,BDd9,s,AAc9 (s.ps++ [p]),s.qs++ [q],_,congrArg (fun z:Nat=>AYs9 (AAh9 (s.qs++ [q])) (z:Int) 0) eQ.symm,rfl,⟨bQ,rfl⟩,fun _=>good _ _ hput⟩⟩⟩⟩⟩
def cPut (args:List AV) (K:AV→Prop):Prop:=∃(s:SprT) (p q:List Int) (z:SprT) (e:Int),args= [spV s, .d (.sl 1 (AAb9 p)), .d (.sl 1 (digR q))]∧((s.ps.length≤9223372036854775807∧q.length≤1000000∧∀x∈s.qs,x.length≤1000000)∧(z,e)=putS s p q)∧K (.tup [spV z, .d (i64 e)])
theorem BXc9:∀args K,cPut args K→∃x,PCall prog 53 args x∧K x:=by
 rintro _ K ⟨s,p,q,z,e,rfl,⟨⟨h1,h2,h3⟩,he⟩,h⟩;have:=pcPut s p q h1 h2 h3;rw [←he] at this;exact ⟨_,this,h⟩
def TWh:List (Nat×(List AV→(AV→Prop)→Prop)):= [(88,BRm9),(89,cJoin)]
theorem CCw9:AAk9 prog TWh:=Zag AXu9 (Zag BRv9 Zai)
theorem BNx9 (s:SprT):wpFn prog ⟨TWh, [],wl,y,false⟩ 100 f30 [spV s] b R=(∃(s0:SprT) (z1:Bool), [Zbj (Qz1 s)]= [Zbj (Qz1 s0)]∧(Zab (SprT.ps s0)≤9223372036854775807∧z1=ACj9 s0)∧BIf (!z1) (R (.tup [Zae (Zdy (.slice none 0 0)),Zae (bo false)]) b) (∃(ps2:List (List Int)) (n3:Int) (z4:List Int) (e5:Int), [Zae (Zam 1 (AAc9 (SprT.ps s))),Zae (i64 (NotT.n (SprT.no s)))]= [Zae (Zam 1 (AAc9 ps2)),Zae (i64 n3)]∧(Zab ps2≤9223372036854775807∧(z4,e5)=joinS ps2 n3)∧R (.tup [Zae (Zam 1 (AAb9 z4)),Zae (bo (e5==(0:Int)))]) b)):=by kernel_rfl
def AKi9 (s:SprT):List Int×Bool:=if ACj9 s then ((joinS s.ps s.no.n).1,(joinS s.ps s.no.n).2==0) else ([],false)
theorem BUv9 (s:SprT) (hl:s.ps.length≤9223372036854775807):PCall prog 30 [spV s] (.tup [.d (.sl 1 (AAb9 (AKi9 s).1)), .d (bo (AKi9 s).2)]):=by
 refine PCall.ofFnV (n:=100) (u:=false) (fun _=>wlNo _) mixed CCw9 Zad (fun Ev=>AHo9 Ev) func30 (by rfl) (by rfl) fun Ev bb=> ?_;rw [BNx9];refine ⟨s,_,rfl,⟨hl,rfl⟩,Zau (fun g=> ?_) fun g=>⟨s.ps,s.no.n,_,_,rfl,⟨hl,rfl⟩, ?_⟩⟩
 ·rw [AKi9,if_neg (by rw [show ACj9 s=false by simpa using g];simp)];exact LeV.tups (.cons (.nil rfl) (.cons .rfl .nil))
 ·rw [AKi9,if_pos (show ACj9 s=true by simpa using g)];exact .rfl
def CCe9 (args:List AV) (K:AV→Prop):Prop:=∃(s:SprT) (z:List Int) (e:Bool),args= [spV s]∧(s.ps.length≤9223372036854775807∧(z,e)=AKi9 s)∧K (.tup [.d (.sl 1 (AAb9 z)), .d (bo e)])
theorem BKa9:∀args K,CCe9 args K→∃x,PCall prog 30 args x∧K x:=by
 rintro _ K ⟨s,z,e,rfl,⟨hl,he⟩,h⟩;have:=BUv9 s hl;rw [←he] at this;exact ⟨_,this,h⟩
noncomputable def lp20:Code:=sub [1,1,0,1,2,3] (code f31)
def tmCmp (n:Nat) (z a c:List (List Dv)) (i:Int):List AV:= [.d (.sl 1 a), .d (.sl 1 c), .bad, .bad, .bad, .d (i64 i)]++Zaf n .bad
theorem r20 (a c:List (List Dv)) (i:Int):wpc prog ⟨[], [],wl,y,false⟩ 100 lp20 (tmCmp 20 [] a c i) [] b (maskT [0,1,4,5] K)=(BIf (decide (i<((Zab a:Nat):Int))) (BIf (true&&decide (0≤i)) (∃(x0:Int),a[Zat i]? =some [u8 x0]∧BIf (true&&decide (0≤i)) (∃(x3:Int),c[Zat i]? =some [u8 x3]∧BIf (x0 !=x3) (K .ret (Zae (Zam 1 a)::Zae (Zam 1 c)::Zba::Zba::Zae (bo false)::Zae (i64 i)::bds 20 []) [] b) (K .normal (Zae (Zam 1 a)::Zae (Zam 1 c)::bds 3 (Zae (i64 (Zac .i64 (i+1)))::bds 20 [])) [] b)) False) False) (K (Exit.exit 0) (Zae (Zam 1 a)::Zae (Zam 1 c)::bds 3 (Zae (i64 i)::bds 20 [])) [] b)):=by kernel_rfl
theorem AUn9 {p:List (List Int)} {k:Nat} (h:k<p.length):(AAc9 p)[k]? =some [.sl 1 (AAb9 (nthL p k))]:=by simp [AAc9,nthL,h]
theorem AWl9 {p:List (List Int)} {k:Nat} (h:k<p.length):(AAh9 p)[k]? =some [.sl 1 (digR (nthL p k))]:=by simp [AAh9,nthL,h]
theorem AEf9 {α:Type} {p:List (List α)} {k:Nat} (h:k<p.length):nthL p k∈p:=by
 rw [nthL,List.getD_eq_getElem?_getD,Zbk h];exact List.getElem_mem h
theorem wr20 {Ev:Env prog} {b:Ev.β} {Q:Exit→St Ev.β→Prop} (a c:List Int) (hl:a.length=c.length) (hb:a.length≤9223372036854775807) (h1:a=c→∀i:Int,Q (.exit 0) ⟨tmCmp 20 [] (AAb9 a) (AAb9 c) i, [],b⟩) (h2:a≠c→∀i:Int,Q .ret ⟨(tmCmp 20 [] (AAb9 a) (AAb9 c) i).set 4 (.d (bo false)), [],b⟩):
 WR Ev lp20 (a.length+1) ⟨tmCmp 20 [] (AAb9 a) (AAb9 c) (0:Nat), [],b⟩ Q:=by
 refine WR.scan (X:=⟨[], [],wlW Ev,Ev.Y,false⟩) (k:=100) [0,1,4,5] mixed (CX.Ok.of Zai Zad) a.length (fun i=>nth a i !=nth c i) (fun i=>tmCmp 20 [] (AAb9 a) (AAb9 c) (i:Nat)) (fun i=>(tmCmp 20 [] (AAb9 a) (AAb9 c) (i:Nat)).set 4 (.d (bo false))) [] 0 (fun i hi K k1 k2=> ?_) (fun K k1=> ?_) (fun h=>h1 ?_ _) fun h i=>h2 ?_ _
 ·rw [r20,AAf9];refine Zbr (by simp<;>omega) (Zbr (by simp) ⟨nth a i,by rw [Zbn];exact BGc9 hi,Zbr (by simp) ⟨nth c i,by rw [Zbn];exact BGc9 (by omega),Zau (fun g=>k1 g) fun g=> ?_⟩⟩);rw [ACt9 hi hb];exact k2 g
 ·rw [r20,AAf9];exact Zdb (by simp) k1
 ·rw [BKr9 hl] at h;simpa using h
 ·rw [BKr9 hl] at h;simpa using h
def wl20I {β:Type}:WLT β:=fun t tm hp b K=>∃(a c:List Int) (z:Bool),t= .loop lp20∧ABo9 [0,1,5] 0 tm=tmCmp 20 [] (AAb9 a) (AAb9 c) 0∧hp= []∧((a.length=c.length∧a.length≤9223372036854775807)∧z=decide (a=c))∧
 BIf z (∀i:Int,K (.exit 0) (tmCmp 20 [] (AAb9 a) (AAb9 c) i) [] b) (∀i:Int,K .ret ((tmCmp 20 [] (AAb9 a) (AAb9 c) i).set 4 (.d (bo false))) [] b)
theorem BNw9 {Ev:Env prog} (c:Code) (tm:List AV) (hp:List Blk) (b:Ev.β) (K:Exit→List AV→List Blk→Ev.β→Prop) (h:wl20I c tm hp b K):W Ev c ⟨tm,hp,b⟩ (fun e s=>K e s.tm s.hp s.b):=by
 obtain ⟨a,d,z,rfl,htm,rfl,⟨⟨hl,hb⟩,hz⟩,hK⟩:=h;refine W.cast (htm▸AAg9 _ tm 0) (Zcx _) ?_;exact W.rounds (wr20 (Q:=fun e s=>K e s.tm s.hp s.b) a d hl hb (fun h=>by rw [hz,decide_eq_true h] at hK;exact hK) fun h=>by rw [hz,decide_eq_false h] at hK;exact hK)
theorem BWq9 (a c:List (List Dv)):wpFn prog ⟨[], [],wl20I,y,false⟩ 100 f31 [.d (.sl 1 a), .d (.sl 1 c)] b R=(BIf (((Zab a:Nat):Int) !=((Zab c:Nat):Int)) (R (.d (bo false)) b) (∃(a0:List Int) (c1:List Int) (z2:Bool),Zbq lp20=Zbq lp20∧(Zae (Zam 1 a)::Zae (Zam 1 c)::bds 3 (Zae (i64 0)::bds 20 []))=(Zae (Zam 1 (AAb9 a0))::Zae (Zam 1 (AAb9 c1))::bds 3 (Zae (i64 0)::bds 20 []))∧([]:List Blk)= []∧((Zab a0=Zab c1∧Zab a0≤9223372036854775807)∧z2=decide (a0=c1))∧BIf z2 (∀(i:Int),R (.d (bo true)) b) (∀(i:Int),R (.d (bo false)) b))):=by kernel_rfl
theorem BVl9 (a c:List Int) (ha:a.length≤9223372036854775807):PCall prog 31 [.d (.sl 1 (AAb9 a)), .d (.sl 1 (AAb9 c))] (.d (bo (decide (a=c)))):=by
 refine PCall.ofFnW (n:=100) (u:=false) (fun _=>wl20I) mixed Zai Zad (fun Ev=>BNw9) func31 (by rfl) (by rfl) fun Ev bb=> ?_;rw [BWq9,AAf9,AAf9];refine Zau (fun g=> ?_) fun g=>⟨a,c,_,rfl,rfl,rfl,⟨⟨by simp at g;omega,ha⟩,rfl⟩,Zau (fun h i=>by rw [h]) fun h i=>by rw [h]⟩;rw [decide_eq_false fun h=>by rw [h] at g;simp at g]
def BRy9 (args:List AV) (K:AV→Prop):Prop:=∃(a c:List Int) (z:Bool),args= [.d (.sl 1 (AAb9 a)), .d (.sl 1 (AAb9 c))]∧(a.length≤9223372036854775807∧z=decide (a=c))∧K (.d (bo z))
theorem AYb9:∀args K,BRy9 args K→∃x,PCall prog 31 args x∧K x:=by
 rintro _ K ⟨a,c,_,rfl,⟨hl,rfl⟩,h⟩;exact ⟨_,BVl9 a c hl,h⟩
theorem AJb9:∀(n w k:Nat) (q:List Int) (s:Int),(q.length<lenW n w k→AEz9 (walkP n w k) q s=none)∧(lenW n w k≤q.length→∃z,AEz9 (walkP n w k) q s=some (q.drop (lenW n w k),z))
 |0,w,k,q,s=>⟨fun h=>by simp [lenW] at h,fun _=>⟨s,rfl⟩⟩
 | n+1,w,k,q,s=>by
  by_cases h1:1<w
  ·rw [lenW,if_pos h1,walkP,if_pos h1];by_cases h2:sibN k<w
   ·rw [if_pos h2,decide_eq_true h2];cases q with
    |nil=>exact ⟨fun _=>ASy9 _ _ _,fun h=>by simp at h⟩
    | cons x q=>
     cases hb:k % 2==1 with
     | true=>
      rw [AVd9];have:=AJb9 n ((w+1) / 2) (k / 2) q (pairS x s);refine ⟨fun h=>this.1 (by simp at h;omega),fun h=> ?_⟩;obtain ⟨z,hz⟩:=this.2 (by simp at h;omega);exact ⟨z,by rw [hz,Zem 1,List.drop_succ_cons]⟩
     | false=>
      rw [AVe9];have:=AJb9 n ((w+1) / 2) (k / 2) q (pairS s x);refine ⟨fun h=>this.1 (by simp at h;omega),fun h=> ?_⟩;obtain ⟨z,hz⟩:=this.2 (by simp at h;omega);exact ⟨z,by rw [hz,Zem 1,List.drop_succ_cons]⟩
   ·rw [if_neg h2,decide_eq_false h2,AVf9,Nat.zero_add];exact AJb9 n ((w+1) / 2) (k / 2) q s
  ·rw [lenW,if_neg h1,walkP,if_neg h1];exact ⟨fun h=>by simp at h,fun _=>⟨s,rfl⟩⟩
theorem BMb9:∀(n w k:Nat),lenW n w k≤n
 |0,w,k=>by simp [lenW]
 | n+1,w,k=>by
  have:=BMb9 n ((w+1) / 2) (k / 2);rw [lenW];split
  ·split<;>omega
  ·omega
def APr9 (p:List Int) (i:Nat):List Int:=(p.drop (i*256)).take 256
theorem AZi9 (p:List Int) (i:Nat):APr9 (p.drop 256) i=APr9 p (i+1):=by
 rw [APr9,APr9,List.drop_drop];congr 2;omega
theorem AMu9:∀(n:Nat) (p:List Int),p.length≤n→ADe9 256 n p=(Zay ((p.length+255) / 256)).map (APr9 p)
 | 0,p,h=>by
  have:p= []:=List.length_eq_zero_iff.1 (by omega);subst this;rfl
 | n+1,p,h=>by
  rw [ADe9];cases hp:p with
  |nil=>rfl
  | cons a l=>
   rw [if_neg (by simp),←hp];have hl:1≤p.length:=by rw [hp];simp
   rw [AMu9 n (p.drop 256) (by simp;omega)];have e:(p.length+255) / 256=((p.drop 256).length+255) / 256+1:=by rw [List.length_drop];omega
   rw [e,List.range_succ_eq_map,Zdu,List.map_map];refine congr (congrArg _ ?_) (List.map_congr_left fun i _=>AZi9 p i);rw [APr9];simp
theorem ADp9 (p:List Int):ABn9 p=(Zay ((p.length+255) / 256)).map fun i=>padS (APr9 p i):=by
 rw [ABn9,AMu9 _ _ (Zas _),List.map_map];rfl
theorem APq9 (p:List Int) (i:Nat):(APr9 p i).length≤256:=by rw [APr9,List.length_take];omega
theorem BKn9 {p:List Int}:∀r∈AAb9 p,r.length=1:=by
 intro r hr;simp only [AAb9,Zbd] at hr;obtain ⟨_,_,rfl⟩:=hr;rfl
theorem AXp9 (f:Int→Bool):∀l:List Int,l.dropWhile f= []↔∀x∈l,f x=true
 | []=>by simp
 | a::l=>by
  rw [Zcz];split
  ·rename_i h;rw [AXp9 f l];refine ⟨fun g x hx=> ?_,fun g x hx=>g x (Zaw _ hx)⟩;rcases Zbx.1 hx with rfl|hx
   ·exact h
   ·exact g x hx
  ·rename_i h;exact ⟨fun g=>(by cases g),fun g=>absurd (g a (Zbb ..)) h⟩
theorem AVw9 (l:List Int):(0<(trimS l).length)↔l.all (· ==0)=false:=by
 have key:trimS l= []↔∀x∈l,x=0:=by
  rw [trimS,AXp9];constructor
  ·intro h x hx;have hx':x∈l.reverse:=List.mem_reverse.2 hx;rw [←List.takeWhile_append_dropWhile (p:=(· ==(0:Int))) (l:=l.reverse)] at hx';rcases Zco.1 hx' with h1|h1
   ·simpa using (Zav.1 (List.all_takeWhile (p:=(· ==(0:Int))) (l:=l.reverse)) x h1)
   ·have:=h x (by rw [trimR,List.mem_reverse];exact h1);simpa using this
  ·intro h x hx;rw [trimR,List.mem_reverse] at hx;have:=h x (List.mem_reverse.1 ((Zei _).subset hx));simp [this]
 constructor
 ·intro h;cases hl:l.all (· ==0) with
  |false=>rfl
  | true=>
   have:trimS l= []:=key.2 fun x hx=>by simpa using Zav.1 hl x hx
   rw [this] at h;simp at h
 ·intro h;apply Classical.byContradiction;intro hc;have:trimS l= []:=List.length_eq_zero_iff.1 (by omega);have:=key.1 this;have:l.all (· ==0)=true:=Zav.2 fun x hx=>by simp [this x hx]
  rw [this] at h;cases h
noncomputable def lp22:Code:=sub [1,1,1,1,1,1,0,1,2,3] (code f60)
def tm22 (p q:List (List Dv)) (i:Int):List AV:= [.bad, .d (.sl 1 p), .d (.sl 1 q), .ptr 0 0, .bad, .bad, .ptr 1 0, .bad, .bad, .ptr 2 0, .d (i64 i)]++Zaf 92 .bad
theorem r22 (s:SprT) (b1:Blk) (p q X Y:List (List Dv)) (i:Int):wpc prog ⟨[], [],wl,y,false⟩ 100 lp22 (tm22 p q i) [blkSI s,b1,outB s (.own 33 1 X) (.own 28 1 Y)] b (maskT [1,2,3,6,9,10] K)=(BIf (decide (i<((Zab (AAc9 (SprT.ps s)):Nat):Int))) (BIf (true&&decide (0≤i)) (∃(xs0:List (List Dv)),(AAc9 (SprT.ps s))[Zat i]? =some [Zam 1 xs0]∧BIf (decide (Zab xs0*1≤140737488355328)) (BIf (true&&decide (0≤i)) (∃(xs3:List (List Dv)),(AAh9 (SprT.qs s))[Zat i]? =some [Zam 1 xs3]∧BIf (decide (Zab xs3*8≤140737488355328)) (BIf (true&&decide ((Zab X+1)*24≤140737488355328)) (BIf (true&&decide ((Zab Y+1)*24≤140737488355328)) (K .normal (Zba::Zae (Zam 1 p)::Zae (Zam 1 q)::Zbe 0 0::Zba::Zba::Zbe 1 0::Zba::Zba::Zbe 2 0::Zae (i64 (Zac .i64 (i+1)))::bds 92 []) [Blk.mk (Qz1 s) false false 0,b1,Blk.mk [Zae (i64 (NotT.v (SprT.no s))),Zae (i64 (NotT.n (SprT.no s))),Zae (u64 (NotT.r (SprT.no s))),Zae (i64 (NotT.t (SprT.no s))),Zdh 33 1 (X++ [[Zam 1 xs0]]),Zdh 28 1 (Y++ [[Zam 1 xs3]]),Zae (Zdy (.slice none 0 0)),Zae (Zdy (.slice none 0 0)),Zae (i64 (SprT.i1 s)),Zae (i64 (SprT.i2 s)),Zae (i64 (SprT.i3 s)),Zae (i64 (SprT.i4 s)),Zae (i64 (SprT.i5 s))] false false 0] b) False) False) False) False) False) False) (K (Exit.exit 0) (Zba::Zae (Zam 1 p)::Zae (Zam 1 q)::Zbe 0 0::Zba::Zba::Zbe 1 0::Zba::Zba::Zbe 2 0::Zae (i64 i)::bds 92 []) [Blk.mk (Qz1 s) false false 0,b1,Blk.mk (Qz20 s X Y) false false 0] b)):=by kernel_rfl
theorem BHf9 {p:List Int} (h:ADd9 p.length=true):areS (ABn9 p)=true:=by
 obtain ⟨k,hk,hk1,hk2⟩:=AGd9 h;have hl:(ABn9 p).length=(p.length+255) / 256:=by rw [ADp9];simp
 have ha:APa9 (ABn9 p)=false:=by
  rw [APa9,List.any_eq_false];intro q hq;rw [ADp9] at hq;obtain ⟨i,_,rfl⟩:=Zbd.1 hq;have:=APs9 (APq9 p i);simp;omega
 rw [areS,ha,hl];have:p.length=k:=by omega
 rw [decide_eq_true (by omega),decide_eq_true (by omega)];rfl
def AYx9 (p:List Int):List (List Int)×Int:=if ADd9 p.length then (ABn9 p,0) else ([],1)
def BFf9 (args:List AV) (K:AV→Prop):Prop:=∃(p:List Int) (q:List (List Int)) (e:Int),args= [.d (.sl 1 (AAb9 p))]∧(p.length≤9223372036854775807∧(q,e)=AYx9 p)∧K (.tup [.d (.sl 1 (AAc9 q)), .d (i64 e)])
theorem ATe9:∀args K,BFf9 args K→∃x,PCall prog 27 args x∧K x:=by
 rintro _ K ⟨p,q,e,rfl,⟨hl,he⟩,h⟩;have h1:=BLu9 p hl;rw [AYx9] at he;split at he
 ·rename_i hz;rw [if_pos hz] at h1;cases he;exact ⟨_,h1,h⟩
 ·rename_i hz;rw [if_neg hz] at h1;cases he;exact ⟨_,h1,h⟩
def smpF (i:Nat):Int:=Zac .u8 (Zac .i64 ((i:Int)*7))
def smp:List Int:=(Zay 300).map smpF
structure TrT where
 iv:Int
 bg:Int
 fi:Int
 ct:Int
 sd:Int
def trL (t:TrT):List AV:= [.d (i64 t.iv), .d (i64 t.bg), .d (i64 t.fi), .d (i64 t.ct), .d (i64 t.sd)]
def trV (t:TrT):AV:= .agg (trL t)
def trB (t:TrT):Blk:=⟨trL t,false,false,0⟩
def noL (n:NotT):List AV:= [.d (i64 n.v), .d (i64 n.n), .d (u64 n.r), .d (i64 n.t)]
def spL (s:SprT):List AV:= [.d (i64 s.no.v), .d (i64 s.no.n), .d (u64 s.no.r), .d (i64 s.no.t), .d (.sl 1 (AAc9 s.ps)), .d (.sl 1 (AAh9 s.qs)), .d (.sl 2 s.rows), .d (.sl 1 (digR s.pf)), .d (i64 s.i1), .d (i64 s.i2), .d (i64 s.i3), .d (i64 s.i4), .d (i64 s.i5)]
def inS (n lo hi:Int):Bool:=decide (lo≤n)&&decide (n≤hi)
theorem in_nf (n lo hi:Int):wpFn prog ⟨[], [],wl,y,false⟩ 100 f186 [.d (i64 n), .d (i64 lo), .d (i64 hi)] b R=(BIf (decide (n≥lo)) (R (Zae (bo (decide (n≤hi)))) b) (R (Zae (bo false)) b)):=by kernel_rfl
theorem pcIn (n lo hi:Int):PCall prog 186 [.d (i64 n), .d (i64 lo), .d (i64 hi)] (.d (bo (inS n lo hi))):=by
 refine Zbh (n:=100) (u:=false) mixed Zai Zad func186 (by rfl) (by rfl) fun Ev bb=> ?_;rw [in_nf];have e:inS n lo hi=(decide (n≥lo)&&decide (n≤hi)):=rfl;rw [e];exact Zau (fun h=>by rw [h];rfl) fun h=>by rw [h];rfl
def cIn (args:List AV) (K:AV→Prop):Prop:=∃(n lo hi:Int),args= [.d (i64 n), .d (i64 lo), .d (i64 hi)]∧K (.d (bo (inS n lo hi)))
theorem BXf9:∀args K,cIn args K→∃x,PCall prog 186 args x∧K x:=by
 rintro _ K ⟨n,lo,hi,rfl,h⟩;exact ⟨_,pcIn n lo hi,h⟩
def TIn:List (Nat×(List AV→(AV→Prop)→Prop)):= [(186,cIn)]
theorem BYb9:AAk9 prog TIn:=Zag BXf9 Zai
def AEh9 (x:Int):Bool:=inS x 0 1000000000
def ACi9 (x:Int):Bool:=inS x 0 999999984
theorem BOa9 (n:Int):wpFn prog ⟨TIn, [],wl,y,false⟩ 100 f140 [.d (i64 n)] b R=(∃(n0:Int) (lo1:Int) (hi2:Int), [Zae (i64 n),Zae (i64 0),Zae (i64 1000000000)]= [Zae (i64 n0),Zae (i64 lo1),Zae (i64 hi2)]∧R (.d (bo (inS n0 lo1 hi2))) b):=by kernel_rfl
theorem BQw9 (n:Int):wpFn prog ⟨TIn, [],wl,y,false⟩ 100 f135 [.d (i64 n)] b R=(∃(n0:Int) (lo1:Int) (hi2:Int), [Zae (i64 n),Zae (i64 0),Zae (i64 999999984)]= [Zae (i64 n0),Zae (i64 lo1),Zae (i64 hi2)]∧R (.d (bo (inS n0 lo1 hi2))) b):=by kernel_rfl
theorem BUx9 (n:Int):PCall prog 140 [.d (i64 n)] (.d (bo (AEh9 n))):=by
 refine Zbh (n:=100) (u:=false) mixed BYb9 Zad func140 (by rfl) (by rfl) fun Ev bb=> ?_;rw [BOa9];exact ⟨_,_,_,rfl,rfl⟩
theorem BVg9 (n:Int):PCall prog 135 [.d (i64 n)] (.d (bo (ACi9 n))):=by
 refine Zbh (n:=100) (u:=false) mixed BYb9 Zad func135 (by rfl) (by rfl) fun Ev bb=> ?_;rw [BQw9];exact ⟨_,_,_,rfl,rfl⟩
def BRj9 (args:List AV) (K:AV→Prop):Prop:=∃(n:Int),args= [.d (i64 n)]∧K (.d (bo (AEh9 n)))
def BRw9 (args:List AV) (K:AV→Prop):Prop:=∃(n:Int),args= [.d (i64 n)]∧K (.d (bo (ACi9 n)))
theorem AXs9:∀args K,BRj9 args K→∃x,PCall prog 140 args x∧K x:=by
 rintro _ K ⟨n,rfl,h⟩;exact ⟨_,BUx9 n,h⟩
theorem AXz9:∀args K,BRw9 args K→∃x,PCall prog 135 args x∧K x:=by
 rintro _ K ⟨n,rfl,h⟩;exact ⟨_,BVg9 n,h⟩
def TIv:List (Nat×(List AV→(AV→Prop)→Prop)):= [(186,cIn),(135,BRw9),(140,BRj9)]
theorem CDg9:AAk9 prog TIv:=Zag BXf9 (Zag AXz9 (Zag AXs9 Zai))
def TFi:List (Nat×(List AV→(AV→Prop)→Prop)):= [(153,c58)]
theorem CDj9:AAk9 prog TFi:=Zag BXk9 Zai
theorem BEf9 (t:TrT):wpFn prog ⟨TIv, [],wl,y,false⟩ 100 f134 [trV t] b R=(∃(n0:Int) (lo1:Int) (hi2:Int), [Zae (i64 (TrT.iv t)),Zae (i64 1),Zae (i64 8)]= [Zae (i64 n0),Zae (i64 lo1),Zae (i64 hi2)]∧BIf (!inS n0 lo1 hi2) (R (.d (bo false)) b) (BIf (Zac .i64 ((BitVec.toNat (Zap 64 (TrT.iv t)&&&Zap 64 (Zac .i64 (TrT.iv t - (1:Int)))):Nat):Int) !=(0:Int)) (R (.d (bo false)) b) (∃(n3:Int), [Zae (i64 (TrT.bg t))]= [Zae (i64 n3)]∧BIf (!ACi9 n3) (R (.d (bo false)) b) (∃(n4:Int), [Zae (i64 (TrT.sd t))]= [Zae (i64 n4)]∧BIf (!AEh9 n4) (R (.d (bo false)) b) (∃(n5:Int) (lo6:Int) (hi7:Int), [Zae (i64 (TrT.fi t)),Zae (i64 (Zac .i64 (TrT.bg t+Zac .i64 (Zcn (TrT.iv t) (2:Int))))),Zae (i64 (Zac .i64 (Zac .i64 (TrT.bg t+TrT.iv t) - (1:Int))))]= [Zae (i64 n5),Zae (i64 lo6),Zae (i64 hi7)]∧BIf (inS n5 lo6 hi7) (∃(n8:Int) (lo9:Int) (hi10:Int), [Zae (i64 (TrT.ct t)),Zae (i64 0),Zae (i64 100)]= [Zae (i64 n8),Zae (i64 lo9),Zae (i64 hi10)]∧R (.d (bo (inS n8 lo9 hi10))) b) (R (.d (bo false)) b)))))):=by kernel_rfl
theorem BSf9 (s n:Int):wpFn prog ⟨TFi, [],wl,y,false⟩ 100 f187 [.d (u64 s), .d (i64 n)] b R=(BIf (decide (n<(1:Int))) (R (.d (i64 0)) b) (BIf (decide (n>(1000000000:Int))) (R (.d (i64 0)) b) (∃(x0:Int), [Zae (u64 s)]= [Zae (u64 x0)]∧BIf (decide (n=(0:Int))||false) False (R (.d (i64 (Int.tmod (AKl9 x0) n))) b)))):=by kernel_rfl
def ABb9 (t:TrT):Bool:=(decide (t.iv=1)||decide (t.iv=2)||decide (t.iv=4)||decide (t.iv=8))&&ACi9 t.bg&&AEh9 t.sd&&(decide (t.bg+t.iv / 2≤t.fi)&&decide (t.fi≤t.bg+t.iv - 1))&&inS t.ct 0 100
theorem AEg9 {n lo hi:Int}:inS n lo hi=true↔lo≤n∧n≤hi:=by simp [inS]
theorem BLt9 {n:Int} (h:inS n 1 8=true):(Zac Zax ((BitVec.toNat (Zap 64 n&&&Zap 64 (Zac Zax (n - 1))):Nat):Int) !=0)= !(decide (n=1)||decide (n=2)||decide (n=4)||decide (n=8)):=by
 rw [AEg9] at h;obtain ⟨h1,h2⟩:=h;have:n=1∨n=2∨n=3∨n=4∨n=5∨n=6∨n=7∨n=8:=by omega
 rcases this with rfl|rfl|rfl|rfl|rfl|rfl|rfl|rfl<;>rfl
theorem BVt9 {n:Int} (h:inS n 1 8=false):(decide (n=1)||decide (n=2)||decide (n=4)||decide (n=8))=false:=by
 have h':¬(1≤n∧n≤8):=fun hc=>by rw [AEg9.2 hc] at h;cases h
 simp only [Bool.or_eq_false_iff,decide_eq_false_iff_not];omega
theorem ADi9 {t:TrT}:ABb9 t=true↔(t.iv=1∨t.iv=2∨t.iv=4∨t.iv=8)∧(0≤t.bg∧t.bg≤999999984)∧(0≤t.sd∧t.sd≤1000000000)∧(t.bg+t.iv / 2≤t.fi∧t.fi≤t.bg+t.iv - 1)∧0≤t.ct∧t.ct≤100:=by
 simp only [ABb9,Zal,Bool.or_eq_true,decide_eq_true_eq,ACi9,AEh9,AEg9,and_assoc,or_assoc]
theorem nbt {x:Bool} (h:(!x)=true):x=false:=by cases x<;>first|rfl|cases h
theorem nbf {x:Bool} (h:(!x)=false):x=true:=by cases x<;>first|rfl|cases h
theorem wr64 {x:Int} (h1: -9223372036854775808≤x) (h2:x≤9223372036854775807):Zac .i64 x=x:=AAt9 h1 (by omega)
theorem BIc9 (t:TrT):PCall prog 134 [trV t] (.d (bo (ABb9 t))):=by
 refine Zbh (n:=100) (u:=false) mixed CDg9 Zad func134 (by rfl) (by rfl) fun Ev bb=> ?_;rw [BEf9];refine ⟨_,_,_,rfl,Zau (fun g=> ?_) fun g1=>Zau (fun g=> ?_) fun g2=>⟨_,rfl,Zau (fun g=> ?_) fun g3=>⟨_,rfl,Zau (fun g=> ?_) fun g4=>⟨_,_,_,rfl, ?_⟩⟩⟩⟩
 ·have g:inS t.iv 1 8=false:=by simpa using g
  rw [show ABb9 t=false by simp only [ABb9,BVt9 g,Bool.false_and]]
 ·have g1:inS t.iv 1 8=true:=by simpa using g1
  rw [BLt9 g1] at g;rw [show ABb9 t=false by simp only [ABb9,nbt g,Bool.false_and]]
 ·rw [show ABb9 t=false by simp only [ABb9,nbt g,Bool.false_and,Bool.and_false]]
 ·rw [show ABb9 t=false by simp only [ABb9,nbt g,Bool.false_and,Bool.and_false]]
 ·have g1:inS t.iv 1 8=true:=by simpa using g1
  rw [BLt9 g1] at g2;have g3:ACi9 t.bg=true:=by simpa using g3
  have g4:AEh9 t.sd=true:=by simpa using g4
  have g2:(decide (t.iv=1)||decide (t.iv=2)||decide (t.iv=4)||decide (t.iv=8))=true:=nbf g2;have b1:=AEg9.1 g1;have b3:=AEg9.1 g3;have e1:Zac Zax (t.bg+Zac Zax (Zcn t.iv 2))=t.bg+t.iv / 2:=by
   rw [Zdd (by omega),wr64 (x:=t.iv / 2) (by omega) (by omega),wr64 (by omega) (by omega)]
  have e2:Zac Zax (Zac Zax (t.bg+t.iv) - 1)=t.bg+t.iv - 1:=by
   rw [wr64 (x:=t.bg+t.iv) (by omega) (by omega),wr64 (by omega) (by omega)]
  have ev:ABb9 t=(inS t.fi (t.bg+t.iv / 2) (t.bg+t.iv - 1)&&inS t.ct 0 100):=by
   simp only [ABb9,g2,g3,g4,Bool.true_and];rfl
  rw [e1,e2,ev];refine Zau (fun h=> ?_) fun h=> ?_
  ·rw [h,Bool.true_and];exact ⟨_,_,_,rfl,rfl⟩
  ·rw [h];rfl
def BFs9 (args:List AV) (K:AV→Prop):Prop:=∃(t:TrT),args= [trV t]∧K (.d (bo (ABb9 t)))
theorem BAe9:∀args K,BFs9 args K→∃x,PCall prog 134 args x∧K x:=by
 rintro _ K ⟨n,rfl,h⟩;exact ⟨_,BIc9 n,h⟩
def AIf9 (s n:Int):Int:=if n<1∨n>1000000000 then 0 else Int.tmod (AKl9 s) n
theorem BVm9 (s n:Int):PCall prog 187 [.d (u64 s), .d (i64 n)] (.d (i64 (AIf9 s n))):=by
 refine Zbh (n:=100) (u:=false) mixed CDj9 Zad func187 (by rfl) (by rfl) fun Ev bb=> ?_;rw [BSf9];refine Zau (fun h=> ?_) fun h1=>Zau (fun h=> ?_) fun h2=>⟨_,rfl,Zdb ?_ ?_⟩
 ·rw [AIf9,if_pos (.inl (of_decide_eq_true h))]
 ·rw [AIf9,if_pos (.inr (of_decide_eq_true h))]
 ·have h1:=of_decide_eq_false h1;simp;omega
 ·have h1:=of_decide_eq_false h1;have h2:=of_decide_eq_false h2;rw [AIf9,if_neg (by omega)]
def BXj9 (args:List AV) (K:AV→Prop):Prop:=∃(s n:Int),args= [.d (u64 s), .d (i64 n)]∧K (.d (i64 (AIf9 s n)))
theorem BKl9:∀args K,BXj9 args K→∃x,PCall prog 187 args x∧K x:=by
 rintro _ K ⟨s,n,rfl,h⟩;exact ⟨_,BVm9 s n,h⟩
def TBe:List (Nat×(List AV→(AV→Prop)→Prop)):= [(187,BXj9)]
theorem BYe9:AAk9 prog TBe:=Zag BKl9 Zai
theorem BKp9 (b0:Blk) (t:TrT) (l f:Int):wpc prog ⟨TBe, [],wl,y,false⟩ 100 (code f136) (AAw9 f136 [.ptr 1 0, .d (i64 l), .d (i64 f)]) [b0,trB t] b (fnKS prog f136 RS)=(∃(s0:Int) (n1:Int), [Zae (u64 (Zac .u64 (Zac .u64 ((1000003:Int)*Zac .u64 (TrT.sd t))+Zac .u64 f))),Zae (i64 (Zac .i64 (l - Zac .i64 (Zcn l (2:Int)))))]= [Zae (u64 s0),Zae (i64 n1)]∧RS (AV.tup []) [b0,Blk.mk [Zae (i64 l),Zae (i64 f),Zae (i64 (Zac .i64 (Zac .i64 (f+Zac .i64 (Zcn l (2:Int)))+AIf9 s0 n1))),Zae (i64 0),Zae (i64 (TrT.sd t))] false false 0] b):=by kernel_rfl
theorem BKo9 (b0 b1:Blk) (t:TrT) (l f:Int):wpc prog ⟨TBe, [],wl,y,false⟩ 100 (code f136) (AAw9 f136 [.ptr 2 0, .d (i64 l), .d (i64 f)]) [b0,b1,trB t] b (fnKS prog f136 RS)=(∃(s0:Int) (n1:Int), [Zae (u64 (Zac .u64 (Zac .u64 ((1000003:Int)*Zac .u64 (TrT.sd t))+Zac .u64 f))),Zae (i64 (Zac .i64 (l - Zac .i64 (Zcn l (2:Int)))))]= [Zae (u64 s0),Zae (i64 n1)]∧RS (AV.tup []) [b0,b1,Blk.mk [Zae (i64 l),Zae (i64 f),Zae (i64 (Zac .i64 (Zac .i64 (f+Zac .i64 (Zcn l (2:Int)))+AIf9 s0 n1))),Zae (i64 0),Zae (i64 (TrT.sd t))] false false 0] b):=by kernel_rfl
theorem AIe9 (s:Int) {n:Int} (h1:1≤n) (h2:n≤1000000000):0≤AIf9 s n∧AIf9 s n<n:=by
 have h:=AMl9 s;rw [AIf9,if_neg (by omega),Int.tmod_eq_emod_of_nonneg h.1];exact ⟨Int.emod_nonneg _ (by omega),Int.emod_lt_of_pos _ (by omega)⟩
def AGm9 (sd l f:Int):TrT:=⟨l,f,f+l / 2+AIf9 (1000003*sd+f) (l - l / 2),0,sd⟩
def lenS (l:Int):Prop:=l=1∨l=2∨l=4∨l=8
theorem AOy9 {sd l f:Int} (hl:lenS l) (hf:ACi9 f=true) (hs:AEh9 sd=true):ABb9 (AGm9 sd l f)=true:=by
 have hf:=AEg9.1 hf;have hs:=AEg9.1 hs;unfold lenS at hl;have hb:=AIe9 (1000003*sd+f) (n:=l - l / 2) (by omega) (by omega);rw [ADi9];refine ⟨hl,hf,hs,⟨?_, ?_⟩,by simp [AGm9],by simp [AGm9]⟩<;>(simp only [AGm9];omega)
theorem BGf9 {sd l f:Int} (hl:lenS l) (hf:ACi9 f=true) (hs:AEh9 sd=true):
 Zac IntKind.u64 (Zac IntKind.u64 (1000003*Zac IntKind.u64 sd)+Zac IntKind.u64 f)=1000003*sd+f∧
 Zac Zax (l - Zac Zax (Zcn l 2))=l - l / 2∧
 Zac Zax (Zac Zax (f+Zac Zax (Zcn l 2))+AIf9 (1000003*sd+f) (l - l / 2))=f+l / 2+AIf9 (1000003*sd+f) (l - l / 2):=by
 have hf:=AEg9.1 hf;have hs:=AEg9.1 hs;unfold lenS at hl;have hb:=AIe9 (1000003*sd+f) (n:=l - l / 2) (by omega) (by omega);have e1:Zac Zax (Zcn l 2)=l / 2:=by
  rw [Zdd (by omega),wr64 (by omega) (by omega)]
 rw [e1];refine ⟨?_,wr64 (by omega) (by omega), ?_⟩
 ·rw [AGc9 (x:=sd) (by omega) (by omega),AGc9 (x:=f) (by omega) (by omega),AGc9 (x:=1000003*sd) (by omega) (by omega),AGc9 (by omega) (by omega)]
 ·rw [wr64 (x:=f+l / 2) (by omega) (by omega),wr64 (by omega) (by omega)]
theorem ATk9:Tryz.f136.body=some (code f136):=by rfl
theorem BOq9 (b0:Blk) (t:TrT) (l f:Int) (hl:lenS l) (hf:ACi9 f=true) (hs:AEh9 t.sd=true):SCall prog 136 [.ptr 1 0, .d (i64 l), .d (i64 f)] [b0,trB t] (.tup []) [b0,trB (AGm9 t.sd l f)]:=by
 refine SCall.ofWp (n:=100) (u:=false) mixed BYe9 Zad func136 ATk9 (by rfl) fun Ev b=> ?_;rw [BKp9];obtain ⟨e1,e2,e3⟩:=BGf9 hl hf hs;rw [e1,e2];refine ⟨_,_,rfl,rfl, ?_⟩;rw [e3];rfl
theorem BOp9 (b0 b1:Blk) (t:TrT) (l f:Int) (hl:lenS l) (hf:ACi9 f=true) (hs:AEh9 t.sd=true):SCall prog 136 [.ptr 2 0, .d (i64 l), .d (i64 f)] [b0,b1,trB t] (.tup []) [b0,b1,trB (AGm9 t.sd l f)]:=by
 refine SCall.ofWp (n:=100) (u:=false) mixed BYe9 Zad func136 ATk9 (by rfl) fun Ev b=> ?_;rw [BKo9];obtain ⟨e1,e2,e3⟩:=BGf9 hl hf hs;rw [e1,e2];refine ⟨_,_,rfl,rfl, ?_⟩;rw [e3];rfl
def BOu9 (args:List AV) (hp:List Blk) (K:AV→List Blk→Prop):Prop:=match hp with
 | [b0,b1]=>∃(t:TrT) (l f:Int),args= [.ptr 1 0, .d (i64 l), .d (i64 f)]∧b1=trB t∧(lenS l∧ACi9 f=true∧AEh9 t.sd=true)∧K (.tup []) [b0,trB (AGm9 t.sd l f)]
 | [b0,b1,b2]=>∃(t:TrT) (l f:Int),args= [.ptr 2 0, .d (i64 l), .d (i64 f)]∧b2=trB t∧(lenS l∧ACi9 f=true∧AEh9 t.sd=true)∧K (.tup []) [b0,b1,trB (AGm9 t.sd l f)]
 |_=>False
theorem BHm9:∀args hp K,BOu9 args hp K→∃x hp',SCall prog 136 args hp x hp'∧K x hp':=by
 intro args hp K h;unfold BOu9 at h;split at h
 ·obtain ⟨t,l,f,rfl,rfl,⟨h1,h2,h3⟩,h⟩:=h;exact ⟨_,_,BOq9 _ t l f h1 h2 h3,h⟩
 ·obtain ⟨t,l,f,rfl,rfl,⟨h1,h2,h3⟩,h⟩:=h;exact ⟨_,_,BOp9 _ _ t l f h1 h2 h3,h⟩
 ·exact h.elim
def TTi:List (Nat×(List AV→(AV→Prop)→Prop)):= [(140,BRj9),(135,BRw9),(134,BFs9)]
theorem BKt9:AAk9 prog TTi:=Zag AXs9 (Zag AXz9 (Zag BAe9 Zai))
def STi:List (Nat×(List AV→List Blk→(AV→List Blk→Prop)→Prop)):= [(136,BOu9)]
theorem BKx9:AAn9 prog STi:=Zcr BHm9 Zad
abbrev Qz31:List AV:= [Zbj [Zae (i64 0),Zae (i64 0),Zae (i64 0),Zae (i64 0),Zae (i64 0)],Zae (i64 1)]
theorem BUe9 (s f:Int):wpFn prog ⟨TTi,STi,wl,y,false⟩ 100 f72 [.d (i64 s), .d (i64 f)] b R=(∃(n0:Int), [Zae (i64 s)]= [Zae (i64 n0)]∧BIf (!AEh9 n0) (R (.tup Qz31) b) (∃(n1:Int), [Zae (i64 f)]= [Zae (i64 n1)]∧BIf (!ACi9 n1) (R (.tup Qz31) b) (∃(t2:TrT) (l3:Int) (f4:Int), [Zbe 1 0,Zae (i64 1),Zae (i64 f)]= [Zbe 1 0,Zae (i64 l3),Zae (i64 f4)]∧Blk.mk [Zae (i64 0),Zae (i64 0),Zae (i64 0),Zae (i64 0),Zae (i64 s)] false false 0=Blk.mk (trL t2) false false 0∧((l3=(1:Int)∨l3=(2:Int)∨l3=(4:Int)∨l3=(8:Int))∧ACi9 f4=true∧AEh9 (TrT.sd t2)=true)∧R (.tup [Zbj (trL (AGm9 (TrT.sd t2) l3 f4)),Zae (i64 0)]) b))):=by kernel_rfl
theorem BGz9 (t:TrT) (f:Int):wpFn prog ⟨TTi,STi,wl,y,false⟩ 100 f73 [trV t, .d (i64 f)] b R=(∃(t0:TrT), [Zbj (trL t)]= [Zbj (trL t0)]∧BIf (!ABb9 t0) (R (.agg (trL t)) b) (∃(n1:Int), [Zae (i64 f)]= [Zae (i64 n1)]∧BIf (!ACi9 n1) (R (.agg (trL t)) b) (BIf (TrT.iv t==(1:Int)) (R (.agg (trL t)) b) (∃(t2:TrT) (l3:Int) (f4:Int), [Zbe 2 0,Zae (i64 1),Zae (i64 f)]= [Zbe 2 0,Zae (i64 l3),Zae (i64 f4)]∧Blk.mk (trL t) false false 0=Blk.mk (trL t2) false false 0∧((l3=(1:Int)∨l3=(2:Int)∨l3=(4:Int)∨l3=(8:Int))∧ACi9 f4=true∧AEh9 (TrT.sd t2)=true)∧R (.agg (trL (AGm9 (TrT.sd t2) l3 f4))) b)))):=by kernel_rfl
theorem BOd9 (t:TrT):wpFn prog ⟨TTi,STi,wl,y,false⟩ 100 f74 [trV t] b R=(∃(t0:TrT), [Zbj (trL t)]= [Zbj (trL t0)]∧BIf (ABb9 t0) (∃(z1:Int),(z1=if Zac .i64 (TrT.ct t+(1:Int))<(100:Int) then Zac .i64 (TrT.ct t+(1:Int)) else (100:Int))∧R (.agg [Zae (i64 (TrT.iv t)),Zae (i64 (TrT.bg t)),Zae (i64 (TrT.fi t)),Zae (i64 z1),Zae (i64 (TrT.sd t))]) b) (R (.agg (trL t)) b)):=by kernel_rfl
theorem BOc9 (t:TrT) (f:Int):wpFn prog ⟨TTi,STi,wl,y,false⟩ 100 f63 [trV t, .d (i64 f)] b R=(∃(t0:TrT), [Zbj (trL t)]= [Zbj (trL t0)]∧BIf (!ABb9 t0) (R (.tup [Zbj (trL t),Zae (bo false)]) b) (∃(n1:Int), [Zae (i64 f)]= [Zae (i64 n1)]∧BIf (!ACi9 n1) (R (.tup [Zbj (trL t),Zae (bo false)]) b) (BIf (decide (f<TrT.bg t)) (R (.tup [Zbj (trL t),Zae (bo false)]) b) (BIf (decide (f≥Zac .i64 (TrT.bg t+TrT.iv t))) (∃(z2:Int),(z2=if Zac .i64 ((2:Int)*TrT.iv t)<(8:Int) then Zac .i64 ((2:Int)*TrT.iv t) else (8:Int))∧∃(t3:TrT) (l4:Int) (f5:Int), [Zbe 2 0,Zae (i64 z2),Zae (i64 f)]= [Zbe 2 0,Zae (i64 l4),Zae (i64 f5)]∧Blk.mk (trL t) false false 0=Blk.mk (trL t3) false false 0∧((l4=(1:Int)∨l4=(2:Int)∨l4=(4:Int)∨l4=(8:Int))∧ACi9 f5=true∧AEh9 (TrT.sd t3)=true)∧BIf (f==TrT.fi (AGm9 (TrT.sd t3) l4 f5)) (R (.tup [Zbj (trL (AGm9 (TrT.sd t3) l4 f5)),Zae (bo true)]) b) (R (.tup [Zbj (trL (AGm9 (TrT.sd t3) l4 f5)),Zae (bo false)]) b)) (BIf (f==TrT.fi t) (R (.tup [Zbj (trL t),Zae (bo (decide (TrT.ct t<(2:Int))))]) b) (R (.tup [Zbj (trL t),Zae (bo false)]) b)))))):=by kernel_rfl
def zeroT:TrT:=⟨0,0,0,0,0⟩
def newT (s f:Int):TrT×Int:=if AEh9 s&&ACi9 f then (AGm9 s 1 f,0) else (zeroT,1)
def AHm9 (t:TrT) (f:Int):TrT:=if ABb9 t&&ACi9 f&& !(t.iv==1) then AGm9 t.sd 1 f else t
def hearT (t:TrT):TrT:=if ABb9 t then ⟨t.iv,t.bg,t.fi,min 100 (t.ct+1),t.sd⟩ else t
def AIx9 (t:TrT) (f:Int):TrT:=if t.bg+t.iv≤f then AGm9 t.sd (min 8 (2*t.iv)) f else t
def tickT (t:TrT) (f:Int):TrT×Bool:=if ABb9 t&&ACi9 f&&decide (t.bg≤f) then (AIx9 t f,f==(AIx9 t f).fi&&decide ((AIx9 t f).ct<2)) else (t,false)
theorem BZb9 (s f:Int):PCall prog 72 [.d (i64 s), .d (i64 f)] (.tup [trV (newT s f).1, .d (i64 (newT s f).2)]):=by
 refine Zbh (n:=100) (u:=false) mixed BKt9 BKx9 func72 (by rfl) (by rfl) fun Ev bb=> ?_;rw [BUe9];refine ⟨_,rfl,Zau (fun g=> ?_) fun g1=>⟨_,rfl,Zau (fun g=> ?_) fun g2=> ?_⟩⟩
 ·rw [newT,nbt g];rfl
 ·rw [newT,nbt g,Bool.and_false];rfl
 ·refine ⟨⟨0,0,0,0,s⟩,_,_,rfl,rfl,⟨.inl rfl,nbf g2,nbf g1⟩, ?_⟩;rw [newT,nbf g1,nbf g2];rfl
def cTNew (args:List AV) (K:AV→Prop):Prop:=∃(s f:Int) (z:TrT) (e:Int),args= [.d (i64 s), .d (i64 f)]∧(z,e)=newT s f∧K (.tup [trV z, .d (i64 e)])
theorem BRk9:∀args K,cTNew args K→∃x,PCall prog 72 args x∧K x:=by
 rintro _ K ⟨s,f,z,e,rfl,he,h⟩;have:=BZb9 s f;rw [←he] at this;exact ⟨_,this,h⟩
theorem BLm9 {t:TrT} (h:ABb9 t=true):AEh9 t.sd=true:=AEg9.2 (ADi9.1 h).2.2.1
theorem BPh9 (t:TrT) (f:Int):PCall prog 73 [trV t, .d (i64 f)] (trV (AHm9 t f)):=by
 refine Zbh (n:=100) (u:=false) mixed BKt9 BKx9 func73 (by rfl) (by rfl) fun Ev bb=> ?_;rw [BGz9];refine ⟨t,rfl,Zau (fun g=> ?_) fun g1=>⟨_,rfl,Zau (fun g=> ?_) fun g2=>Zau (fun g=> ?_) fun g3=> ?_⟩⟩
 ·rw [AHm9,nbt g];rfl
 ·rw [AHm9,nbt g,Bool.and_false];rfl
 ·rw [AHm9,g,Bool.not_true,Bool.and_false];rfl
 ·refine ⟨t,_,_,rfl,rfl,⟨.inl rfl,nbf g2,BLm9 (nbf g1)⟩, ?_⟩;rw [AHm9,nbf g1,nbf g2,g3];rfl
def BMl9 (args:List AV) (K:AV→Prop):Prop:=∃(t:TrT) (f:Int) (z:TrT),args= [trV t, .d (i64 f)]∧z=AHm9 t f∧K (trV z)
theorem BFd9:∀args K,BMl9 args K→∃x,PCall prog 73 args x∧K x:=by
 rintro _ K ⟨t,f,_,rfl,rfl,h⟩;exact ⟨_,BPh9 t f,h⟩
theorem BUy9 (t:TrT):PCall prog 74 [trV t] (trV (hearT t)):=by
 refine Zbh (n:=100) (u:=false) mixed BKt9 BKx9 func74 (by rfl) (by rfl) fun Ev bb=> ?_;rw [BOd9];refine ⟨t,rfl,Zau (fun g=>⟨_,rfl, ?_⟩) fun g=> ?_⟩
 ·have h:=ADi9.1 g;rw [hearT,g,if_pos rfl,wr64 (by omega) (by omega)];have e:(if t.ct+1<100 then t.ct+1 else 100)=min 100 (t.ct+1):=by omega
  rw [e];rfl
 ·rw [hearT,g];rfl
def BRl9 (args:List AV) (K:AV→Prop):Prop:=∃(t z:TrT),args= [trV t]∧z=hearT t∧K (trV z)
theorem AXt9:∀args K,BRl9 args K→∃x,PCall prog 74 args x∧K x:=by
 rintro _ K ⟨t,_,rfl,rfl,h⟩;exact ⟨_,BUy9 t,h⟩
theorem BGy9 {t:TrT} {f:Int} (h:ABb9 t=true) (hf:ACi9 f=true):Zac .i64 (t.bg+t.iv)=t.bg+t.iv∧(if Zac Zax (2*t.iv)<8 then Zac Zax (2*t.iv) else 8)=min 8 (2*t.iv)∧lenS (min 8 (2*t.iv)):=by
 have h:=ADi9.1 h;refine ⟨wr64 (by omega) (by omega), ?_, ?_⟩
 ·rw [wr64 (by omega) (by omega)];omega
 ·unfold lenS;omega
theorem BUw9 (t:TrT) (f:Int):PCall prog 63 [trV t, .d (i64 f)] (.tup [trV (tickT t f).1, .d (bo (tickT t f).2)]):=by
 refine Zbh (n:=100) (u:=false) mixed BKt9 BKx9 func63 (by rfl) (by rfl) fun Ev bb=> ?_;rw [BOc9];refine ⟨t,rfl,Zau (fun g=> ?_) fun g1=>⟨_,rfl,Zau (fun g=> ?_) fun g2=>Zau (fun g=> ?_) fun g3=> ?_⟩⟩
 ·rw [tickT,nbt g];rfl
 ·rw [tickT,nbt g,Bool.and_false];rfl
 ·have g:=of_decide_eq_true g;rw [tickT,decide_eq_false (p:=t.bg≤f) (by omega),Bool.and_false];rfl
 have g3:=of_decide_eq_false g3;obtain ⟨e1,e2,e3⟩:=BGy9 (nbf g1) (nbf g2);have e:tickT t f=(AIx9 t f,f==(AIx9 t f).fi&&decide ((AIx9 t f).ct<2)):=by rw [tickT,nbf g1,nbf g2,decide_eq_true (p:=t.bg≤f) (by omega)];rfl
 rw [e,e1,e2];refine Zau (fun g=> ?_) fun g=> ?_
 ·have el:AIx9 t f=AGm9 t.sd (min 8 (2*t.iv)) f:=by rw [AIx9,if_pos (by simpa using g)]
  rw [el];refine ⟨_,rfl,t,_,_,rfl,rfl,⟨e3,nbf g2,BLm9 (nbf g1)⟩,Zau (fun h=> ?_) fun h=> ?_⟩
  ·rw [h];rfl
  ·rw [h];rfl
 ·have el:AIx9 t f=t:=by rw [AIx9,if_neg (by simpa using g)]
  rw [el];refine Zau (fun h=> ?_) fun h=> ?_
  ·rw [h];rfl
  ·rw [h];rfl
def BWy9 (args:List AV) (K:AV→Prop):Prop:=∃(t:TrT) (f:Int) (z:TrT) (e:Bool),args= [trV t, .d (i64 f)]∧(z,e)=tickT t f∧K (.tup [trV z, .d (bo e)])
theorem BKb9:∀args K,BWy9 args K→∃x,PCall prog 63 args x∧K x:=by
 rintro _ K ⟨t,f,z,e,rfl,he,h⟩;have:=BUw9 t f;rw [←he] at this;exact ⟨_,this,h⟩
theorem BHq9 (n:Int):wpFn prog ⟨[], [],wl,y,false⟩ 100 f26 [.d (i64 n)] b R=(BIf (decide (n≥(0:Int))) (R (Zae (bo (decide (n≤(999999984:Int))))) b) (R (Zae (bo false)) b)):=by kernel_rfl
theorem BPo9 (n:Int):PCall prog 26 [.d (i64 n)] (.d (bo (ACi9 n))):=by
 refine Zbh (n:=100) (u:=false) mixed Zai Zad func26 (by rfl) (by rfl) fun Ev bb=> ?_;rw [BHq9];have e:ACi9 n=(decide (n≥0)&&decide (n≤999999984)):=rfl;rw [e];exact Zau (fun h=>by rw [h];rfl) fun h=>by rw [h];rfl
def BMr9 (args:List AV) (K:AV→Prop):Prop:=∃(n:Int) (z:Bool),args= [.d (i64 n)]∧z=ACi9 n∧K (.d (bo z))
theorem BFm9:∀args K,BMr9 args K→∃x,PCall prog 26 args x∧K x:=by
 rintro _ K ⟨n,_,rfl,rfl,h⟩;exact ⟨_,BPo9 n,h⟩
structure StT where
 no:NotT
 ps:List (List Int)
 qs:List (List Int)
 rows:List Row
 pf:List Int
 tr:TrT
def StT.sp (s:StT):SprT:=⟨s.no,s.ps,s.qs,rowsR s.rows,s.pf,s.tr.iv,s.tr.bg,s.tr.fi,s.tr.ct,s.tr.sd⟩
def stD (s:StT):List Dv:= [i64 s.no.v,i64 s.no.n,u64 s.no.r,i64 s.no.t, .sl 1 (AAc9 s.ps), .sl 1 (AAh9 s.qs), .sl 2 (rowsR s.rows), .sl 1 (digR s.pf),i64 s.tr.iv,i64 s.tr.bg,i64 s.tr.fi,i64 s.tr.ct,i64 s.tr.sd]
def stL (s:StT):List AV:= [.d (i64 s.no.v), .d (i64 s.no.n), .d (u64 s.no.r), .d (i64 s.no.t), .d (.sl 1 (AAc9 s.ps)), .d (.sl 1 (AAh9 s.qs)), .d (.sl 2 (rowsR s.rows)), .d (.sl 1 (digR s.pf)), .d (i64 s.tr.iv), .d (i64 s.tr.bg), .d (i64 s.tr.fi), .d (i64 s.tr.ct), .d (i64 s.tr.sd)]
def stV (s:StT):AV:= .agg (stL s)
theorem BUm9 (a n r t:Int):wpFn prog ⟨[], [],wl,y,false⟩ 100 f70 [notA a n r t] b R=(BIf (decide (a≥(1:Int))) (BIf (decide (a≤(1000000000:Int))) (BIf (decide (n≥(1:Int))) (BIf (decide (n≤(4096:Int))) (BIf (decide (t≥(0:Int))) (R (.d (bo (decide (t≤(1000000000:Int))))) b) (R (.d (bo false)) b)) (R (.d (bo false)) b)) (R (.d (bo false)) b)) (R (.d (bo false)) b)) (R (.d (bo false)) b)):=by kernel_rfl
theorem BHl9 (a n r t:Int):wpFn prog ⟨[], [],wl,y,false⟩ 100 f71 [notA a n r t] b R=(R (Zae (i64 (Zac Zax (Zcn (Zac Zax (Zac Zax (n+256) - (1:Int))) (256:Int))))) b):=by kernel_rfl
theorem BHk9 (s:StT):wpFn prog ⟨[], [],wl,y,false⟩ 100 f62 [.rptr (stD s)] b R=(BIf (NotT.v (StT.no s)==(0:Int)&&(NotT.n (StT.no s)==(0:Int)&&(NotT.r (StT.no s)==(0:Int)&&(NotT.t (StT.no s)==(0:Int)&&true)))) (BIf (Zac .i64 (Zac .i64 (Zac .i64 (((Zab (AAc9 (StT.ps s)):Nat):Int)+((Zab (AAh9 (StT.qs s)):Nat):Int))+((Zab (rowsR (StT.rows s)):Nat):Int))+((Zab (digR (StT.pf s)):Nat):Int))==(0:Int)) (BIf (TrT.iv (StT.tr s)==(0:Int)&&(TrT.bg (StT.tr s)==(0:Int)&&(TrT.fi (StT.tr s)==(0:Int)&&(TrT.ct (StT.tr s)==(0:Int)&&(TrT.sd (StT.tr s)==TrT.sd (StT.tr s)&&true))))) (BIf (decide (TrT.sd (StT.tr s)≥(0:Int))) (R (.d (bo (decide (TrT.sd (StT.tr s)≤(1000000000:Int))))) b) (R (.d (bo false)) b)) (R (.d (bo false)) b)) (R (.d (bo false)) b)) (R (.d (bo false)) b)):=by kernel_rfl
def ABe9 (s:StT):Prop:=(s.ps.length≤1000∧∀p∈s.ps,p.length≤1000000)∧(s.qs.length≤1000∧∀q∈s.qs,q.length≤1000000)∧AWf9 s.rows∧s.pf.length≤1000000
def zeroN (n:NotT):Bool:=n.v==0&&(n.n==0&&(n.r==0&&n.t==0))
def AGl9 (s:StT):Bool:=zeroN s.no&&(s.ps.isEmpty&&s.qs.isEmpty&&s.rows.isEmpty&&s.pf.isEmpty)&&(s.tr.iv==0&&(s.tr.bg==0&&(s.tr.fi==0&&s.tr.ct==0)))&&AEh9 s.tr.sd
def fullP (s:StT):Bool:=(s.ps.length:Int)==ABl9 s.no.n
def ALn9 (s:StT):Bool:=ACj9 s.sp
def ACv9 (s:StT):Bool:=AGl9 s||(ALn9 s&&(AEs9 s.rows&&(decide ((s.rows.length:Int)<16)&&((s.rows.isEmpty|| !fullP s)&&((!s.rows.isEmpty||s.pf.isEmpty)&&ABb9 s.tr)))))
theorem BZd9 (a n r t:Int):PCall prog 70 [notA a n r t] (.d (bo (AAi9 a n t))):=by
 refine Zbh (n:=100) (u:=false) mixed Zai Zad func70 (by rfl) (by rfl) fun Ev bb=> ?_;rw [BUm9];have e:AAi9 a n t=(decide (a≥1)&&(decide (a≤1000000000)&&((decide (n≥1)&&decide (n≤4096))&&(decide (t≥0)&&decide (t≤1000000000))))):=rfl;rw [e];refine Zau (fun h1=>Zau (fun h2=>Zau (fun h3=>Zau (fun h4=>Zau (fun h5=> ?_) fun h5=> ?_) fun h4=> ?_) fun h3=> ?_) fun h2=> ?_) fun h1=> ?_
 ·rw [h1,h2,h3,h4,h5];rfl
 ·rw [h5];simp
 ·rw [h4];simp
 ·rw [h3];simp
 ·rw [h2];simp
 ·rw [h1];rfl
theorem BDj9 (a n r t:Int):PCall prog 71 [notA a n r t] (.d (i64 (ABl9 n))):=by
 refine Zbh (n:=100) (u:=false) mixed Zai Zad func71 (by rfl) (by rfl) fun Ev bb=> ?_;rw [BHl9];rfl
def BMq9 (args:List AV) (K:AV→Prop):Prop:=∃(a n r t z:Int),args= [notA a n r t]∧z=ABl9 n∧K (.d (i64 z))
theorem BFk9:∀args K,BMq9 args K→∃x,PCall prog 71 args x∧K x:=by
 rintro _ K ⟨a,n,r,t,_,rfl,rfl,h⟩;exact ⟨_,BDj9 a n r t,h⟩
theorem AHf9 {α:Type} (l:List α):l.isEmpty=decide (l.length=0):=by cases l<;>simp
theorem sum4 {a b c d:Nat} (h:a≤1000000∧b≤1000000∧c≤1000000∧d≤1000000):(Zac Zax (Zac Zax (Zac Zax ((a:Int)+(b:Int))+(c:Int))+(d:Int))==0)=(decide (a=0)&&decide (b=0)&&decide (c=0)&&decide (d=0)):=by
 rw [wr64 (x:=(a:Int)+(b:Int)) (by omega) (by omega),wr64 (x:=(a:Int)+(b:Int)+(c:Int)) (by omega) (by omega),wr64 (by omega) (by omega)];rw [Bool.eq_iff_iff];simp only [beq_iff_eq,Zal,decide_eq_true_eq];omega
theorem BPn9 (s:StT) (hs:ABe9 s):PCall prog 62 [.rptr (stD s)] (.d (bo (AGl9 s))):=by
 refine Zbh (n:=100) (u:=false) mixed Zai Zad func62 (by rfl) (by rfl) fun Ev bb=> ?_;rw [BHk9,AAe9,ABq9,AEi9,ABd9,sum4 ⟨by have:=hs.1.1;omega,by have:=hs.2.1.1;omega,by have:=hs.2.2.1.1;omega,hs.2.2.2⟩];rw [←AHf9,←AHf9,←AHf9,←AHf9];have e:AEh9 s.tr.sd=(decide (s.tr.sd≥0)&&decide (s.tr.sd≤1000000000)):=rfl;have e1:∀x:Int,(x==x)=true:=fun x=>by simp
 rw [AGl9,zeroN,e];simp only [Bool.and_true,e1];refine Zau (fun h1=>Zau (fun h2=>Zau (fun h3=>Zau (fun h4=> ?_) fun h4=> ?_) fun h3=> ?_) fun h2=> ?_) fun h1=> ?_
 ·rw [h1,h2,h3,h4];rfl
 ·rw [h4,Bool.false_and,Bool.and_false]
 ·rw [h3,Bool.and_false];rfl
 ·rw [h2,Bool.and_false];rfl
 ·rw [h1];rfl
def AXx9 (args:List AV) (K:AV→Prop):Prop:=∃(s:StT) (z:Bool),args= [.rptr (stD s)]∧(ABe9 s∧z=AGl9 s)∧K (.d (bo z))
theorem AMx9:∀args K,AXx9 args K→∃x,PCall prog 62 args x∧K x:=by
 rintro _ K ⟨s,_,rfl,⟨hs,rfl⟩,h⟩;exact ⟨_,BPn9 s hs,h⟩
def TWl:List (Nat×(List AV→(AV→Prop)→Prop)):= [(71,BMq9),(74,BRl9),(53,lessC cPut)]
theorem BSl9:AAk9 prog TWl:=Zag BFk9 (Zag AXt9 (Zag (AJr9 BXc9) Zai))
def GB5:List (Nat×(List AV→List Blk→(AV→List Blk→Prop)→Prop)):= [(1000005,fun _ _ _=>False)]
theorem BSs9:AAn9 prog GB5:=Zcr (fun _ _ _ h=>h.elim) Zad
theorem BHa9 (s:StT):wpFn prog ⟨TWl, [],wl,y,false⟩ 100 f121 [.rptr (stD s)] b R=(∃(a0:Int) (n1:Int) (r2:Int) (t3:Int) (z4:Int), [Zbj (noL (StT.no s))]= [Zbj [Zae (i64 a0),Zae (i64 n1),Zae (u64 r2),Zae (i64 t3)]]∧z4=ABl9 n1∧R (.d (bo (((Zab (AAc9 (StT.ps s)):Nat):Int)==z4))) b):=by kernel_rfl
theorem BHc9 (s:StT):wpFn prog ⟨TWl, [],wl,y,false⟩ 100 f133 [.rptr (stD s)] b R=(BIf (decide (TrT.ct (StT.tr s)≥(0:Int))) (BIf (decide (TrT.ct (StT.tr s)≤(100:Int))) (∃(t0:TrT) (z1:TrT), [Zbj [Zae (i64 (TrT.iv (StT.tr s))),Zae (i64 (TrT.bg (StT.tr s))),Zae (i64 (TrT.fi (StT.tr s))),Zae (i64 0),Zae (i64 (TrT.sd (StT.tr s)))]]= [Zbj (trL t0)]∧z1=hearT t0∧R (.d (bo !(TrT.iv z1==TrT.iv (StT.tr s)&&(TrT.bg z1==TrT.bg (StT.tr s)&&(TrT.fi z1==TrT.fi (StT.tr s)&&(TrT.ct z1==(0:Int)&&(TrT.sd z1==TrT.sd (StT.tr s)&&true))))))) b) (R (.d (bo false)) b)) (R (.d (bo false)) b)):=by kernel_rfl
theorem BHd9 (s:StT):wpFn prog ⟨TWl,GB5,wl,y,false⟩ 100 f132 [.rptr (stD s)] b R=(∃(args0:List AV),LeVs [Zbj (stL s),AV.full 1 (AAb9 (Zaf 256 0)),Zae (Zdy (.slice none 0 0))] args0∧∃(s1:SprT) (p2:List Int) (q3:List Int) (z4:SprT) (e5:Int),args0= [Zbj (spL s1),Zae (Zam 1 (AAb9 p2)),Zae (Zam 1 (digR q3))]∧((Zab (SprT.ps s1)≤9223372036854775807∧Zab q3≤1000000∧∀(x:List Int),x∈SprT.qs s1→Zab x≤1000000)∧(z4,e5)=putS s1 p2 q3)∧R (.d (bo (e5 !=(1:Int)))) b):=by kernel_rfl
theorem BPi9 (s:StT):PCall prog 121 [.rptr (stD s)] (.d (bo (fullP s))):=by
 refine Zbh (n:=100) (u:=false) mixed BSl9 Zad func121 (by rfl) (by rfl) fun Ev bb=> ?_;rw [BHa9,AAe9];exact ⟨_,_,_,_,_,rfl,rfl,rfl⟩
def BFg9 (args:List AV) (K:AV→Prop):Prop:=∃(s:StT) (z:Bool),args= [.rptr (stD s)]∧z=fullP s∧K (.d (bo z))
theorem ATf9:∀args K,BFg9 args K→∃x,PCall prog 121 args x∧K x:=by
 rintro _ K ⟨s,_,rfl,rfl,h⟩;exact ⟨_,BPi9 s,h⟩
theorem BPk9 (s:StT):PCall prog 133 [.rptr (stD s)] (.d (bo (ABb9 s.tr))):=by
 refine Zbh (n:=100) (u:=false) mixed BSl9 Zad func133 (by rfl) (by rfl) fun Ev bb=> ?_;rw [BHc9];refine Zau (fun g1=>Zau (fun g2=>⟨⟨s.tr.iv,s.tr.bg,s.tr.fi,0,s.tr.sd⟩,_,rfl,rfl, ?_⟩) fun g2=> ?_) fun g1=> ?_
 ·have g1:=of_decide_eq_true g1;have g2:=of_decide_eq_true g2;have e:ABb9 s.tr=ABb9 ⟨s.tr.iv,s.tr.bg,s.tr.fi,0,s.tr.sd⟩:=by rw [Bool.eq_iff_iff,ADi9,ADi9];simp only;omega
  rw [e];cases hv:ABb9 ⟨s.tr.iv,s.tr.bg,s.tr.fi,0,s.tr.sd⟩
  ·simp [hearT,hv]
  ·have e1:∀x:Int,(x==x)=true:=fun x=>by simp
   simp only [hearT,hv,if_true,e1,Bool.true_and];rfl
 ·have g2:=of_decide_eq_false g2;rw [show ABb9 s.tr=false from Bool.eq_false_iff.2 fun h=>by have:=ADi9.1 h;omega]
 ·have g1:=of_decide_eq_false g1;rw [show ABb9 s.tr=false from Bool.eq_false_iff.2 fun h=>by have:=ADi9.1 h;omega]
def BMn9 (args:List AV) (K:AV→Prop):Prop:=∃(s:StT) (z:Bool),args= [.rptr (stD s)]∧z=ABb9 s.tr∧K (.d (bo z))
theorem BFh9:∀args K,BMn9 args K→∃x,PCall prog 133 args x∧K x:=by
 rintro _ K ⟨s,_,rfl,rfl,h⟩;exact ⟨_,BPk9 s,h⟩
theorem BUs9 {s:SprT} {p q:List Int} (hp:p.length=256):((putS s p q).2 !=1)=ACj9 s:=by
 unfold putS;cases h:ACj9 s
 ·rw [if_pos (.inl rfl)];rfl
 ·rw [if_neg (by simp [hp])];split
  ·rfl
  ·split<;>rfl
theorem BPl9 (s:StT) (hs:ABe9 s):PCall prog 132 [.rptr (stD s)] (.d (bo (ALn9 s))):=by
 refine Zbh (n:=100) (u:=false) mixed BSl9 BSs9 func132 (by rfl) (by rfl) fun Ev bb=> ?_;rw [BHd9];refine ⟨_, .cons .rfl (.cons .full (.cons (.nil rfl) .nil)),s.sp,Zaf 256 0, [],(putS s.sp (Zaf 256 0) []).1,(putS s.sp (Zaf 256 0) []).2,rfl,⟨⟨by have:=hs.1.1;show s.ps.length≤_;omega,by simp,hs.2.1.2⟩,rfl⟩, ?_⟩;show Zae (bo ((putS s.sp (Zaf 256 0) []).2 !=1))=_;rw [BUs9 (List.length_replicate ..)];rfl
def BMo9 (args:List AV) (K:AV→Prop):Prop:=∃(s:StT) (z:Bool),args= [.rptr (stD s)]∧(ABe9 s∧z=ALn9 s)∧K (.d (bo z))
theorem BFi9:∀args K,BMo9 args K→∃x,PCall prog 132 args x∧K x:=by
 rintro _ K ⟨s,_,rfl,⟨hs,rfl⟩,h⟩;exact ⟨_,BPl9 s hs,h⟩
def TVd:List (Nat×(List AV→(AV→Prop)→Prop)):= [(62,AXx9),(132,BMo9),(91,c20),(121,BFg9),(133,BMn9)]
theorem CCx9:AAk9 prog TVd:=Zag AMx9 (Zag BFi9 (Zag BXo9 (Zag ATf9 (Zag BFh9 Zai))))
theorem BHb9 (s:StT):wpFn prog ⟨TVd, [],wl,y,false⟩ 100 f61 [.rptr (stD s)] b R=(∃(s0:StT) (z1:Bool), [Zcj (stD s)]= [Zcj (stD s0)]∧((ABe9 s0)∧z1=AGl9 s0)∧BIf z1 (R (.d (bo true)) b) (∃(s2:StT) (z3:Bool), [Zcj (stD s)]= [Zcj (stD s2)]∧((ABe9 s2)∧z3=ALn9 s2)∧BIf z3 (∃(l4:List Row), [Zae (Zam 2 (rowsR (StT.rows s)))]= [Zae (Zam 2 (rowsR l4))]∧Zab l4≤9223372036854775807∧BIf (AEs9 l4) (BIf (decide (((Zab (rowsR (StT.rows s)):Nat):Int)<(16:Int))) (BIf (((Zab (rowsR (StT.rows s)):Nat):Int)==(0:Int)) (BIf (decide (((Zab (rowsR (StT.rows s)):Nat):Int)>(0:Int))) (∃(s5:StT) (z6:Bool), [Zcj (stD s)]= [Zcj (stD s5)]∧z6=ABb9 (StT.tr s5)∧R (.d (bo z6)) b) (BIf (((Zab (digR (StT.pf s)):Nat):Int)==(0:Int)) (∃(s7:StT) (z8:Bool), [Zcj (stD s)]= [Zcj (stD s7)]∧z8=ABb9 (StT.tr s7)∧R (.d (bo z8)) b) (R (.d (bo false)) b))) (∃(s9:StT) (z10:Bool), [Zcj (stD s)]= [Zcj (stD s9)]∧z10=fullP s9∧BIf (!z10) (BIf (decide (((Zab (rowsR (StT.rows s)):Nat):Int)>(0:Int))) (∃(s11:StT) (z12:Bool), [Zcj (stD s)]= [Zcj (stD s11)]∧z12=ABb9 (StT.tr s11)∧R (.d (bo z12)) b) (BIf (((Zab (digR (StT.pf s)):Nat):Int)==(0:Int)) (∃(s13:StT) (z14:Bool), [Zcj (stD s)]= [Zcj (stD s13)]∧z14=ABb9 (StT.tr s13)∧R (.d (bo z14)) b) (R (.d (bo false)) b))) (R (.d (bo false)) b))) (R (.d (bo false)) b)) (R (.d (bo false)) b)) (R (.d (bo false)) b))):=by kernel_rfl
theorem BMa9 {α:Type} (l:List α):((l.length:Int)==0)=l.isEmpty:=by cases l<;>simp<;>omega
theorem BLz9 {α:Type} (l:List α):decide ((l.length:Int)>0)= !l.isEmpty:=by cases l<;>simp<;>omega
theorem BPj9 (s:StT) (hs:ABe9 s):PCall prog 61 [.rptr (stD s)] (.d (bo (ACv9 s))):=by
 refine Zbh (n:=100) (u:=false) mixed CCx9 Zad func61 (by rfl) (by rfl) fun Ev bb=> ?_;rw [BHb9,AEi9,ABd9,BMa9,BMa9,BLz9];refine ⟨s,_,rfl,⟨hs,rfl⟩,Zau (fun h=>by rw [ACv9,h];rfl) fun h1=>⟨s,_,rfl,⟨hs,rfl⟩,Zau (fun h2=>⟨_,rfl,by have:=hs.2.2.1.1;omega,Zau (fun h3=>Zau (fun h4=>Zau (fun h5=>Zau (fun h6=> ?_) fun h6=>Zau (fun h7=> ?_) fun h7=> ?_) fun h5=>⟨s,_,rfl,rfl,Zau (fun h8=>Zau (fun h6=> ?_) fun h6=>Zau (fun h7=> ?_) fun h7=> ?_) fun h8=> ?_⟩) fun h4=> ?_) fun h3=> ?_⟩) fun h2=> ?_⟩⟩
 ·rw [h5] at h6;cases h6
 ·exact ⟨s,_,rfl,rfl,by rw [ACv9,h1,h2,h3,h4,h5,h7];rfl⟩
 ·rw [ACv9,h1,h2,h3,h4,h5,h7];rfl
 ·exact ⟨s,_,rfl,rfl,by rw [ACv9,h1,h2,h3,h4,h5,nbt h8];rfl⟩
 ·rw [h5] at h6;cases h6
 ·rw [h5] at h6;cases h6
 ·rw [ACv9,h1,h2,h3,h4,h5,nbf h8];rfl
 ·rw [ACv9,h1,h2,h3,h4];rfl
 ·rw [ACv9,h1,h2,h3];rfl
 ·rw [ACv9,h1,h2];rfl
def AXv9 (args:List AV) (K:AV→Prop):Prop:=∃(s:StT) (z:Bool),args= [.rptr (stD s)]∧(ABe9 s∧z=ACv9 s)∧K (.d (bo z))
theorem AMv9:∀args K,AXv9 args K→∃x,PCall prog 61 args x∧K x:=by
 rintro _ K ⟨s,_,rfl,⟨hs,rfl⟩,h⟩;exact ⟨_,BPj9 s hs,h⟩
def TCo:List (Nat×(List AV→(AV→Prop)→Prop)):= [(51,AMz9),(120,BFy9)]
theorem BKw9:AAk9 prog TCo:=Zag AHl9 (Zag ATj9 Zai)
noncomputable def lpCo1:Code:=sub [1,1,0,1,2,3] (code f47)
noncomputable def lpCo2:Code:=sub [1,1,1,0,1,2,3] (code f47)
noncomputable def lpCo3:Code:=sub [1,1,1,1,0,1,2,3] (code f47)
def stB (s:StT):Blk:=⟨stL s,false,false,0⟩
def outC (s:StT) (a c d:AV):Blk:=⟨noL s.no++ [a,c,d, .d (.sl 1 (digR s.pf))]++trL s.tr,false,false,0⟩
def tmCo (g k:Nat) (xs:List (List Dv)) (n i:Int):List AV:= [.bad, .ptr 0 0, .bad, .ptr 1 0]++Zaf (g - 4) .bad++ [.d (.sl k xs), .d (i64 n), .d (i64 i)]++Zaf (67 - g) .bad
theorem rCo1 (s:StT) (n i:Int) (xs:List (List Dv)) (c5 c6:AV):wpc prog ⟨TCo, [],wl,y,false⟩ 100 lpCo1 (tmCo 19 1 (AAc9 s.ps) n i) [stB s,outC s (.own 33 1 xs) c5 c6] b (maskT [1,3,19,20,21] K)=(BIf (decide (i<n)) (BIf (true&&decide (0≤i)) (∃(xs0:List (List Dv)),(AAc9 (StT.ps s))[Zat i]? =some [Zam 1 xs0]∧∃(xs3:List (List Dv)), [Zae (Zam 1 xs0)]= [Zae (Zam 1 xs3)]∧Zab xs3≤1000000∧BIf (true&&decide ((Zab xs+1)*24≤140737488355328)) (K .normal (Zba::Zbe 0 0::Zba::Zbe 1 0::bds 15 (Zae (Zam 1 (AAc9 (StT.ps s)))::Zae (i64 n)::Zae (i64 (Zac .i64 (i+1)))::bds 48 [])) [stB s,Blk.mk [Zae (i64 (NotT.v (StT.no s))),Zae (i64 (NotT.n (StT.no s))),Zae (u64 (NotT.r (StT.no s))),Zae (i64 (NotT.t (StT.no s))),Zdh 33 1 (xs++ [[Zam 1 xs3]]),c5,c6,Zae (Zam 1 (digR (StT.pf s))),Zae (i64 (TrT.iv (StT.tr s))),Zae (i64 (TrT.bg (StT.tr s))),Zae (i64 (TrT.fi (StT.tr s))),Zae (i64 (TrT.ct (StT.tr s))),Zae (i64 (TrT.sd (StT.tr s)))] false false 0] b) False) False) (K (Exit.exit 0) (Zba::Zbe 0 0::Zba::Zbe 1 0::bds 15 (Zae (Zam 1 (AAc9 (StT.ps s)))::Zae (i64 n)::Zae (i64 i)::bds 48 [])) [stB s,Blk.mk [Zae (i64 (NotT.v (StT.no s))),Zae (i64 (NotT.n (StT.no s))),Zae (u64 (NotT.r (StT.no s))),Zae (i64 (NotT.t (StT.no s))),Zdh 33 1 xs,c5,c6,Zae (Zam 1 (digR (StT.pf s))),Zae (i64 (TrT.iv (StT.tr s))),Zae (i64 (TrT.bg (StT.tr s))),Zae (i64 (TrT.fi (StT.tr s))),Zae (i64 (TrT.ct (StT.tr s))),Zae (i64 (TrT.sd (StT.tr s)))] false false 0] b)):=by kernel_rfl
theorem rCo2 (s:StT) (n i:Int) (xs:List (List Dv)) (c5 c6:AV):wpc prog ⟨TCo, [],wl,y,false⟩ 100 lpCo2 (tmCo 34 1 (AAh9 s.qs) n i) [stB s,outC s c5 (.own 28 1 xs) c6] b (maskT [1,3,34,35,36] K)=(BIf (decide (i<n)) (BIf (true&&decide (0≤i)) (∃(xs0:List (List Dv)),(AAh9 (StT.qs s))[Zat i]? =some [Zam 1 xs0]∧∃(xs3:List (List Dv)), [Zae (Zam 1 xs0)]= [Zae (Zam 1 xs3)]∧Zab xs3≤1000000∧BIf (true&&decide ((Zab xs+1)*24≤140737488355328)) (K .normal (Zba::Zbe 0 0::Zba::Zbe 1 0::bds 30 (Zae (Zam 1 (AAh9 (StT.qs s)))::Zae (i64 n)::Zae (i64 (Zac .i64 (i+1)))::bds 33 [])) [stB s,Blk.mk [Zae (i64 (NotT.v (StT.no s))),Zae (i64 (NotT.n (StT.no s))),Zae (u64 (NotT.r (StT.no s))),Zae (i64 (NotT.t (StT.no s))),c5,Zdh 28 1 (xs++ [[Zam 1 xs3]]),c6,Zae (Zam 1 (digR (StT.pf s))),Zae (i64 (TrT.iv (StT.tr s))),Zae (i64 (TrT.bg (StT.tr s))),Zae (i64 (TrT.fi (StT.tr s))),Zae (i64 (TrT.ct (StT.tr s))),Zae (i64 (TrT.sd (StT.tr s)))] false false 0] b) False) False) (K (Exit.exit 2) (Zba::Zbe 0 0::Zba::Zbe 1 0::bds 30 (Zae (Zam 1 (AAh9 (StT.qs s)))::Zae (i64 n)::Zae (i64 i)::bds 33 [])) [stB s,Blk.mk [Zae (i64 (NotT.v (StT.no s))),Zae (i64 (NotT.n (StT.no s))),Zae (u64 (NotT.r (StT.no s))),Zae (i64 (NotT.t (StT.no s))),c5,Zdh 28 1 xs,c6,Zae (Zam 1 (digR (StT.pf s))),Zae (i64 (TrT.iv (StT.tr s))),Zae (i64 (TrT.bg (StT.tr s))),Zae (i64 (TrT.fi (StT.tr s))),Zae (i64 (TrT.ct (StT.tr s))),Zae (i64 (TrT.sd (StT.tr s)))] false false 0] b)):=by kernel_rfl
theorem rCo3 (s:StT) (n i:Int) (xs A B:List (List Dv)):wpc prog ⟨TCo, [],wl,y,false⟩ 100 lpCo3 (tmCo 49 2 (rowsR s.rows) n i) [stB s,outC s (.own 33 1 A) (.own 28 1 B) (.own 71 2 xs)] b (maskK 2 [1,3,49,50,51] K)=(BIf (decide (i<n)) (BIf (true&&decide (0≤i)) (∃(x0:Int) (xs1:List (List Dv)),(rowsR (StT.rows s))[Zat i]? =some [i64 x0,Zam 1 xs1]∧∃(xs4:List (List Dv)), [Zae (Zam 1 xs1)]= [Zae (Zam 1 xs4)]∧Zab xs4≤1000000∧BIf (true&&decide ((Zab xs+1)*32≤140737488355328)) (K .normal (Zba::Zbe 0 0::Zba::Zbe 1 0::bds 45 (Zae (Zam 2 (rowsR (StT.rows s)))::Zae (i64 n)::Zae (i64 (Zac .i64 (i+1)))::bds 18 [])) [stB s,Blk.mk [Zae (i64 (NotT.v (StT.no s))),Zae (i64 (NotT.n (StT.no s))),Zae (u64 (NotT.r (StT.no s))),Zae (i64 (NotT.t (StT.no s))),Zdh 33 1 A,Zdh 28 1 B,Zdh 71 2 (xs++ [[i64 x0,Zam 1 xs4]]),Zae (Zam 1 (digR (StT.pf s))),Zae (i64 (TrT.iv (StT.tr s))),Zae (i64 (TrT.bg (StT.tr s))),Zae (i64 (TrT.fi (StT.tr s))),Zae (i64 (TrT.ct (StT.tr s))),Zae (i64 (TrT.sd (StT.tr s)))] false false 0] b) False) False) (K (Exit.exit 4) (Zba::Zbe 0 0::Zba::Zbe 1 0::bds 45 (Zae (Zam 2 (rowsR (StT.rows s)))::Zae (i64 n)::Zae (i64 i)::bds 18 [])) [stB s,Blk.mk [Zae (i64 (NotT.v (StT.no s))),Zae (i64 (NotT.n (StT.no s))),Zae (u64 (NotT.r (StT.no s))),Zae (i64 (NotT.t (StT.no s))),Zdh 33 1 A,Zdh 28 1 B,Zdh 71 2 xs,Zae (Zam 1 (digR (StT.pf s))),Zae (i64 (TrT.iv (StT.tr s))),Zae (i64 (TrT.bg (StT.tr s))),Zae (i64 (TrT.fi (StT.tr s))),Zae (i64 (TrT.ct (StT.tr s))),Zae (i64 (TrT.sd (StT.tr s)))] false false 0] b)):=by kernel_rfl
theorem ARc9 {α:Type} {l:List (List α)} {k:Nat} (h:k<l.length):l.take (k+1)=l.take k++ [nthL l k]:=by
 rw [Zdp h,nthL];simp [h]
def nthW (l:List Row) (i:Nat):Row:=l.getD i (0, [])
theorem BQe9 {l:List Row} {k:Nat} (h:k<l.length):nthW l k∈l:=by
 rw [nthW,List.getD_eq_getElem?_getD,Zbk h];exact List.getElem_mem h
theorem BBs9 {l:List Row} {k:Nat} (h:k<l.length):l.take (k+1)=l.take k++ [nthW l k]:=by
 rw [Zdp h,nthW];simp [h]
theorem BUn9 {l:List Row} {k:Nat} (h:k<l.length):(rowsR l)[k]? =some [i64 (nthW l k).1, .sl 1 (AAb9 (nthW l k).2)]:=by simp [rowsR,rowD,nthW,h]
theorem BHp9 (l:List Row) (x:Row):rowsR l++ [[i64 x.1, .sl 1 (AAb9 x.2)]]=rowsR (l++ [x]):=by simp [rowsR,rowD]
theorem wrapN {j:Nat} (h:j<1000000):Zac Zax ((j:Int)+1)=((j+1:Nat):Int):=by
 rw [AAt9 (by omega) (by omega)];simp
theorem wrCo1 {Ev:Env prog} {b:Ev.β} {Q:Exit→St Ev.β→Prop} (s:StT) (hs:ABe9 s) (c5 c6:AV) (hQ:∀i:Int,Q (.exit 0) ⟨tmCo 19 1 (AAc9 s.ps) s.ps.length i, [stB s,outC s (.own 33 1 (AAc9 s.ps)) c5 c6],b⟩):
 WR Ev lpCo1 (s.ps.length+1) ⟨tmCo 19 1 (AAc9 s.ps) s.ps.length 0, [stB s,outC s (.own 33 1 (AAc9 [])) c5 c6],b⟩ Q:=by
 have hl:=hs.1.1;refine WR.steps (X:=⟨TCo, [],wlW Ev,Ev.Y,false⟩) (k:=100) [1,3,19,20,21] mixed (CX.Ok.of BKw9 Zad) (e:= .exit 0) (by simp) b (fun j=>tmCo 19 1 (AAc9 s.ps) s.ps.length (j:Nat)) (fun j=> [stB s,outC s (.own 33 1 (AAc9 (s.ps.take j))) c5 c6]) s.ps.length 0 (fun j _ hj K k1=> ?_) (fun K k1=> ?_) ?_
 ·have hj:j<s.ps.length:=by omega
  rw [rCo1];refine Zbr (by simp;omega) (Zbr (by simp) ⟨AAb9 (nthL s.ps j),by rw [Zbn];exact AUn9 hj,_,rfl,by rw [AAf9];exact hs.1.2 _ (AEf9 hj),Zbr (by simp [AAe9];omega) ?_⟩);rw [wrapN (by omega),ALy9,←ARc9 hj];exact k1
 ·rw [rCo1];exact Zdb (by simp) k1
 ·have:=hQ s.ps.length;simpa using this
theorem wrCo2 {Ev:Env prog} {b:Ev.β} {Q:Exit→St Ev.β→Prop} (s:StT) (hs:ABe9 s) (c5 c6:AV) (hQ:∀i:Int,Q (.exit 2) ⟨tmCo 34 1 (AAh9 s.qs) s.qs.length i, [stB s,outC s c5 (.own 28 1 (AAh9 s.qs)) c6],b⟩):
 WR Ev lpCo2 (s.qs.length+1) ⟨tmCo 34 1 (AAh9 s.qs) s.qs.length 0, [stB s,outC s c5 (.own 28 1 (AAh9 [])) c6],b⟩ Q:=by
 have hl:=hs.2.1.1;refine WR.steps (X:=⟨TCo, [],wlW Ev,Ev.Y,false⟩) (k:=100) [1,3,34,35,36] mixed (CX.Ok.of BKw9 Zad) (e:= .exit 2) (by simp) b (fun j=>tmCo 34 1 (AAh9 s.qs) s.qs.length (j:Nat)) (fun j=> [stB s,outC s c5 (.own 28 1 (AAh9 (s.qs.take j))) c6]) s.qs.length 0 (fun j _ hj K k1=> ?_) (fun K k1=> ?_) ?_
 ·have hj:j<s.qs.length:=by omega
  rw [rCo2];refine Zbr (by simp;omega) (Zbr (by simp) ⟨digR (nthL s.qs j),by rw [Zbn];exact AWl9 hj,_,rfl,by rw [ABd9];exact hs.2.1.2 _ (AEf9 hj),Zbr (by simp [ABq9];omega) ?_⟩);rw [wrapN (by omega),AJq9,←ARc9 hj];exact k1
 ·rw [rCo2];exact Zdb (by simp) k1
 ·have:=hQ s.qs.length;simpa using this
theorem wrCo3 {Ev:Env prog} {b:Ev.β} {Q:Exit→St Ev.β→Prop} (s:StT) (hs:ABe9 s) (A B:List (List Dv)) (hQ:∀i:Int,Q (.exit 4) ⟨tmCo 49 2 (rowsR s.rows) s.rows.length i, [stB s,outC s (.own 33 1 A) (.own 28 1 B) (.own 71 2 (rowsR s.rows))],b⟩):
 WR Ev lpCo3 (s.rows.length+1) ⟨tmCo 49 2 (rowsR s.rows) s.rows.length 0, [stB s,outC s (.own 33 1 A) (.own 28 1 B) (.own 71 2 (rowsR []))],b⟩ Q:=by
 have hl:=hs.2.2.1.1;refine WR.stepsM (m:=2) (X:=⟨TCo, [],wlW Ev,Ev.Y,false⟩) (k:=100) [1,3,49,50,51] mixed (CX.Ok.of BKw9 Zad) (e:= .exit 4) (by simp) b (fun j=>tmCo 49 2 (rowsR s.rows) s.rows.length (j:Nat)) (fun j=> [stB s,outC s (.own 33 1 A) (.own 28 1 B) (.own 71 2 (rowsR (s.rows.take j)))]) (fun _=>rfl) s.rows.length 0 (fun j _ hj K k1=> ?_) (fun K k1=> ?_) ?_
 ·have hj:j<s.rows.length:=by omega
  rw [rCo3];refine Zbr (by simp;omega) (Zbr (by simp) ⟨(nthW s.rows j).1,AAb9 (nthW s.rows j).2,by rw [Zbn];exact BUn9 hj,_,rfl,by rw [AAf9];have:=hs.2.2.1.2 _ (BQe9 hj);omega,Zbr (by simp [AEi9];omega) ?_⟩);rw [wrapN (by omega),BHp9,←BBs9 hj];exact k1
 ·rw [rCo3];exact Zdb (by simp) k1
 ·have:=hQ s.rows.length;simpa using this
def wlCo {β:Type}:WLT β:=fun c tm hp b K=>match cidO c with
 |4=>∃s,ABe9 s∧c= .loop lpCo1∧ABo9 [1,3,19,20,21] 0 tm=tmCo 19 1 (AAc9 s.ps) (AAc9 s.ps).length 0∧hp= [stB s,outC s nilV nilV nilV]∧∀i:Int,K (.exit 0) (tmCo 19 1 (AAc9 s.ps) s.ps.length i) [stB s,outC s (.own 33 1 (AAc9 s.ps)) nilV nilV] b
 |9=>∃s,ABe9 s∧c= .loop lpCo2∧ABo9 [1,3,34,35,36] 0 tm=tmCo 34 1 (AAh9 s.qs) (AAh9 s.qs).length 0∧hp= [stB s,outC s (.own 33 1 (AAc9 s.ps)) nilV nilV]∧∀i:Int,K (.exit 2) (tmCo 34 1 (AAh9 s.qs) s.qs.length i) [stB s,outC s (.own 33 1 (AAc9 s.ps)) (.own 28 1 (AAh9 s.qs)) nilV] b
 |14=>∃s,ABe9 s∧c= .loop lpCo3∧ABo9 [1,3,49,50,51] 0 tm=tmCo 49 2 (rowsR s.rows) (rowsR s.rows).length 0∧hp= [stB s,outC s (.own 33 1 (AAc9 s.ps)) (.own 28 1 (AAh9 s.qs)) nilV]∧∀i:Int,K (.exit 4) (tmCo 49 2 (rowsR s.rows) s.rows.length i) [stB s,outC s (.own 33 1 (AAc9 s.ps)) (.own 28 1 (AAh9 s.qs)) (.own 71 2 (rowsR s.rows))] b
 |_=>False
theorem BTh9 {Ev:Env prog} (c:Code) (tm:List AV) (hp:List Blk) (b:Ev.β) (K:Exit→List AV→List Blk→Ev.β→Prop) (h:wlCo c tm hp b K):W Ev c ⟨tm,hp,b⟩ (fun e s=>K e s.tm s.hp s.b):=by
 unfold wlCo at h;split at h
 ·obtain ⟨s,hs,rfl,htm,rfl,hK⟩:=h;rw [AAe9] at htm;refine W.cast (htm▸AAg9 _ tm 0) (hp':= [stB s,outC s (.own 33 1 (AAc9 [])) nilV nilV]) (LeH.at [stB s] [] (LeL.at [_,_,_,_] _ (LeA.nilOwn rfl))) ?_;exact W.rounds (wrCo1 (Q:=fun e s=>K e s.tm s.hp s.b) s hs _ _ hK)
 ·obtain ⟨s,hs,rfl,htm,rfl,hK⟩:=h;rw [ABq9] at htm;refine W.cast (htm▸AAg9 _ tm 0) (hp':= [stB s,outC s (.own 33 1 (AAc9 s.ps)) (.own 28 1 (AAh9 [])) nilV]) (LeH.at [stB s] [] (LeL.at [_,_,_,_,_] _ (LeA.nilOwn rfl))) ?_;exact W.rounds (wrCo2 (Q:=fun e s=>K e s.tm s.hp s.b) s hs _ _ hK)
 ·obtain ⟨s,hs,rfl,htm,rfl,hK⟩:=h;rw [AEi9] at htm;refine W.cast (htm▸AAg9 _ tm 0) (hp':= [stB s,outC s (.own 33 1 (AAc9 s.ps)) (.own 28 1 (AAh9 s.qs)) (.own 71 2 (rowsR []))]) (LeH.at [stB s] [] (LeL.at [_,_,_,_,_,_] _ (LeA.nilOwn rfl))) ?_;exact W.rounds (wrCo3 (Q:=fun e s=>K e s.tm s.hp s.b) s hs _ _ hK)
 ·exact h.elim
abbrev Qz10 (v0:StT):List AV:= [Zae (i64 (NotT.v (StT.no v0))),Zae (i64 (NotT.n (StT.no v0))),Zae (u64 (NotT.r (StT.no v0))),Zae (i64 (NotT.t (StT.no v0))),Zdh 33 1 (AAc9 (StT.ps v0)),Zdh 28 1 (AAh9 (StT.qs v0)),Zdh 71 2 (rowsR (StT.rows v0)),Zae (Zam 1 (digR (StT.pf v0))),Zae (i64 (TrT.iv (StT.tr v0))),Zae (i64 (TrT.bg (StT.tr v0))),Zae (i64 (TrT.fi (StT.tr v0))),Zae (i64 (TrT.ct (StT.tr v0))),Zae (i64 (TrT.sd (StT.tr v0)))]
abbrev Qz15 (v0:StT):= [stB v0,Blk.mk [Zae (i64 (NotT.v (StT.no v0))),Zae (i64 (NotT.n (StT.no v0))),Zae (u64 (NotT.r (StT.no v0))),Zae (i64 (NotT.t (StT.no v0))),Zdh 33 1 (AAc9 (StT.ps v0)),Zdh 28 1 (AAh9 (StT.qs v0)),Zae (Zdy (.slice none 0 0)),Zae (Zam 1 (digR (StT.pf v0))),Zae (i64 (TrT.iv (StT.tr v0))),Zae (i64 (TrT.bg (StT.tr v0))),Zae (i64 (TrT.fi (StT.tr v0))),Zae (i64 (TrT.ct (StT.tr v0))),Zae (i64 (TrT.sd (StT.tr v0)))] false false 0]
abbrev Qz16 (v0:StT):= [stB v0,Blk.mk [Zae (i64 (NotT.v (StT.no v0))),Zae (i64 (NotT.n (StT.no v0))),Zae (u64 (NotT.r (StT.no v0))),Zae (i64 (NotT.t (StT.no v0))),Zdh 33 1 (AAc9 (StT.ps v0)),Zae (Zdy (.slice none 0 0)),Zae (Zdy (.slice none 0 0)),Zae (Zam 1 (digR (StT.pf v0))),Zae (i64 (TrT.iv (StT.tr v0))),Zae (i64 (TrT.bg (StT.tr v0))),Zae (i64 (TrT.fi (StT.tr v0))),Zae (i64 (TrT.ct (StT.tr v0))),Zae (i64 (TrT.sd (StT.tr v0)))] false false 0]
abbrev Qz22 (v0:StT):=Zba::Zbe 0 0::Zba::Zbe 1 0::bds 30 (Zae (Zam 1 (AAh9 (StT.qs v0)))::Zae (i64 ((Zab (AAh9 (StT.qs v0)):Nat):Int))::Zae (i64 0)::bds 33 [])
abbrev Qz23 (v0:StT):=Zba::Zbe 0 0::Zba::Zbe 1 0::bds 15 (Zae (Zam 1 (AAc9 (StT.ps v0)))::Zae (i64 ((Zab (AAc9 (StT.ps v0)):Nat):Int))::Zae (i64 0)::bds 48 [])
theorem BJq9 (s:StT):wpFnS prog ⟨TCo, [],wlCo,y,false⟩ 100 f47 [stV s] b RS=(∃(xs0:List (List Dv)), [Zae (Zam 1 (digR (StT.pf s)))]= [Zae (Zam 1 xs0)]∧Zab xs0≤1000000∧∃(s1:StT),(ABe9 s1)∧Zbq lpCo1=Zbq lpCo1∧(Qz23 s)=(Qz23 s1)∧ [stB s,Blk.mk [Zae (i64 (NotT.v (StT.no s))),Zae (i64 (NotT.n (StT.no s))),Zae (u64 (NotT.r (StT.no s))),Zae (i64 (NotT.t (StT.no s))),Zae (Zdy (.slice none 0 0)),Zae (Zdy (.slice none 0 0)),Zae (Zdy (.slice none 0 0)),Zae (Zam 1 xs0),Zae (i64 (TrT.iv (StT.tr s))),Zae (i64 (TrT.bg (StT.tr s))),Zae (i64 (TrT.fi (StT.tr s))),Zae (i64 (TrT.ct (StT.tr s))),Zae (i64 (TrT.sd (StT.tr s)))] false false 0]= [stB s1,Blk.mk [Zae (i64 (NotT.v (StT.no s1))),Zae (i64 (NotT.n (StT.no s1))),Zae (u64 (NotT.r (StT.no s1))),Zae (i64 (NotT.t (StT.no s1))),Zae (Zdy (.slice none 0 0)),Zae (Zdy (.slice none 0 0)),Zae (Zdy (.slice none 0 0)),Zae (Zam 1 (digR (StT.pf s1))),Zae (i64 (TrT.iv (StT.tr s1))),Zae (i64 (TrT.bg (StT.tr s1))),Zae (i64 (TrT.fi (StT.tr s1))),Zae (i64 (TrT.ct (StT.tr s1))),Zae (i64 (TrT.sd (StT.tr s1)))] false false 0]∧∀(i:Int),∃(s2:StT),(ABe9 s2)∧Zbq lpCo2=Zbq lpCo2∧(Qz22 s1)=(Qz22 s2)∧(Qz16 s1)=(Qz16 s2)∧∀(i:Int),∃(s3:StT),(ABe9 s3)∧Zbq lpCo3=Zbq lpCo3∧(Zba::Zbe 0 0::Zba::Zbe 1 0::bds 45 (Zae (Zam 2 (rowsR (StT.rows s2)))::Zae (i64 ((Zab (rowsR (StT.rows s2)):Nat):Int))::Zae (i64 0)::bds 18 []))=(Zba::Zbe 0 0::Zba::Zbe 1 0::bds 45 (Zae (Zam 2 (rowsR (StT.rows s3)))::Zae (i64 ((Zab (rowsR (StT.rows s3)):Nat):Int))::Zae (i64 0)::bds 18 []))∧(Qz15 s2)=(Qz15 s3)∧∀(i:Int),RS (Zbe 2 0) [stB s3,Blk.mk (Qz10 s3) false false 0,stB s3] b):=by kernel_rfl
noncomputable def lpEq:Code:=sub [1,1,0,1,2,3] (code f122)
def tmEq (a c:List (List Dv)) (n i:Int):List AV:= [.d (.sl 1 a), .d (.sl 1 c)]++Zaf 10 .bad++ [.d (i64 n), .d (i64 i)]++Zaf 12 .bad
theorem rEq (a c:List (List Dv)) (n i:Int):wpc prog ⟨[], [],wl,y,false⟩ 100 lpEq (tmEq a c n i) [] b (maskT [0,1,4,12,13] K)=(BIf (decide (i<n)) (BIf (true&&decide (0≤i)) (∃(x0:Int),a[Zat i]? =some [u64 x0]∧BIf (true&&decide (0≤i)) (∃(x3:Int),c[Zat i]? =some [u64 x3]∧BIf (x0 !=x3) (K .ret (Zae (Zam 1 a)::Zae (Zam 1 c)::Zba::Zba::Zae (bo false)::bds 7 (Zae (i64 n)::Zae (i64 i)::bds 12 [])) [] b) (K .normal (Zae (Zam 1 a)::Zae (Zam 1 c)::bds 10 (Zae (i64 n)::Zae (i64 (Zac .i64 (i+1)))::bds 12 [])) [] b)) False) False) (K (Exit.exit 0) (Zae (Zam 1 a)::Zae (Zam 1 c)::bds 10 (Zae (i64 n)::Zae (i64 i)::bds 12 [])) [] b)):=by kernel_rfl
theorem wrEq {Ev:Env prog} {b:Ev.β} {Q:Exit→St Ev.β→Prop} (a c:List Int) (hl:a.length=c.length) (hb:a.length≤9223372036854775807) (h1:a=c→∀i:Int,Q (.exit 0) ⟨tmEq (digR a) (digR c) a.length i, [],b⟩) (h2:a≠c→∀i:Int,Q .ret ⟨(tmEq (digR a) (digR c) a.length i).set 4 (.d (bo false)), [],b⟩):
 WR Ev lpEq (a.length+1) ⟨tmEq (digR a) (digR c) a.length (0:Nat), [],b⟩ Q:=by
 refine WR.scan (X:=⟨[], [],wlW Ev,Ev.Y,false⟩) (k:=100) [0,1,4,12,13] mixed (CX.Ok.of Zai Zad) a.length (fun i=>nth a i !=nth c i) (fun i=>tmEq (digR a) (digR c) a.length (i:Nat)) (fun i=>(tmEq (digR a) (digR c) a.length (i:Nat)).set 4 (.d (bo false))) [] 0 (fun i hi K k1 k2=> ?_) (fun K k1=> ?_) (fun h=>h1 ?_ _) fun h i=>h2 ?_ _
 ·rw [rEq];refine Zbr (by simp<;>omega) (Zbr (by simp) ⟨nth a i,by rw [Zbn];exact AXq9 hi,Zbr (by simp) ⟨nth c i,by rw [Zbn];exact AXq9 (by omega),Zau (fun g=>k1 g) fun g=> ?_⟩⟩);rw [ACt9 hi hb];exact k2 g
 ·rw [rEq];exact Zdb (by simp) k1
 ·rw [BKr9 hl] at h;simpa using h
 ·rw [BKr9 hl] at h;simpa using h
def wlEq {β:Type}:WLT β:=fun t tm hp b K=>∃(a c:List Int) (z:Bool),t= .loop lpEq∧ABo9 [0,1,12,13] 0 tm=tmEq (digR a) (digR c) (digR a).length 0∧hp= []∧((a.length=c.length∧a.length≤9223372036854775807)∧z=decide (a=c))∧
 BIf z (∀i:Int,K (.exit 0) (tmEq (digR a) (digR c) a.length i) [] b) (∀i:Int,K .ret ((tmEq (digR a) (digR c) a.length i).set 4 (.d (bo false))) [] b)
theorem BTg9 {Ev:Env prog} (c:Code) (tm:List AV) (hp:List Blk) (b:Ev.β) (K:Exit→List AV→List Blk→Ev.β→Prop) (h:wlEq c tm hp b K):W Ev c ⟨tm,hp,b⟩ (fun e s=>K e s.tm s.hp s.b):=by
 obtain ⟨a,d,z,rfl,htm,rfl,⟨⟨hl,hb⟩,hz⟩,hK⟩:=h;rw [ABd9] at htm;refine W.cast (htm▸AAg9 _ tm 0) (Zcx _) ?_;exact W.rounds (wrEq (Q:=fun e s=>K e s.tm s.hp s.b) a d hl hb (fun h=>by rw [hz,decide_eq_true h] at hK;exact hK) fun h=>by rw [hz,decide_eq_false h] at hK;exact hK)
theorem BRb9 (a c:List (List Dv)):wpFn prog ⟨[], [],wlEq,y,false⟩ 100 f122 [.d (.sl 1 a), .d (.sl 1 c)] b R=(BIf (((Zab a:Nat):Int) !=((Zab c:Nat):Int)) (R (.d (bo false)) b) (∃(a0:List Int) (c1:List Int) (z2:Bool),Zbq lpEq=Zbq lpEq∧(Zae (Zam 1 a)::Zae (Zam 1 c)::bds 10 (Zae (i64 ((Zab a:Nat):Int))::Zae (i64 0)::bds 12 []))=(Zae (Zam 1 (digR a0))::Zae (Zam 1 (digR c1))::bds 10 (Zae (i64 ((Zab (digR a0):Nat):Int))::Zae (i64 0)::bds 12 []))∧([]:List Blk)= []∧((Zab a0=Zab c1∧Zab a0≤9223372036854775807)∧z2=decide (a0=c1))∧BIf z2 (∀(i:Int),R (.d (bo true)) b) (∀(i:Int),R (.d (bo false)) b))):=by kernel_rfl
theorem BVh9 (a c:List Int) (ha:a.length≤9223372036854775807):PCall prog 122 [.d (.sl 1 (digR a)), .d (.sl 1 (digR c))] (.d (bo (decide (a=c)))):=by
 refine PCall.ofFnW (n:=100) (u:=false) (fun _=>wlEq) mixed Zai Zad (fun Ev=>BTg9) func122 (by rfl) (by rfl) fun Ev bb=> ?_;rw [BRb9,ABd9,ABd9];refine Zau (fun g=> ?_) fun g=>⟨a,c,_,rfl,by rw [ABd9],rfl,⟨⟨by simp at g;omega,ha⟩,rfl⟩,Zau (fun h i=>by rw [h]) fun h i=>by rw [h]⟩;rw [decide_eq_false fun h=>by rw [h] at g;simp at g]
def BXg9 (args:List AV) (K:AV→Prop):Prop:=∃(a c:List Int) (z:Bool),args= [.d (.sl 1 (digR a)), .d (.sl 1 (digR c))]∧(a.length≤9223372036854775807∧z=decide (a=c))∧K (.d (bo z))
theorem BKi9:∀args K,BXg9 args K→∃x,PCall prog 122 args x∧K x:=by
 rintro _ K ⟨a,c,_,rfl,⟨hl,rfl⟩,h⟩;exact ⟨_,BVh9 a c hl,h⟩
theorem BPu9 (s:StT) (hs:ABe9 s):FCall prog 47 [stV s] (.ptr 2 0) [stB s,outC s (.own 33 1 (AAc9 s.ps)) (.own 28 1 (AAh9 s.qs)) (.own 71 2 (rowsR s.rows)),stB s]:=by
 refine Zen (n:=100) (u:=false) (fun _=>wlCo) mixed BKw9 Zad (fun Ev=>BTh9) func47 (by rfl) (by rfl) (by rfl) fun Ev bb=> ?_;rw [BJq9];exact ⟨_,rfl,by rw [ABd9];exact hs.2.2.2,s,hs,rfl,rfl,rfl,fun i=>⟨s,hs,rfl,rfl,rfl,fun i=>⟨s,hs,rfl,rfl,rfl,fun i=>⟨.rfl,rfl⟩⟩⟩⟩
def AWh9 (args:List AV) (hp:List Blk) (K:AV→List Blk→Prop):Prop:=∃(s:StT),args= [stV s]∧ABe9 s∧
 K (.ptr (hp.length+2) 0) (hp++ [stB s,outC s (.own 33 1 (AAc9 s.ps)) (.own 28 1 (AAh9 s.qs)) (.own 71 2 (rowsR s.rows)),stB s])
theorem ALs9:∀args hp K,AWh9 args hp K→∃x hp',SCall prog 47 args hp x hp'∧K x hp':=by
 rintro _ hp K ⟨s,rfl,hs,h⟩;exact ⟨_,_,(BPu9 s hs).toS rfl hp,h⟩
structure BlkT where
 n:Int
 s:Int
 d:List Int
 pf:List Int
def bkL (x:BlkT):List AV:= [.d (i64 x.n), .d (i64 x.s), .d (.sl 1 (AAb9 x.d)), .d (.sl 1 (digR x.pf))]
def bkV (x:BlkT):AV:= .agg (bkL x)
def TRf:List (Nat×(List AV→(AV→Prop)→Prop)):= [(61,AXv9),(62,AXx9),(121,BFg9),(122,BXg9)]
theorem CDb9:AAk9 prog TRf:=Zag AMv9 (Zag AMx9 (Zag ATf9 (Zag BKi9 Zai)))
theorem BCq9 (s:StT) (x:BlkT):wpFn prog ⟨TRf, [],wl,y,false⟩ 100 f48 [.rptr (stD s),bkV x] b R=(∃(s0:StT) (z1:Bool), [Zcj (stD s)]= [Zcj (stD s0)]∧((ABe9 s0)∧z1=ACv9 s0)∧BIf (!z1) (R (.d (i64 1)) b) (BIf (decide (BlkT.n x<(0:Int))) (R (.d (i64 1)) b) (BIf (decide (BlkT.n x≥(16:Int))) (R (.d (i64 1)) b) (BIf (decide (BlkT.s x<(0:Int))) (R (.d (i64 1)) b) (BIf (decide (BlkT.s x>(1000000000:Int))) (R (.d (i64 1)) b) (BIf (((Zab (AAb9 (BlkT.d x)):Nat):Int) !=(16:Int)) (R (.d (i64 1)) b) (∃(s2:StT) (z3:Bool), [Zcj (stD s)]= [Zcj (stD s2)]∧((ABe9 s2)∧z3=AGl9 s2)∧BIf z3 (R (.d (i64 4)) b) (∃(s4:StT) (z5:Bool), [Zcj (stD s)]= [Zcj (stD s4)]∧z5=fullP s4∧BIf z5 (R (.d (i64 10)) b) (BIf (decide (BlkT.n x<((Zab (AAc9 (StT.ps s)):Nat):Int))) (R (.d (i64 14)) b) (BIf (decide (BlkT.n x>((Zab (AAc9 (StT.ps s)):Nat):Int))) (R (.d (i64 6)) b) (BIf (decide (((Zab (rowsR (StT.rows s)):Nat):Int)>(0:Int))) (∃(a6:List Int) (c7:List Int) (z8:Bool), [Zae (Zam 1 (digR (BlkT.pf x))),Zae (Zam 1 (digR (StT.pf s)))]= [Zae (Zam 1 (digR a6)),Zae (Zam 1 (digR c7))]∧(Zab a6≤9223372036854775807∧z8=decide (a6=c7))∧BIf (!z8) (R (.d (i64 12)) b) (R (.d (i64 0)) b)) (R (.d (i64 0)) b)))))))))))):=by kernel_rfl
abbrev Qz4 (v0:StT):List AV:= [Zae (i64 (NotT.v (StT.no v0))),Zae (i64 (NotT.n (StT.no v0))),Zae (u64 (NotT.r (StT.no v0))),Zae (i64 (NotT.t (StT.no v0))),Zae (Zam 1 (AAc9 (StT.ps v0))),Zae (Zam 1 (AAh9 (StT.qs v0))),Zae (Zdy (.slice none 0 0)),Zae (Zdy (.slice none 0 0)),Zae (i64 (TrT.iv (StT.tr v0))),Zae (i64 (TrT.bg (StT.tr v0))),Zae (i64 (TrT.fi (StT.tr v0))),Zae (i64 (TrT.ct (StT.tr v0))),Zae (i64 (TrT.sd (StT.tr v0)))]
theorem BSj9 (b0 b1 b2 b3 b4:Blk) (s:StT) (e:Int):wpc prog ⟨[], [],wl,y,false⟩ 100 (code f50) (AAw9 f50 [.ptr 5 0, .d (i64 e)]) [b0,b1,b2,b3,b4,stB s] b (fnKS prog f50 RS)=(RS (AV.tup [Zbj (Qz4 s),Zae (i64 e)]) [b0,b1,b2,b3,b4,Blk.mk (Qz4 s) false false 0,Blk.mk (Qz4 s) false false 0] b):=by kernel_rfl
theorem BSi9 (b0 b1 b2 b3 b4 b6:Blk) (s:StT) (e:Int):wpc prog ⟨[], [],wl,y,false⟩ 100 (code f50) (AAw9 f50 [.ptr 5 0, .d (i64 e)]) [b0,b1,b2,b3,b4,stB s,b6] b (fnKS prog f50 RS)=(RS (AV.tup [Zbj (Qz4 s),Zae (i64 e)]) [b0,b1,b2,b3,b4,Blk.mk (Qz4 s) false false 0,b6,Blk.mk (Qz4 s) false false 0] b):=by kernel_rfl
end Go.Proofs.YtibhflogmbfpcaaGreatDoor.Am