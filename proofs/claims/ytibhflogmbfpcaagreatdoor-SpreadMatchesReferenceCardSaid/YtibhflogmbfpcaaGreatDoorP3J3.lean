import Derived.Test.YtibhflogmbfpcaaGreatDoorP3J2
import Derived.Shelf.Spec.TrailingZeros
import Derived.Test.YtibhflogmbfpcaaGreatDoorProg
set_option linter.unusedSimpArgs false
set_option linter.unusedVariables false
namespace Go.Proofs.YtibhflogmbfpcaaGreatDoor.Am
open Go Go.RowKit Go.Proofs Tryz
open AV renaming d → Zae
open BIf renaming f → Zct, of → Zaj, t → Zbf
open BitVec renaming ofInt → Zar
open Bool renaming and_eq_true → Zan
open AAf9 renaming cons → Zaf, nil → Zah
open Go.Code renaming loop → Zax
open Dv renaming sl → Zai
open Go.Exit renaming exit → Zcy, normal → Zeb
open Int renaming toNat → Zam, toNat_natCast → Zas
open Go.IntKind renaming i64 → Zap, wrap → Zaa
open LeH renaming refl → Zbt
open List renaming all_eq_true → Zbm, append_nil → Zef, foldl_cons → Zbv, getElem?_eq_getElem → Zbk, getElem?_eq_some_iff → Zad, length → Zab, length_append → Zdh, map_cons → Zcz, mem_cons → Zcw, mem_cons_of_mem → Zaw, mem_cons_self → Zay, mem_iff_getElem? → Zao, mem_map → Zbo, mem_of_getElem? → Zbh, mem_range'_1 → Zdo, pairwise_cons → Zca, range → Zbn, range' → Zch, range'_succ → Zdq, replicate → Zag
open Nat renaming eq_of_testBit_eq → Zej, testBit_two_pow → Zdn, zero_le → Zdb
open PCall renaming ofFn → Zaz, ofFnW → Zcd
open AAk9 renaming nil → Zac
open WR renaming ofMask → Zcn, ofMaskT → Zbw
variable {β:Type} (wl:WLT β) (y:ABr9 β) (b:β) (R:AV→β→Prop) (K:Exit→List AV→List Blk→β→Prop) (Q:β→Prop)
open AV (bad)
set_option linter.unusedVariables false
set_option maxRecDepth 20000
theorem CCu9 {β:Type} (wl:WLT β) (y:ABr9 β) (b:β) (R:AV→β→Prop) (xs ys:List (List Dv)):wpFn prog ⟨[], [],wl,y,true⟩ 100 f139 [.d (.sl 1 xs), .d (.sl 1 ys)] b R=(
 ∃a0,xs[(0:Nat)]? =some [u8 a0]∧∃b0,ys[(0:Nat)]? =some [u8 b0]∧∃a1,xs[(1:Nat)]? =some [u8 a1]∧∃b1,ys[(1:Nat)]? =some [u8 b1]∧
 ∃a2,xs[(2:Nat)]? =some [u8 a2]∧∃b2,ys[(2:Nat)]? =some [u8 b2]∧∃a3,xs[(3:Nat)]? =some [u8 a3]∧∃b3,ys[(3:Nat)]? =some [u8 b3]∧
 ∃a4,xs[(4:Nat)]? =some [u8 a4]∧∃b4,ys[(4:Nat)]? =some [u8 b4]∧∃a5,xs[(5:Nat)]? =some [u8 a5]∧∃b5,ys[(5:Nat)]? =some [u8 b5]∧
 ∃a6,xs[(6:Nat)]? =some [u8 a6]∧∃b6,ys[(6:Nat)]? =some [u8 b6]∧∃a7,xs[(7:Nat)]? =some [u8 a7]∧∃b7,ys[(7:Nat)]? =some [u8 b7]∧
 ∃a8,xs[(8:Nat)]? =some [u8 a8]∧∃b8,ys[(8:Nat)]? =some [u8 b8]∧∃a9,xs[(9:Nat)]? =some [u8 a9]∧∃b9,ys[(9:Nat)]? =some [u8 b9]∧
 ∃a10,xs[(10:Nat)]? =some [u8 a10]∧∃b10,ys[(10:Nat)]? =some [u8 b10]∧∃a11,xs[(11:Nat)]? =some [u8 a11]∧∃b11,ys[(11:Nat)]? =some [u8 b11]∧
 ∃a12,xs[(12:Nat)]? =some [u8 a12]∧∃b12,ys[(12:Nat)]? =some [u8 b12]∧∃a13,xs[(13:Nat)]? =some [u8 a13]∧∃b13,ys[(13:Nat)]? =some [u8 b13]∧
 ∃a14,xs[(14:Nat)]? =some [u8 a14]∧∃b14,ys[(14:Nat)]? =some [u8 b14]∧∃a15,xs[(15:Nat)]? =some [u8 a15]∧∃b15,ys[(15:Nat)]? =some [u8 b15]∧
 R (.d (.sl 1 (AAa9 [xor8 a0 b0,xor8 a1 b1,xor8 a2 b2,xor8 a3 b3,xor8 a4 b4,xor8 a5 b5,xor8 a6 b6,xor8 a7 b7,xor8 a8 b8,xor8 a9 b9,xor8 a10 b10,xor8 a11 b11,xor8 a12 b12,xor8 a13 b13,xor8 a14 b14,xor8 a15 b15]))) b):=by kernel_rfl
theorem AAv9 {p:List Int} {i:Nat} (h:i<p.length):(AAa9 p)[i]? =some [u8 (nth p i)]:=by
 simp [AAa9,nth,Zbk h]
theorem pc25 (p q:List Int) (hp:16≤p.length) (hq:16≤q.length):PCall prog 139 [.d (.sl 1 (AAa9 p)), .d (.sl 1 (AAa9 q))] (.d (.sl 1 (AAa9 (xorL p q)))):=by
 refine Zaz (n:=100) (u:=true) mixed Zah Zac func139 (by rfl) (by rfl) fun Ev b=> ?_
 rw [CCu9]
 refine ⟨_,AAv9 (by omega),_,AAv9 (by omega),_,AAv9 (by omega),_,AAv9 (by omega),_,AAv9 (by omega),_,AAv9 (by omega),_,AAv9 (by omega),_,AAv9 (by omega),
   _,AAv9 (by omega),_,AAv9 (by omega),_,AAv9 (by omega),_,AAv9 (by omega),_,AAv9 (by omega),_,AAv9 (by omega),_,AAv9 (by omega),_,AAv9 (by omega),
   _,AAv9 (by omega),_,AAv9 (by omega),_,AAv9 (by omega),_,AAv9 (by omega),_,AAv9 (by omega),_,AAv9 (by omega),_,AAv9 (by omega),_,AAv9 (by omega),
   _,AAv9 (by omega),_,AAv9 (by omega),_,AAv9 (by omega),_,AAv9 (by omega),_,AAv9 (by omega),_,AAv9 (by omega),_,AAv9 (by omega),_,AAv9 (by omega), ?_⟩
 rfl
def c25 (args:List AV) (K:AV→Prop):Prop:=∃(p q r:List Int),args= [.d (.sl 1 (AAa9 p)), .d (.sl 1 (AAa9 q))]∧(16≤p.length∧16≤q.length)∧r=xorL p q∧K (.d (.sl 1 (AAa9 r)))
theorem BWi9:∀args K,c25 args K→∃x,PCall prog 139 args x∧K x:=by
 rintro _ K ⟨p,q,_,rfl,⟨h1,h2⟩,rfl,h⟩;exact ⟨_,pc25 p q h1 h2,h⟩
def nilA:AV:= .d (.s (.slice none 0 0))
noncomputable def lp21a:Code:=sub [1,0,1,2,3] (code f81)
noncomputable def lp21b:Code:=sub [1,1,0,1,2,3] (code f81)
noncomputable def lp21c:Code:=sub [1,1,0,1,2,3,1,0,2,1,2,3] (code f81)
def tm21a (xs:List (List Dv)) (i:Int):List AV:= [.d (.sl 2 xs), .bad, .bad, .d (i64 i)]++Zag 64 .bad
def tm21b (xs:List (List Dv)) (i:Int):List AV:= [.d (.sl 2 xs), .bad, .bad, .bad, .d (i64 i)]++Zag 63 .bad
def tm21c (xs:List (List Dv)) (i k:Int):List AV:= [.d (.sl 2 xs), .bad, .bad, .bad, .d (i64 i), .d (i64 k)]++Zag 62 .bad
def AJz9 (i:Nat) (x:Row):Nat→List Row→Bool
 |_, []=>true
 |k,r::l=>(decide (i=k)||and64 r.1 (lead x.1)==0)&&AJz9 i x (k+1) l
def AJy9 (l:List Row):Nat→List Row→Bool
 |_, []=>true
 |i,x::r=>AJz9 i x 0 l&&AJy9 l (i+1) r
def AZd9 (p:Option Row) (m:Int):Bool:=match p with
 |none=>true
 |some q=>decide (lead m<lead q.1)
def vPrev:Option Row→List Row→Bool
 |_, []=>true
 |p,r::l=>ACt9 r.1 r.2&&AZd9 p r.1&&vPrev (some r) l
def AHh9 (l:List Row):Bool:=vPrev none l&&AJy9 l 0 l
def T21:List (Nat×(List AV→(AV→Prop)→Prop)):= [(143,c24),(144,c37)]
theorem AVb9:AAf9 prog T21:=Zaf CEj9 (Zaf BWh9 Zah)
theorem ASe9 (xs:List (List Dv)) (i:Int):wpc prog ⟨T21, [],wl,y,false⟩ 100 lp21a (tm21a xs i) [] b (maskK 0 [0,2,3] K)=(
 BIf (decide (i<(xs.length:Int))) (BIf (true&&decide (0≤i)) (∃x0 xs1,xs[Zam i]? =some [i64 x0,Zai 1 xs1]∧∃m4 p5, [AV.agg [Zae (i64 x0),Zae (Zai 1 xs1)]]= [rowA m4 p5]∧
   BIf (!ACt9 m4 p5) (K Exit.ret ((tm21a xs i).set 2 (.d (bo false))) [] b) (BIf (decide (i>0))
     (BIf (true&&decide (0≤Zaa Zap (i - 1))) (∃x6 xs7,xs[Zam (Zaa Zap (i - 1))]? =some [i64 x6,Zai 1 xs7]∧∃m10, [Zae (i64 x6)]= [Zae (i64 m10)]∧(1≤m10∧m10<4611686018427387904)∧
       BIf (true&&decide (0≤i)) (∃x11 xs12,xs[Zam i]? =some [i64 x11,Zai 1 xs12]∧∃m15, [Zae (i64 x11)]= [Zae (i64 m15)]∧(1≤m15∧m15<4611686018427387904)∧
         BIf (decide (lead m10≤lead m15)) (K Exit.ret ((tm21a xs i).set 2 (.d (bo false))) [] b) (K Zeb (tm21a xs (Zaa Zap (i+1))) [] b)) False) False)
     (K Zeb (tm21a xs (Zaa Zap (i+1))) [] b))) False) (K (Zcy 0) (tm21a xs i) [] b)):=by kernel_rfl
theorem ASc9 (xs:List (List Dv)) (i k:Int):wpc prog ⟨T21, [],wl,y,false⟩ 100 lp21c (tm21c xs i k) [] b (maskK 0 [0,2,4,5] K)=(
 BIf (decide (k<(xs.length:Int))) (BIf (i !=k) (BIf (true&&decide (0≤k)) (∃x0 xs1,xs[Zam k]? =some [i64 x0,Zai 1 xs1]∧BIf (true&&decide (0≤i)) (∃x4 xs5,xs[Zam i]? =some [i64 x4,Zai 1 xs5]∧
   ∃m8, [Zae (i64 x4)]= [Zae (i64 m8)]∧(1≤m8∧m8<4611686018427387904)∧BIf (and64 x0 (lead m8) !=0) (K Exit.ret ((tm21c xs i k).set 2 (.d (bo false))) [] b) (K Zeb (tm21c xs i (Zaa Zap (k+1))) [] b)) False) False)
   (K Zeb (tm21c xs i (Zaa Zap (k+1))) [] b)) (K (Zcy 4) (tm21c xs i k) [] b)):=by kernel_rfl
theorem wr21a {Ev:Env prog} {b:Ev.β} {Q:Exit→St Ev.β→Prop} (l:List Row) (hl:l.length≤9223372036854775807):∀(rest:List Row) (k:Nat) (p:Option Row),l.drop k=rest→(k=0∧p=none∨∃j q,k=j+1∧p=some q∧l[j]? =some q∧ABg9 q)→
   BIf (vPrev p rest) (Q (.exit 0) ⟨tm21a (rowsR l) l.length, [],b⟩) (∀i:Int,Q .ret ⟨(tm21a (rowsR l) i).set 2 (.d (bo false)), [],b⟩)→
   k≤l.length→WR Ev lp21a (rest.length+1) ⟨tm21a (rowsR l) k, [],b⟩ Q
 | [],k,p,hd,_,hQ,hk=>by
   refine Zcn [0,2,3] mixed (CX.Ok.of (u:=false) AVb9 Zac) (k:=100) ?_
   show wpc _ _ _ _ _ _ _ (maskK 0 _ _)
   rw [ASe9]
   have:=ABm9 hd
   have e:k=l.length:=by omega
   subst e
   exact Zct (by simp [rowsR]) hQ
 | (m,s)::rest,k,p,hd,hp,hQ,hk=>by
   refine Zcn [0,2,3] mixed (CX.Ok.of (u:=false) AVb9 Zac) (k:=100) ?_
   show wpc _ _ _ _ _ _ _ (maskK 0 _ _)
   rw [ASe9]
   obtain ⟨hk,hr,hd'⟩:=AAw9 hd
   have g1:(rowsR l)[Zam k]? =some [i64 m, .sl 1 (AAa9 s)]:=by simp [rowsR,hr,rowD]
   refine Zbf (by simpa [rowsR] using hk) (Zbf (by simp) ⟨_,_,g1,m,s,rfl,Zaj (fun hf=> ?_) fun hf=> ?_⟩)
   · have hf:ACt9 m s=false:=by simpa using hf
     exact bif_f hQ (by simp [vPrev,hf]) k
   · have hf:ACt9 m s=true:=by simpa using hf
     have hok:ABg9 (m,s):=by
       simp only [ACt9,Zan,decide_eq_true_eq] at hf
       exact ⟨hf.1,hf.2.1⟩
     have hgo:AZd9 p m=true→WR Ev lp21a (rest.length+1) ⟨tm21a (rowsR l) (Zaa .i64 ((k:Int)+1)), [],b⟩ Q:=by
       intro h1
       rw [AAu9 hk hl]
       refine wr21a l hl rest (k+1) (some (m,s)) hd' (.inr ⟨k,_,rfl,rfl,hr,hok⟩) ?_ hk
       have e:vPrev p ((m,s)::rest)=vPrev (some (m,s)) rest:=by simp only [vPrev,hf,h1,Bool.true_and]
       rw [e] at hQ;exact hQ
     rcases hp with ⟨rfl,rfl⟩|⟨j,q,rfl,rfl,hj,hq⟩
     · exact Zct (by simp) (hgo rfl)
     · have e:Zaa .i64 (((j+1:Nat):Int) - 1)=(j:Int):=by rw [AAl9 (by omega) (by omega)];omega
       rw [e]
       have g2:(rowsR l)[Zam j]? =some [i64 q.1, .sl 1 (AAa9 q.2)]:=by simp [rowsR,hj,rowD]
       refine Zbf (by simp) (Zbf (by simp) ⟨_,_,g2,q.1,rfl,⟨hq.1,by have:=hq.2;omega⟩,Zbf (by simp;omega) ⟨_,_,g1,m,rfl,⟨hok.1,by have:=hok.2;simp only at this;omega⟩,Zaj (fun hc=> ?_) fun hc=> ?_⟩⟩)
       · have hc:lead q.1≤lead m:=by simpa using hc
         refine bif_f hQ ?_ _
         simp only [vPrev,AZd9]
         rw [decide_eq_false (by omega)];simp
       · have hc:lead m<lead q.1:=by simpa using hc
         exact hgo (by simpa [AZd9] using hc)
theorem wr21c {Ev:Env prog} {b:Ev.β} {Q:Exit→St Ev.β→Prop} (l:List Row) (hl:l.length≤9223372036854775807) (i:Nat) (x:Row) (hx:l[i]? =some x) (hok:ABg9 x):∀(rest:List Row) (k:Nat),l.drop k=rest→
   BIf (AJz9 i x k rest) (Q (.exit 4) ⟨tm21c (rowsR l) i l.length, [],b⟩) (∀k:Int,Q .ret ⟨(tm21c (rowsR l) i k).set 2 (.d (bo false)), [],b⟩)→
   k≤l.length→WR Ev lp21c (rest.length+1) ⟨tm21c (rowsR l) i k, [],b⟩ Q
 | [],k,hd,hQ,hk=>by
   refine Zcn [0,2,4,5] mixed (CX.Ok.of (u:=false) AVb9 Zac) (k:=100) ?_
   show wpc _ _ _ _ _ _ _ (maskK 0 _ _)
   rw [ASc9]
   have:=ABm9 hd
   have e:k=l.length:=by omega
   subst e
   exact Zct (by simp [rowsR]) hQ
 | r::rest,k,hd,hQ,hk=>by
   refine Zcn [0,2,4,5] mixed (CX.Ok.of (u:=false) AVb9 Zac) (k:=100) ?_
   show wpc _ _ _ _ _ _ _ (maskK 0 _ _)
   rw [ASc9]
   obtain ⟨hk,hr,hd'⟩:=AAw9 hd
   have g1:(rowsR l)[Zam k]? =some [i64 r.1, .sl 1 (AAa9 r.2)]:=by simp [rowsR,hr,rowD]
   have g2:(rowsR l)[Zam i]? =some [i64 x.1, .sl 1 (AAa9 x.2)]:=by simp [rowsR,hx,rowD]
   have hgo:(decide (i=k)||and64 r.1 (lead x.1)==0)=true→WR Ev lp21c (rest.length+1) ⟨tm21c (rowsR l) i (Zaa .i64 ((k:Int)+1)), [],b⟩ Q:=by
     intro h
     rw [AAu9 hk hl]
     refine wr21c l hl i x hx hok rest (k+1) hd' ?_ hk
     have e:AJz9 i x k (r::rest)=AJz9 i x (k+1) rest:=by simp only [AJz9,h,Bool.true_and]
     rw [e] at hQ;exact hQ
   refine Zbf (by simpa [rowsR] using hk) (Zaj (fun hne=> ?_) fun hne=> ?_)
   · have hne:¬i=k:=by simp [bne] at hne;omega
     refine Zbf (by simp) ⟨_,_,g1,Zbf (by simp) ⟨_,_,g2,x.1,rfl,⟨hok.1,by have:=hok.2;omega⟩,Zaj (fun hc=> ?_) fun hc=> ?_⟩⟩
     · refine bif_f hQ ?_ _
       have:(and64 r.1 (lead x.1)==0)=false:=by simpa [bne] using hc
       simp only [AJz9,this,hne,decide_false,Bool.or_false,Bool.false_and]
     · have:(and64 r.1 (lead x.1)==0)=true:=by simpa [bne] using hc
       exact hgo (by rw [this];simp)
   · have hne:i=k:=by simp [bne] at hne;omega
     exact hgo (by simp [hne])
def wl21c {β:Type}:WLT β:=fun c tm hp b K=>∃(l:List Row) (i:Nat) (x:Row),c= .loop lp21c∧ABb9 [0,4,5] 0 tm=tm21c (rowsR l) i 0∧hp= []∧(l.length≤9223372036854775807∧l[i]? =some x∧ABg9 x)∧
 BIf (AJz9 i x 0 l) (K (.exit 4) (tm21c (rowsR l) i l.length) [] b) (∀k:Int,K .ret ((tm21c (rowsR l) i k).set 2 (.d (bo false))) [] b)
theorem BAw9 {Ev:Env prog} (c:Code) (tm:List AV) (hp:List Blk) (b:Ev.β) (K:Exit→List AV→List Blk→Ev.β→Prop) (h:wl21c c tm hp b K):W Ev c ⟨tm,hp,b⟩ (fun e s=>K e s.tm s.hp s.b):=by
 obtain ⟨l,i,x,rfl,htm,rfl,⟨h0,h1,h2⟩,hK⟩:=h
 refine W.cast (htm▸AAg9 _ tm 0) (Zbt _) ?_
 exact W.rounds (wr21c (Q:=fun e s=>K e s.tm s.hp s.b) l h0 i x h1 h2 l 0 rfl hK (Zdb _))
theorem ASd9 (xs:List (List Dv)) (i:Int):wpc prog ⟨T21, [],wl21c,y,false⟩ 100 lp21b (tm21b xs i) [] b (maskK 0 [0,2,4] K)=(
 BIf (decide (i<(xs.length:Int))) (∃(l:List Row) (i':Nat) (x:Row),Zax lp21c=Zax lp21c∧tm21c xs i 0=tm21c (rowsR l) i' 0∧([]:List Blk)= []∧(l.length≤9223372036854775807∧l[i']? =some x∧ABg9 x)∧
   BIf (AJz9 i' x 0 l) (K .normal (tm21b (rowsR l) (Zaa .i64 (i'+1))) [] b) (∀k:Int,K .ret ((tm21b (rowsR l) i').set 2 (.d (bo false))) [] b)) (K (Zcy 2) (tm21b xs i) [] b)):=by kernel_rfl
theorem wr21b {Ev:Env prog} {b:Ev.β} {Q:Exit→St Ev.β→Prop} (l:List Row) (hl:l.length≤9223372036854775807) (hok:∀r∈l,ABg9 r):∀(rest:List Row) (k:Nat),l.drop k=rest→
   BIf (AJy9 l k rest) (Q (.exit 2) ⟨tm21b (rowsR l) l.length, [],b⟩) (∀i:Int,Q .ret ⟨(tm21b (rowsR l) i).set 2 (.d (bo false)), [],b⟩)→
   k≤l.length→WR Ev lp21b (rest.length+1) ⟨tm21b (rowsR l) k, [],b⟩ Q
 | [],k,hd,hQ,hk=>by
   refine Zcn [0,2,4] mixed (CX.Ok.ofWl (u:=false) AVb9 Zac BAw9) (k:=100) ?_
   show wpc _ _ _ _ _ _ _ (maskK 0 _ _)
   rw [ASd9]
   have:=ABm9 hd
   have e:k=l.length:=by omega
   subst e
   exact Zct (by simp [rowsR]) hQ
 | x::rest,k,hd,hQ,hk=>by
   refine Zcn [0,2,4] mixed (CX.Ok.ofWl (u:=false) AVb9 Zac BAw9) (k:=100) ?_
   show wpc _ _ _ _ _ _ _ (maskK 0 _ _)
   rw [ASd9]
   obtain ⟨hk,hr,hd'⟩:=AAw9 hd
   refine Zbf (by simpa [rowsR] using hk) ⟨l,k,x,rfl,rfl,rfl,⟨hl,hr,hok x (Zbh hr)⟩,Zaj (fun hc=> ?_) fun hc _=> ?_⟩
   · rw [AAu9 hk hl]
     refine wr21b l hl hok rest (k+1) hd' ?_ hk
     have e:AJy9 l k (x::rest)=AJy9 l (k+1) rest:=by simp only [AJy9,hc,Bool.true_and]
     rw [e] at hQ;exact hQ
   · exact bif_f hQ (by simp only [AJy9,hc,Bool.false_and]) _
theorem BBe9:∀ {l:List Row} {p:Option Row},vPrev p l=true→∀r∈l,ABg9 r
 | [],_,_,r,hr=>by cases hr
 | r0::l,p,h,r,hr=>by
   simp only [vPrev,Zan] at h
   rcases Zcw.1 hr with rfl|hr
   · have:=h.1.1
     simp only [ACt9,Zan,decide_eq_true_eq] at this
     exact ⟨this.1,this.2.1⟩
   · exact BBe9 h.2 r hr
def wl21 {β:Type}:WLT β:=fun c tm hp b K=>match cidO c with
 | 3=>∃(l:List Row),c= .loop lp21a∧ABb9 [0,3] 0 tm=tm21a (rowsR l) 0∧hp= []∧l.length≤9223372036854775807∧
   BIf (vPrev none l) (K (.exit 0) (tm21a (rowsR l) l.length) [] b) (∀i:Int,K .ret ((tm21a (rowsR l) i).set 2 (.d (bo false))) [] b)
 | 8=>∃(l:List Row),c= .loop lp21b∧ABb9 [0,4] 0 tm=tm21b (rowsR l) 0∧hp= []∧(l.length≤9223372036854775807∧∀r∈l,ABg9 r)∧
   BIf (AJy9 l 0 l) (K (.exit 2) (tm21b (rowsR l) l.length) [] b) (∀i:Int,K .ret ((tm21b (rowsR l) i).set 2 (.d (bo false))) [] b)
 |_=>False
theorem BYv9 {Ev:Env prog} (c:Code) (tm:List AV) (hp:List Blk) (b:Ev.β) (K:Exit→List AV→List Blk→Ev.β→Prop) (h:wl21 c tm hp b K):W Ev c ⟨tm,hp,b⟩ (fun e s=>K e s.tm s.hp s.b):=by
 unfold wl21 at h
 split at h
 · obtain ⟨l,rfl,htm,rfl,h0,hK⟩:=h
   refine W.cast (htm▸AAg9 _ tm 0) (Zbt _) ?_
   exact W.rounds (wr21a (Q:=fun e s=>K e s.tm s.hp s.b) l h0 l 0 none rfl (.inl ⟨rfl,rfl⟩) hK (Zdb _))
 · obtain ⟨l,rfl,htm,rfl,⟨h0,h1⟩,hK⟩:=h
   refine W.cast (htm▸AAg9 _ tm 0) (Zbt _) ?_
   exact W.rounds (wr21b (Q:=fun e s=>K e s.tm s.hp s.b) l h0 h1 l 0 rfl hK (Zdb _))
 · exact h.elim
theorem CJn9 (xs:List (List Dv)):wpFn prog ⟨T21, [],wl21,y,false⟩ 100 f81 [.d (.sl 2 xs)] b R=(
 ∃ l:List Row,Zax lp21a=Zax lp21a∧tm21a xs 0=tm21a (rowsR l) 0∧([]:List Blk)= []∧l.length≤9223372036854775807∧
   BIf (vPrev none l) (∃l':List Row,Zax lp21b=Zax lp21b∧tm21b (rowsR l) 0=tm21b (rowsR l') 0∧([]:List Blk)= []∧(l'.length≤9223372036854775807∧∀r∈l',ABg9 r)∧
     BIf (AJy9 l' 0 l') (R (.d (bo true)) b) (∀i:Int,R (.d (bo false)) b)) (∀i:Int,R (.d (bo false)) b)):=by kernel_rfl
theorem pc21 (l:List Row) (hl:l.length≤9223372036854775807):PCall prog 81 [.d (.sl 2 (rowsR l))] (.d (bo (AHh9 l))):=by
 refine Zcd (n:=100) (u:=false) (fun _=>wl21) mixed AVb9 Zac (fun Ev=>BYv9) func81 (by rfl) (by rfl) fun Ev bb=> ?_
 rw [CJn9]
 refine ⟨l,rfl,rfl,rfl,hl,Zaj (fun ha=>⟨l,rfl,rfl,rfl,⟨hl,BBe9 ha⟩,Zaj (fun hb=> ?_) fun hb _=> ?_⟩) fun ha _=> ?_⟩
 · rw [show AHh9 l=true by simp only [AHh9,ha,hb];rfl]
 · rw [show AHh9 l=false by simp only [AHh9,ha,hb];rfl]
 · rw [show AHh9 l=false by simp only [AHh9,ha];rfl]
def c21 (args:List AV) (K:AV→Prop):Prop:=∃(l:List Row),args= [.d (.sl 2 (rowsR l))]∧l.length≤9223372036854775807∧K (.d (bo (AHh9 l)))
theorem BWj9:∀args K,c21 args K→∃x,PCall prog 81 args x∧K x:=by
 rintro _ K ⟨l,rfl,h1,h⟩;exact ⟨_,pc21 l h1,h⟩
def mixS (x s f:Int):Int:=Zaa .u64 (Zaa .u64 ((Zar 64 x ^^^ Zar 64 (x.fdiv s)).toNat:Int)*f)
def nextS (x:Int):Int:=mixS (mixS (mixS (Zaa .u64 (x+11400714819323198485)) 1073741824 13787848793156543929) 134217728 10723151780598845931) 2147483648 1
def halfS (x:Int):Int:=Zaa .i64 (x.fdiv 4294967296)
def AKd9 (x:Int):Int:=halfS (nextS x)
theorem CIs9 (x:Int):wpFn prog ⟨[], [],wl,y,true⟩ 100 f226 [.d (u64 x)] b R=R (.d (u64 (nextS x))) b:=by kernel_rfl
theorem pc67 (x:Int):PCall prog 226 [.d (u64 x)] (.d (u64 (nextS x))):=by
 refine Zaz (n:=100) (u:=true) mixed Zah Zac func226 (by rfl) (by rfl) fun Ev bb=> ?_
 rw [CIs9]
def c67 (args:List AV) (K:AV→Prop):Prop:=∃(x:Int),args= [.d (u64 x)]∧K (.d (u64 (nextS x)))
theorem CKf9:∀args K,c67 args K→∃x,PCall prog 226 args x∧K x:=by
 rintro _ K ⟨x,rfl,h⟩;exact ⟨_,pc67 x,h⟩
def HSp {β:Type} (Y:ABr9 β):Nat→Int→β→(β→Prop)→Prop
 |0,_,_,_=>False
 |n+1,x,b,Q=>Y b [.d (i64 (halfS x))] fun cont b'=>BIf cont (HSp Y n (nextS x) b' Q) (Q b')
def cellU (x:Int):Blk:=⟨[.d (u64 x)],false,false,0⟩
noncomputable def lp66:Code:=sub [1,2,3] (code f225)
def tm66:List AV:= [.yl, .ptr 0 0]++Zag 10 .bad
def T66:List (Nat×(List AV→(AV→Prop)→Prop)):= [(226,c67)]
theorem CFg9:AAf9 prog T66:=Zaf CKf9 Zah
theorem BLa9 (x:Int):wpc prog ⟨T66, [],wl,y,false⟩ 100 lp66 tm66 [cellU x] b (maskT [0,1] K)=(
 y b [Zae (i64 (halfS x))] fun cont0 b1=>BIf cont0 (∃x2:Int, [Zae (u64 x)]= [Zae (u64 x2)]∧K .normal tm66 [cellU (nextS x2)] b1) (K (.exit 0) tm66 [cellU x] b1)):=by kernel_rfl
def wl66 {β:Type} (y:ABr9 β):WLT β:=fun c tm hp b K=>∃(n:Nat) (x:Int),c= .loop lp66∧ABb9 [0,1] 0 tm=tm66∧hp= [cellU x]∧HSp y n x b fun b'=>∀z,K (.exit 0) tm66 [cellU z] b'
theorem HSp.yoke {Ev:Env prog} {Q Q':Ev.β→Prop} (hq:∀b,Q b→Q' b):∀(n:Nat) (x:Int) (b:Ev.β),HSp Ev.Y n x b Q→HSp Ev.Y n x b Q'
 |0,_,_,h=>h.elim
 | n+1,x,b,h=>Ev.Ymono h fun c b' h=>by
   cases c with
   |true=>exact HSp.yoke hq n _ _ h
   |false=>exact hq _ h
theorem wr66 {Ev:Env prog} {Q:Exit→St Ev.β→Prop}:∀(n:Nat) (x:Int) (b:Ev.β),(HSp Ev.Y n x b fun b'=>∀z,Q (.exit 0) ⟨tm66, [cellU z],b'⟩)→WR Ev lp66 n ⟨tm66, [cellU x],b⟩ Q
 |0,_,_,h=>h.elim
 | n+1,x,b,h=>by
   refine Zbw [0,1] mixed (CX.Ok.of (u:=false) CFg9 Zac) (k:=100) ?_
   rw [BLa9]
   refine Ev.Ymono h fun c b' h=> ?_
   cases c with
   |true=>exact ⟨x,rfl,wr66 n _ _ h⟩
   |false=>exact h _
theorem BYd9 {Ev:Env prog} (c:Code) (tm:List AV) (hp:List Blk) (b:Ev.β) (K:Exit→List AV→List Blk→Ev.β→Prop) (h:wl66 Ev.Y c tm hp b K):W Ev c ⟨tm,hp,b⟩ (fun e s=>K e s.tm s.hp s.b):=by
 obtain ⟨n,x,rfl,htm,rfl,hK⟩:=h
 refine W.cast (htm▸AAg9 _ tm 0) (Zbt _) ?_
 exact W.rounds (wr66 (Q:=fun e s=>K e s.tm s.hp s.b) n x b hK)
theorem CIt9 (x:Int):wpc prog ⟨T66, [],wl66 y,y,false⟩ 100 (code f225) (ABc9 f225 [.yl, .ptr 0 0]) [cellU x] b (fnK prog f225 fun _ b=>Q b)=(
 ∃x0:Int, [Zae (u64 x)]= [Zae (u64 x0)]∧∃(n:Nat) (z:Int),Zax lp66= .loop lp66∧tm66=tm66∧ [cellU (nextS x0)]= [cellU z]∧HSp y n z b fun b'=>∀_:Int,Q b'):=by kernel_rfl
def BUn9 (x:Int):SpT:=fun Y b Q=>∃n,HSp Y n (nextS x) b Q
theorem ic66 (x:Int):BHt9 prog 225 [.yl, .ptr 0 0] (cellU x) (BUn9 x):=by
 refine BHt9.ofW (c:=code f225) func225 rfl rfl fun Ev b Q h=> ?_
 obtain ⟨n,h⟩:=h
 have h1:wpc prog ⟨T66, [],wl66 Ev.Y,Ev.Y,false⟩ 100 (code f225) (ABc9 f225 [.yl, .ptr 0 0]) [cellU x] b (fnK prog f225 fun _ b=>Q b):=by
   rw [CIt9]
   exact ⟨x,rfl,n,_,rfl,rfl,rfl,HSp.yoke (fun b h _=>h) _ _ _ h⟩
 refine AAr9 mixed (CX.Ok.ofWl CFg9 Zac BYd9) h1 fun e tm hp b hK=> ?_
 obtain ⟨g1,ys,g2,z,g3,g4⟩:=ACu9 hK
 exact ⟨g1,ys,g2,g4⟩
section
variable {β:Type} (wl:WLT β) (y:ABr9 β) (b:β) (R:AV→List Blk→β→Prop)
theorem CIu9 (x:Int):wpFnS prog ⟨[], [],wl,y,false⟩ 100 f206 [.d (u64 x)] b R=R (.fn (.func 225) [] [.ptr 0 0]) [cellU x] b:=by kernel_rfl
end
theorem fc63 (x:Int):FCall prog 206 [.d (u64 x)] (.fn (.func 225) [] [.ptr 0 0]) [cellU x]:=by
 refine FCall.ofFnW (n:=100) (u:=false) (fun _=>fun _ _ _ _ _=>False) mixed Zah Zac (fun Ev _ _ _ _ _ h=>h.elim) func206 (by rfl) (by rfl) (by rfl) fun Ev bb=> ?_
 rw [CIu9]
 exact ⟨rfl,rfl⟩
def s63 (args:List AV) (hp:List Blk) (K:AV→List Blk→Prop):Prop:=∃(x:Int),args= [.d (u64 x)]∧K (.fn (.func 225) [] [.ptr hp.length 0]) (hp++ [cellU x])
theorem CFv9:∀args hp K,s63 args hp K→∃x hp',SCall prog 206 args hp x hp'∧K x hp':=by
 rintro _ hp K ⟨x,rfl,h⟩
 exact ⟨_,_,(fc63 x).toS rfl hp,by simpa [shift,AKb9,AHt9,AQs9,cellU] using h⟩
def T58:List (Nat×(List AV→List Blk→(AV→List Blk→Prop)→Prop)):= [(206,s63)]
theorem CFh9:AAk9 prog T58:=AAk9.cons CFv9 Zac
noncomputable def rf58:Code:=sub [1,0,1,2] (code f153)
def cellI (x:Int):Blk:=⟨[.d (i64 x)],false,false,0⟩
def tm58 (x:Int):List AV:= [.d (u64 x), .bad, .ptr 0 0, .bad, .bad, .fn (.func 225) [] [.ptr 1 0], .bad, .bad]
theorem f58_a (x:Int):wpc prog ⟨[],T58,wl,y,false⟩ 100 (sub [0] (code f153)) (ABc9 f153 [.d (u64 x)]) [] b K=K .normal [.d (u64 x), .bad, .ptr 0 0, .bad, .bad, .bad, .bad, .bad] [cellI 0] b:=by kernel_rfl
theorem f58_b (x:Int):wpc prog ⟨[],T58,wl,y,false⟩ 100 (sub [1,0,0] (code f153)) [.d (u64 x), .bad, .ptr 0 0, .bad, .bad, .bad, .bad, .bad] [cellI 0] b (maskT [0,2,5] K)=(
 ∃x0:Int, [Zae (u64 x)]= [.d (u64 x0)]∧K .normal (tm58 x) [cellI 0,cellU x0] b):=by kernel_rfl
theorem f58_c (x h:Int) (K:Exit→List Blk→β→Prop):wpcY prog ⟨[], [],wl,y,false⟩ 100 #[6] (AAq9 rf58) (ABu9 rf58) (lowTm 1 (tm58 x)) [.d (i64 h)] [cellI 0] b (takeK 1 K)=K .ret [cellI h] b:=by kernel_rfl
theorem BCa9:rf58= .rangeFunc (.tmp 5) #[6] (AAq9 rf58) (ABu9 rf58):=by kernel_rfl
theorem BLb9:code f153= .seq (sub [0] (code f153)) (.seq (.seq (sub [1,0,0] (code f153)) (.block 0 rf58)) (sub [1,1] (code f153))):=by kernel_rfl
theorem CCn9 (x y:Int):resAs prog [cellI x] (lowTm 1 (tm58 y)) Tryz.f153.results.toList=some [.d (i64 x)]:=by kernel_rfl
theorem pc58 (x:Int):PCall prog 153 [.d (u64 x)] (.d (i64 (AKd9 x))):=by
 refine PCall.ofW0 (x0:=i64 (AKd9 x)) (c:=code f153) func153 rfl rfl rfl fun Ev b=> ?_
 rw [BLb9]
 refine W0.seq (W0.of (AAr9 mixed (CX.Ok.of (u:=false) Zah CFh9) (n:=100) (K:=thenK (fun tm hp b'=>tm= [.d (u64 x), .bad, .ptr 0 0, .bad, .bad, .bad, .bad, .bad]∧hp= [cellI 0]) fun _ _ _ _=>False) ?_ ?_))
 · rw [f58_a];exact ⟨rfl,rfl⟩
 intro e tm hp b' h
 cases e<;>first|exact h.elim|skip
 obtain ⟨rfl,rfl⟩:=h
 refine W0.seq (W0.seq (W0.of (W.castPost (AAr9 mixed (CX.Ok.of (u:=false) Zah CFh9) (n:=100) (K:=maskT [0,2,5] (thenK (fun tm hp b'=>tm=tm58 x∧hp= [cellI 0,cellU x]) fun _ _ _ _=>False)) ?_ ?_))))
 · rw [f58_b];exact ⟨x,rfl,rfl,rfl⟩
 intro e tm hp b' h
 refine ⟨_,_,AAg9 [0,2,5] tm 0,Zbt _, ?_⟩
 cases e<;>first|exact h.elim|skip
 obtain ⟨h1,rfl⟩:=h
 show W0 Ev _ _ _
 rw [h1]
 refine W0.block ?_
 rw [BCa9]
 refine W0.range (hp0:= [cellI 0]) (blk:=cellU x) rfl rfl rfl rfl rfl rfl rfl (ic66 x) ?_
 refine ⟨1, ?_⟩
 refine YBody.ofWp (k:=100) (X:=⟨[], [],wlW Ev,Ev.Y,false⟩) (K:=takeK 1 fun e hp b'=>e= .ret∧hp= [cellI (AKd9 x)]) mixed (CX.Ok.of Zah Zac) rfl ?_ ?_
 · show wpcY _ _ _ _ _ _ (lowTm 1 (tm58 x)) [.d (i64 (halfS (nextS x)))] [cellI 0] _ _
   rw [f58_c];exact ⟨rfl,rfl⟩
 intro e tm hp b' h
 obtain ⟨h1,h2,h3⟩:=h.elim'
 subst h2
 refine ⟨h1, ?_⟩
 refine Zct rfl ?_
 have h4:List.take [cellI 0].length hp= [cellI (AKd9 x)]:=h3
 rw [h4]
 exact ⟨.inl rfl,_,CCn9 _ x,rfl,rfl⟩
def c58 (args:List AV) (K:AV→Prop):Prop:=∃(x:Int),args= [.d (u64 x)]∧K (.d (i64 (AKd9 x)))
theorem CEf9:∀args K,c58 args K→∃x,PCall prog 153 args x∧K x:=by
 rintro _ K ⟨x,rfl,h⟩;exact ⟨_,pc58 x,h⟩
theorem ANt9 (x:Int):0≤nextS x∧nextS x<18446744073709551616:=AFz9 _
theorem AZm9 {x:Int} (h0:0≤x) (h1:x<18446744073709551616):halfS x=x / 4294967296∧0≤halfS x∧halfS x<4294967296:=by
 have e:x.fdiv 4294967296=x / 4294967296:=by rw [Int.fdiv_eq_ediv_of_nonneg _ (by omega)]
 have h:halfS x=x / 4294967296:=by
   unfold halfS
   rw [e,AAl9 (by omega) (by omega)]
 rw [h];omega
theorem AMc9 (x:Int):0≤AKd9 x∧AKd9 x<4294967296:=(AZm9 (ANt9 x).1 (ANt9 x).2).2
def maskS (x:Int):Int:=1+AKd9 x % 65535
theorem ANw9 (x:Int):1≤maskS x∧maskS x≤65535:=by unfold maskS;omega
theorem BDu9 (x:Int):Zaa .i64 (1+Int.tmod (AKd9 x) (Zaa .i64 (Zaa .i64 (1*2 ^ min (Zam 16) 64) - 1)))=maskS x:=by
 have h1:Zaa .i64 (Zaa .i64 (1*2 ^ min (Zam 16) 64) - 1)=65535:=by decide
 have h:=AMc9 x
 have h2:=ANw9 x
 rw [h1,Int.tmod_eq_emod_of_nonneg h.1]
 exact AAl9 (by unfold maskS at h2;omega) (by unfold maskS at h2;omega)
def TMask:List (Nat×(List AV→(AV→Prop)→Prop)):= [(153,c58)]
theorem BWz9:AAf9 prog TMask:=Zaf CEf9 Zah
theorem CBw9 (x:Int):wpFn prog ⟨TMask, [],wl,y,false⟩ 100 f98 [.d (u64 x), .d (i64 16)] b R=(
 ∃x0:Int, [Zae (u64 x)]= [.d (u64 x0)]∧R (.d (i64 (Zaa .i64 (1+Int.tmod (AKd9 x0) (Zaa .i64 (Zaa .i64 (1*2 ^ min (Zam 16) 64) - 1)))))) b):=by kernel_rfl
theorem BKm9 (x:Int):wpFn prog ⟨[], [],wl,y,false⟩ 100 f97 [.d (i64 x)] b R=(
 BIf (decide (x≥0)) (R (.d (bo (decide (x≤1000000000)))) b) (R (.d (bo false)) b)):=by kernel_rfl
theorem BRo9 (x:Int):wpFn prog ⟨[], [],wl,y,false⟩ 100 f104 [.d (i64 x)] b R=(
 BIf (decide (x≥0)) (R (.d (bo (decide (x≤1000000000)))) b) (R (.d (bo false)) b)):=by kernel_rfl
theorem BKn9 (x:Int):wpFn prog ⟨[], [],wl,y,false⟩ 100 f99 [.d (i64 x)] b R=(
 BIf (decide (x≥0)) (R (.d (bo (decide (x<16)))) b) (R (.d (bo false)) b)):=by kernel_rfl
theorem CGp9 (x:Int):PCall prog 98 [.d (u64 x), .d (i64 16)] (.d (i64 (maskS x))):=by
 refine Zaz (n:=100) (u:=false) mixed BWz9 Zac func98 (by rfl) (by rfl) fun Ev bb=> ?_
 rw [CBw9]
 exact ⟨x,rfl,by rw [BDu9]⟩
def cMask (args:List AV) (K:AV→Prop):Prop:=∃(x:Int),args= [.d (u64 x), .d (i64 16)]∧K (.d (i64 (maskS x)))
theorem BVx9:∀args K,cMask args K→∃x,PCall prog 98 args x∧K x:=by
 rintro _ K ⟨x,rfl,h⟩;exact ⟨_,CGp9 x,h⟩
def seedS (x:Int):Bool:=decide (0≤x)&&decide (x≤1000000000)
def pageS (x:Int):Bool:=decide (0≤x)&&decide (x<16)
theorem BHl9 {x:Int} {q:Bool} {R:AV→Prop} (h:R (.d (bo (decide (0≤x)&&q)))):BIf (decide (x≥0)) (R (.d (bo q))) (R (.d (bo false))):=by
 by_cases h0:0≤x
 · exact Zbf (by simpa using h0) (by simpa [h0] using h)
 · exact Zct (by simpa using h0) (by simpa [h0] using h)
theorem BTj9 (x:Int):PCall prog 97 [.d (i64 x)] (.d (bo (seedS x))):=by
 refine Zaz (n:=100) (u:=false) mixed Zah Zac func97 (by rfl) (by rfl) fun Ev bb=> ?_
 rw [BKm9]
 exact BHl9 (R:=fun y=>y=_) rfl
theorem CAo9 (x:Int):PCall prog 104 [.d (i64 x)] (.d (bo (seedS x))):=by
 refine Zaz (n:=100) (u:=false) mixed Zah Zac func104 (by rfl) (by rfl) fun Ev bb=> ?_
 rw [BRo9]
 exact BHl9 (R:=fun y=>y=_) rfl
theorem BTk9 (x:Int):PCall prog 99 [.d (i64 x)] (.d (bo (pageS x))):=by
 refine Zaz (n:=100) (u:=false) mixed Zah Zac func99 (by rfl) (by rfl) fun Ev bb=> ?_
 rw [BKn9]
 exact BHl9 (R:=fun y=>y=_) rfl
def cSeed (args:List AV) (K:AV→Prop):Prop:=∃(x:Int),args= [.d (i64 x)]∧K (.d (bo (seedS x)))
theorem AMl9:∀args K,cSeed args K→∃x,PCall prog 97 args x∧K x:=by
 rintro _ K ⟨x,rfl,h⟩;exact ⟨_,BTj9 x,h⟩
theorem AKr9:∀args K,cSeed args K→∃x,PCall prog 104 args x∧K x:=by
 rintro _ K ⟨x,rfl,h⟩;exact ⟨_,CAo9 x,h⟩
def BGz9 (args:List AV) (K:AV→Prop):Prop:=∃(x:Int),args= [.d (i64 x)]∧K (.d (bo (pageS x)))
theorem ATd9:∀args K,BGz9 args K→∃x,PCall prog 99 args x∧K x:=by
 rintro _ K ⟨x,rfl,h⟩;exact ⟨_,BTk9 x,h⟩
def setS (x:Int):Int:=if seedS x=false then 0 else if x<16 then 2 ^ x.toNat else maskS x
def TSet:List (Nat×(List AV→(AV→Prop)→Prop)):= [(97,cSeed),(98,cMask)]
theorem CEr9:AAf9 prog TSet:=Zaf AMl9 (Zaf BVx9 Zah)
theorem CFt9 (x:Int):wpFn prog ⟨TSet, [],wl,y,false⟩ 100 f33 [.d (i64 x)] b R=(
 ∃ x0:Int, [Zae (i64 x)]= [.d (i64 x0)]∧BIf (!seedS x0) (R (.d (i64 0)) b) (BIf (decide (x<16)) (BIf (decide (x<0)) False (R (.d (i64 (Zaa .i64 (1*2 ^ min (Zam x) 64)))) b))
   (∃x1:Int, [Zae (u64 (Zaa .u64 x)), .d (i64 16)]= [.d (u64 x1), .d (i64 16)]∧R (.d (i64 (maskS x1))) b))):=by kernel_rfl
theorem AEd9 {x:Int}:seedS x=true↔0≤x∧x≤1000000000:=by simp [seedS]
theorem BIp9 {x:Int} (h0:0≤x) (h1:x<16):Zaa .i64 (1*2 ^ min (Zam x) 64)=2 ^ x.toNat:=by
 obtain ⟨n,rfl⟩:=Int.eq_ofNat_of_zero_le h0
 have hn:n<16:=by omega
 have h2:∀m:Fin 16,Zaa .i64 (1*2 ^ min (Zam ((m.val:Nat):Int)) 64)=2 ^ Zam ((m.val:Nat):Int):=by decide
 exact h2 ⟨n,hn⟩
theorem AQt9 (x:Int) {R:AV→Prop} (h:R (.d (i64 (setS x)))):BIf (!seedS x) (R (.d (i64 0))) (BIf (decide (x<16)) (BIf (decide (x<0)) False (R (.d (i64 (Zaa .i64 (1*2 ^ min (Zam x) 64))))))
   (∃x1:Int, [Zae (u64 (Zaa .u64 x)), .d (i64 16)]= [.d (u64 x1), .d (i64 16)]∧R (.d (i64 (maskS x1))))):=by
 by_cases hs:seedS x=true
 · obtain ⟨h0,h1⟩:=AEd9.1 hs
   refine Zct (by simp [hs]) ?_
   by_cases hx:x<16
   · refine Zbf (by simpa using hx) (Zct (by simp;omega) ?_)
     rw [BIp9 h0 hx]
     simpa [setS,hs,hx] using h
   · refine Zct (by simpa using hx) ⟨x,by rw [ADp9 h0 (by omega)],by simpa [setS,hs,hx] using h⟩
 · simp only [Bool.not_eq_true] at hs
   exact Zbf (by simp [hs]) (by simpa [setS,hs] using h)
theorem pcSet (x:Int):PCall prog 33 [.d (i64 x)] (.d (i64 (setS x))):=by
 refine Zaz (n:=100) (u:=false) mixed CEr9 Zac func33 (by rfl) (by rfl) fun Ev bb=> ?_
 rw [CFt9]
 exact ⟨x,rfl,AQt9 x (R:=fun y=>y=_) rfl⟩
def cSet (args:List AV) (K:AV→Prop):Prop:=∃(x z:Int),args= [.d (i64 x)]∧z=setS x∧K (.d (i64 z))
theorem BPa9:∀args K,cSet args K→∃x,PCall prog 33 args x∧K x:=by
 rintro _ K ⟨x,z,rfl,rfl,h⟩;exact ⟨_,pcSet x,h⟩
def nextR (x:Int):Int:=Zaa .u64 ((Zar 64 (mixS (mixS (Zaa .u64 (x+11400714819323198485)) 1073741824 13787848793156543929) 134217728 10723151780598845931) ^^^
 Zar 64 ((mixS (mixS (Zaa .u64 (x+11400714819323198485)) 1073741824 13787848793156543929) 134217728 10723151780598845931).fdiv 2147483648)).toNat:Int)
theorem BUb9 (x:Int):nextR x=nextS x:=by
 unfold nextR nextS
 generalize mixS (mixS (Zaa .u64 (x+11400714819323198485)) 1073741824 13787848793156543929) 134217728 10723151780598845931=z
 unfold mixS
 rw [Int.mul_one]
 have:=AFz9 ((Zar 64 z ^^^ Zar 64 (z.fdiv 2147483648)).toNat:Int)
 rw [ADp9 this.1 this.2]
theorem BUa9 (x:Int):wpFn prog ⟨[], [],wl,y,false⟩ 100 f216 [.d (u64 x)] b R=R (.d (u64 (nextR x))) b:=by kernel_rfl
theorem BUo9 (x:Int):wpFn prog ⟨[], [],wl,y,false⟩ 100 f215 [.d (u64 x)] b R=R (.d (i64 (halfS x))) b:=by kernel_rfl
theorem CBb9 (x:Int):PCall prog 216 [.d (u64 x)] (.d (u64 (nextS x))):=by
 refine Zaz (n:=100) (u:=false) mixed Zah Zac func216 (by rfl) (by rfl) fun Ev bb=> ?_
 rw [BUa9,BUb9]
theorem CBg9 (x:Int):PCall prog 215 [.d (u64 x)] (.d (i64 (halfS x))):=by
 refine Zaz (n:=100) (u:=false) mixed Zah Zac func215 (by rfl) (by rfl) fun Ev bb=> ?_
 rw [BUo9]
def BVw9 (args:List AV) (K:AV→Prop):Prop:=∃(x:Int),args= [.d (u64 x)]∧K (.d (u64 (nextS x)))
theorem AXw9:∀args K,BVw9 args K→∃x,PCall prog 216 args x∧K x:=by
 rintro _ K ⟨x,rfl,h⟩;exact ⟨_,CBb9 x,h⟩
def BWa9 (args:List AV) (K:AV→Prop):Prop:=∃(x:Int),args= [.d (u64 x)]∧K (.d (i64 (halfS x)))
theorem AXx9:∀args K,BWa9 args K→∃x,PCall prog 215 args x∧K x:=by
 rintro _ K ⟨x,rfl,h⟩;exact ⟨_,CBg9 x,h⟩
def CFb9:List (Nat×(List AV→(AV→Prop)→Prop)):= [(216,BVw9),(215,BWa9)]
theorem BNd9:AAf9 prog CFb9:=Zaf AXw9 (Zaf AXx9 Zah)
theorem BUf9 (x:Int):wpFn prog ⟨CFb9, [],wl,y,false⟩ 100 f181 [.d (u64 x), .d (i64 16)] b R=(
 ∃x0:Int, [Zae (u64 x)]= [.d (u64 x0)]∧∃x1:Int, [Zae (u64 (nextS x0))]= [.d (u64 x1)]∧R (.d (i64 (Zaa .i64 (1+Int.tmod (halfS x1) 65535)))) b):=by kernel_rfl
theorem CBc9 (x:Int):PCall prog 181 [.d (u64 x), .d (i64 16)] (.d (i64 (maskS x))):=by
 refine Zaz (n:=100) (u:=false) mixed BNd9 Zac func181 (by rfl) (by rfl) fun Ev bb=> ?_
 rw [BUf9]
 exact ⟨x,rfl,_,rfl,by rw [←BDu9];rfl⟩
def CDw9 (args:List AV) (K:AV→Prop):Prop:=∃(x:Int),args= [.d (u64 x), .d (i64 16)]∧K (.d (i64 (maskS x)))
theorem BMl9:∀args K,CDw9 args K→∃x,PCall prog 181 args x∧K x:=by
 rintro _ K ⟨x,rfl,h⟩;exact ⟨_,CBc9 x,h⟩
def TSetR:List (Nat×(List AV→(AV→Prop)→Prop)):= [(104,cSeed),(181,CDw9)]
theorem BWw9:AAf9 prog TSetR:=Zaf AKr9 (Zaf BMl9 Zah)
theorem BZn9 (x:Int):wpFn prog ⟨TSetR, [],wl,y,false⟩ 100 f130 [.d (i64 x)] b R=(
 ∃ x0:Int, [Zae (i64 x)]= [.d (i64 x0)]∧BIf (!seedS x0) (R (.d (i64 0)) b) (BIf (decide (x<16)) (BIf (decide (Zaa .u64 x<0)) False (R (.d (i64 (Zaa .i64 (1*2 ^ min (Zam (Zaa .u64 x)) 64)))) b))
   (∃x1:Int, [Zae (u64 (Zaa .u64 x)), .d (i64 16)]= [.d (u64 x1), .d (i64 16)]∧R (.d (i64 (maskS x1))) b))):=by kernel_rfl
theorem CGe9 (x:Int):PCall prog 130 [.d (i64 x)] (.d (i64 (setS x))):=by
 refine Zaz (n:=100) (u:=false) mixed BWw9 Zac func130 (by rfl) (by rfl) fun Ev bb=> ?_
 rw [BZn9]
 refine ⟨x,rfl, ?_⟩
 by_cases h0:0≤x∧x<18446744073709551616
 · rw [ADp9 h0.1 h0.2]
   have:=AQt9 x (R:=fun y=>y= .d (i64 (setS x))) rfl
   rwa [ADp9 h0.1 h0.2] at this
 · have hs:seedS x=false:=by
     rw [Bool.eq_false_iff];intro h;have:=AEd9.1 h;omega
   exact Zbf (by simp [hs]) (by simp [setS,hs])
def cSetR (args:List AV) (K:AV→Prop):Prop:=∃(x z:Int),args= [.d (i64 x)]∧z=setS x∧K (.d (i64 z))
theorem BFz9:∀args K,cSetR args K→∃x,PCall prog 130 args x∧K x:=by
 rintro _ K ⟨x,z,rfl,rfl,h⟩;exact ⟨_,CGe9 x,h⟩
theorem ACq9 {x:Int} (h:seedS x=true):1≤setS x∧setS x≤65535:=by
 obtain ⟨h0,h1⟩:=AEd9.1 h
 unfold setS
 simp only [h,Bool.true_eq_false,if_false]
 split
 · rename_i hx
   obtain ⟨n,rfl⟩:=Int.eq_ofNat_of_zero_le h0
   have hn:n<16:=by omega
   have h2:∀m:Fin 16,(1:Int)≤2 ^ Zam ((m.val:Nat):Int)∧(2:Int) ^ Zam ((m.val:Nat):Int)≤65535:=by decide
   exact h2 ⟨n,hn⟩
 · exact ANw9 x
end Go.Proofs.YtibhflogmbfpcaaGreatDoor.Am
namespace Go.Proofs
open Go.Shelf
def Tryz.lays27_ren:Go.Shelf.Ren:=⟨fun|27=>102|28=>155|29=>156|n=>n,fun|25=>162|3=>3|27=>59|22=>22|4=>4|53=>259|0=>0|5=>5|54=>260|n=>n,fun|0=>0|1=>1|n=>n⟩
theorem Tryz.lays27:Go.Proofs.Lays7.n27 prog Tryz.lays27_ren:= {
  mixed:=by kernel_rfl
  f27:=Tryz.func102.trans (congrArg some (by kernel_rfl))
  f28:=Tryz.func155.trans (congrArg some (by kernel_rfl))
  f29:=Tryz.func156.trans (congrArg some (by kernel_rfl))
  t0:=Tryz.underlying0
  a0:=Tryz.isAgg0
  z0:=Tryz.sizeOf0
  v0:=Tryz.zeroValue0
  i0:=by kernel_rfl
  t3:=Tryz.underlying3
  a3:=Tryz.isAgg3
  z3:=Tryz.sizeOf3
  v3:=Tryz.zeroValue3
  i3:=by kernel_rfl
  t4:=Tryz.underlying4
  a4:=Tryz.isAgg4
  z4:=Tryz.sizeOf4
  v4:=Tryz.zeroValue4
  i4:=by kernel_rfl
  t5:=Tryz.underlying5
  a5:=Tryz.isAgg5
  z5:=Tryz.sizeOf5
  v5:=Tryz.zeroValue5
  i5:=by kernel_rfl
  t22:=Tryz.underlying22
  a22:=Tryz.isAgg22
  z22:=Tryz.sizeOf22
  v22:=Tryz.zeroValue22
  i22:=by kernel_rfl
  t25:=Tryz.underlying162
  a25:=Tryz.isAgg162
  z25:=Tryz.sizeOf162
  v25:=Tryz.zeroValue162
  i25:=by kernel_rfl
  t27:=Tryz.underlying59
  a27:=Tryz.isAgg59
  z27:=Tryz.sizeOf59
  v27:=Tryz.zeroValue59
  i27:=by kernel_rfl
  t53:=Tryz.underlying259
  a53:=Tryz.isAgg259
  z53:=Tryz.sizeOf259
  v53:=Tryz.zeroValue259
  i53:=by kernel_rfl
  t54:=Tryz.underlying260
  a54:=Tryz.isAgg260
  z54:=Tryz.sizeOf260
  g0:=by kernel_rfl
  g1:=by kernel_rfl}
end Go.Proofs
namespace Go.Proofs.YtibhflogmbfpcaaGreatDoor.Am
open Go Go.RowKit Go.Proofs Tryz
open AV renaming d → Zae
open BIf renaming f → Zct, of → Zaj, t → Zbf
open BitVec renaming ofInt → Zar
open Bool renaming and_eq_true → Zan
open AAf9 renaming cons → Zaf, nil → Zah
open Go.Code renaming loop → Zax
open Dv renaming sl → Zai
open Go.Exit renaming exit → Zcy, normal → Zeb
open Int renaming toNat → Zam, toNat_natCast → Zas
open Go.IntKind renaming i64 → Zap, wrap → Zaa
open LeH renaming refl → Zbt
open List renaming all_eq_true → Zbm, append_nil → Zef, foldl_cons → Zbv, getElem?_eq_getElem → Zbk, getElem?_eq_some_iff → Zad, length → Zab, length_append → Zdh, map_cons → Zcz, mem_cons → Zcw, mem_cons_of_mem → Zaw, mem_cons_self → Zay, mem_iff_getElem? → Zao, mem_map → Zbo, mem_of_getElem? → Zbh, mem_range'_1 → Zdo, pairwise_cons → Zca, range → Zbn, range' → Zch, range'_succ → Zdq, replicate → Zag
open Nat renaming eq_of_testBit_eq → Zej, testBit_two_pow → Zdn, zero_le → Zdb
open PCall renaming ofFn → Zaz, ofFnW → Zcd
open AAk9 renaming nil → Zac
open WR renaming ofMask → Zcn, ofMaskT → Zbw
variable {β:Type} (wl:WLT β) (y:ABr9 β) (b:β) (R:AV→β→Prop) (K:Exit→List AV→List Blk→β→Prop) (Kh:Exit→List Blk→β→Prop) (Q:β→Prop)
open AV (bad)
set_option linter.unusedVariables false
set_option maxRecDepth 20000
theorem PCall.ofCallsG {P:Program} {f:Nat} (vals:List Value) {v:Value} (hent:∀(us:Array Value) (w:World),(callFunc f us).run P w= .ok (.enter f us) w)
   (h:∀S w,Glob S w→Calls P f vals.toArray w fun e w'=>e= .returned v∧w'=w):PCall P f (vals.map fun v=> .d (.s v)) (ofVal v):=by
 refine ⟨hent,fun S w vs hl hvs hlt hgl=> ?_⟩
 have he:vs=vals:=by
   apply List.ext_getElem?
   intro i
   by_cases hi:i<vals.length
   · have h1:=hvs i (.d (.s vals[i])) (vs[i]'(by simpa [←hl] using hi)) (by simp [hi]) (by simp)
     cases h1 with
     | d h1=>
       generalize hv:vs[i]'(by simpa [←hl] using hi)=u at h1
       cases h1
       rw [Zad.2 ⟨by simpa [←hl] using hi,hv⟩]
       simp [hi]
   · rw [List.getElem?_eq_none (by simpa [←hl] using hi),List.getElem?_eq_none (by omega)]
 subst he
 refine CallsIn.mono (callsIn_wide.2 (h S w hgl)) ?_
 rintro e w' ⟨rfl,rfl⟩
 exact ⟨v,S,rfl,Below.refl _ _,fun _ _ h=>h,fun _ _ h=> .inl h,(RV.ofVal v).view⟩
theorem tab64:ABx9 1=Lib.deBruijn64tab.map fun (n:Nat)=>Value.int .u8 (n:Int):=by rfl
theorem BZi9 {S:Pr} {w:World} (h:Glob S w):TabAt 1 Lib.deBruijn64tab w:=by
 intro j hj
 have h1:(ABx9 1)[j]? =some (.int .u8 (Lib.deBruijn64tab.getD j 0)):=by
   rw [tab64,List.getElem?_map,Zbk hj]
   simp [List.getD_eq_getElem?_getD,Zbk hj]
 exact (h 1 j _ h1).2.1
def tzS (x:Int):Int:=(Lib.ctz 64 x.toNat:Int)
theorem pcTz {x:Int} (h0:0≤x) (h1:x<18446744073709551616):PCall prog 102 [.d (u64 x)] (.d (i64 (tzS x))):=by
 have:=PCall.ofCallsG (P:=prog) (f:=102) [.int .u64 x] (v:= .int .i64 (tzS x)) (enters_of (f:=102) func102 (by rfl) (by rfl)) fun S w hg=>by
   have h2:=Any7.bits_TrailingZeros Tryz.lays27 x.toNat (by omega) w (fun _=>BZi9 hg)
   rw [Int.toNat_of_nonneg h0] at h2
   exact h2
 exact this
def cTz (args:List AV) (K:AV→Prop):Prop:=∃(x z:Int),args= [.d (u64 x)]∧((0≤x∧x<18446744073709551616)∧z=tzS x)∧K (.d (i64 z))
theorem CJy9:∀args K,cTz args K→∃x,PCall prog 102 args x∧K x:=by
 rintro _ K ⟨x,z,rfl,⟨⟨h0,h1⟩,rfl⟩,h⟩;exact ⟨_,pcTz h0 h1,h⟩
theorem BVe9 (x:Int) (xs:List (List Dv)):wpFn prog ⟨[], [],wl,y,false⟩ 100 f103 [.d (.sl 1 ([u8 x]::xs))] b R=
 ∀(t:Bool),(t=true→ [u8 x]::xs= [])→BIf t (R (Zae (Dv.s (Value.slice none 0 0))) b) (BIf (decide ((0+Zab ([u8 x]::xs))*1≤140737488355328)) (R (.d (.sl 1 ([u8 x]::xs))) b) False):=by kernel_rfl
theorem CBk9 (p:List Int) (h0:p≠ []) (h1:p.length≤140737488355328):PCall prog 103 [.d (.sl 1 (AAa9 p))] (.d (.sl 1 (AAa9 p))):=by
 cases p with
 |nil=>exact absurd rfl h0
 | cons x p=>
   refine Zaz (n:=100) (u:=false) mixed Zah Zac func103 (by rfl) (by rfl) fun Ev bb=> ?_
   show wpFn prog _ 100 f103 [.d (.sl 1 ([u8 x]::AAa9 p))] bb _
   rw [BVe9]
   refine fun t ht=>Zaj (fun h=>by cases ht h) fun _=>Zbf ?_ rfl
   simp [AAa9] at h1 ⊢;omega
def CEc9 (args:List AV) (K:AV→Prop):Prop:=∃(p:List Int),args= [.d (.sl 1 (AAa9 p))]∧(p≠ []∧p.length≤140737488355328)∧K (.d (.sl 1 (AAa9 p)))
theorem BMp9:∀args K,CEc9 args K→∃x,PCall prog 103 args x∧K x:=by
 rintro _ K ⟨p,rfl,⟨h0,h1⟩,h⟩;exact ⟨_,CBk9 p h0 h1,h⟩
def blkS (p:List Int) (i:Nat):List Int:=(p.drop (16*i)).take 16
def itemB (p:List Int) (i:Nat):List AV:= [.d (i64 i), .agg (ABi9 (blkS p i))]
noncomputable def lp42:Code:=sub [1,2,3] (code f154)
def tm42 (xs:List (List Dv)) (i:Int):List AV:= [.yl, .rptr [.sl 1 xs], .bad, .bad, .d (i64 i)]++Zag 13 .bad
theorem AXe9 (xs:List (List Dv)) (i:Int):wpc prog ⟨[], [],wl,y,false⟩ 100 lp42 (tm42 xs i) [] b (maskT [0,1,4] K)=(
 BIf (decide (i<16)) (BIf (true&&decide (0≤Zaa .i64 (i*16)∧Zaa .i64 (i*16)≤↑xs.length∧(↑xs.length:Int)≤↑xs.length∧(↑xs.length:Int)≤↑xs.length))
   (BIf (decide (16≤((xs.drop (Zaa .i64 (i*16)).toNat).take ((xs.length:Int).toNat - (Zaa .i64 (i*16)).toNat)).length))
     (∃x0 x1 x2 x3 x4 x5 x6 x7 x8 x9 x10 x11 x12 x13 x14 x15:Int,(((xs.drop (Zaa .i64 (i*16)).toNat).take ((xs.length:Int).toNat - (Zaa .i64 (i*16)).toNat)).take 16).flatten=
         [u8 x0,u8 x1,u8 x2,u8 x3,u8 x4,u8 x5,u8 x6,u8 x7,u8 x8,u8 x9,u8 x10,u8 x11,u8 x12,u8 x13,u8 x14,u8 x15]∧
       y b [.d (i64 i), .agg [.d (u8 x0), .d (u8 x1), .d (u8 x2), .d (u8 x3), .d (u8 x4), .d (u8 x5), .d (u8 x6), .d (u8 x7), .d (u8 x8), .d (u8 x9), .d (u8 x10), .d (u8 x11), .d (u8 x12), .d (u8 x13), .d (u8 x14), .d (u8 x15)]]
         fun c b1=>BIf (!c) (K .ret (tm42 xs i) [] b1) (K .normal (tm42 xs (Zaa .i64 (i+1))) [] b1)) False) False)
   (K (.exit 0) (tm42 xs i) [] b)):=by kernel_rfl
theorem CBy9 {p:List Int} (h:p.length=16):p.map u8= [u8 (nth p 0),u8 (nth p 1),u8 (nth p 2),u8 (nth p 3),u8 (nth p 4),u8 (nth p 5),u8 (nth p 6),u8 (nth p 7),u8 (nth p 8),u8 (nth p 9),u8 (nth p 10),u8 (nth p 11),u8 (nth p 12),u8 (nth p 13),u8 (nth p 14),u8 (nth p 15)]:=by
 match p,h with
 | [a0,a1,a2,a3,a4,a5,a6,a7,a8,a9,a10,a11,a12,a13,a14,a15],_=>rfl
theorem APo9 (p:List Int):(AAa9 p).flatten=p.map u8:=by
 induction p with
 |nil=>rfl
 |cons x p ih=>simpa [AAa9] using ih
def wl42 {β:Type} (y:ABr9 β):WLT β:=fun c tm hp b K=>∃(p:List Int),c= .loop lp42∧ABb9 [0,1,4] 0 tm=tm42 (AAa9 p) 0∧hp= []∧p.length=256∧
 YList y ((Zch 0 16).map (itemB p)) b fun b'=>∀i:Int,K (.exit 0) (tm42 (AAa9 p) i) [] b'∧K .ret (tm42 (AAa9 p) i) [] b'
theorem wr42 {Ev:Env prog} {Q:Exit→St Ev.β→Prop} (p:List Int) (hp:p.length=256):∀(n k:Nat) (b:Ev.β),k+n=16→
   (YList Ev.Y ((Zch k n).map (itemB p)) b fun b'=>∀i:Int,Q (.exit 0) ⟨tm42 (AAa9 p) i, [],b'⟩∧Q .ret ⟨tm42 (AAa9 p) i, [],b'⟩)→WR Ev lp42 (n+1) ⟨tm42 (AAa9 p) k, [],b⟩ Q
 | 0,k,b,hk,h=>by
   refine Zbw [0,1,4] mixed (CX.Ok.of (u:=false) Zah Zac) (k:=100) ?_
   rw [AXe9]
   exact Zct (by simp;omega) (h _).1
 | n+1,k,b,hk,h=>by
   refine Zbw [0,1,4] mixed (CX.Ok.of (u:=false) Zah Zac) (k:=100) ?_
   rw [AXe9]
   have e1:Zaa .i64 ((k:Int)*16)=((16*k:Nat):Int):=by rw [AAl9 (by omega) (by omega)];omega
   have e2:Zaa .i64 ((k:Int)+1)=((k+1:Nat):Int):=by rw [AAl9 (by omega) (by omega)];omega
   rw [e1,e2,AAh9,hp]
   simp only [Zas,AJn9,AEo9,AAh9]
   have e3:(p.drop (16*k)).take (Zam (256:Int) - 16*k)=p.drop (16*k):=List.take_of_length_le (by simp;omega)
   have e3':(p.drop (16*k)).take (256 - 16*k)=p.drop (16*k):=List.take_of_length_le (by simp;omega)
   simp only [e3,e3']
   have e4:(blkS p k).length=16:=by simp [blkS];omega
   refine Zbf (by simp;omega) (Zbf (by simp;omega) (Zbf (by simp;omega) ⟨nth (blkS p k) 0,nth (blkS p k) 1,nth (blkS p k) 2,nth (blkS p k) 3,nth (blkS p k) 4,nth (blkS p k) 5,nth (blkS p k) 6,nth (blkS p k) 7,nth (blkS p k) 8,nth (blkS p k) 9,nth (blkS p k) 10,nth (blkS p k) 11,nth (blkS p k) 12,nth (blkS p k) 13,nth (blkS p k) 14,nth (blkS p k) 15, ?_, ?_⟩))
   · rw [APo9];exact CBy9 (p:=blkS p k) e4
   · rw [Zdq,Zcz] at h
     refine Ev.Ymono h fun c b' h=> ?_
     cases c with
     |true=>exact Zct rfl (wr42 p hp n (k+1) b' (by omega) h)
     |false=>exact Zbf rfl (h _).2
theorem BYl9 {Ev:Env prog} (c:Code) (tm:List AV) (hp:List Blk) (b:Ev.β) (K:Exit→List AV→List Blk→Ev.β→Prop) (h:wl42 Ev.Y c tm hp b K):W Ev c ⟨tm,hp,b⟩ (fun e s=>K e s.tm s.hp s.b):=by
 obtain ⟨p,rfl,htm,rfl,hp,hK⟩:=h
 refine W.cast (htm▸AAg9 _ tm 0) (Zbt _) ?_
 exact W.rounds (wr42 (Q:=fun e s=>K e s.tm s.hp s.b) p hp 16 0 b rfl hK)
theorem CJb9 (xs:List (List Dv)):wpc prog ⟨[], [],wl42 y,y,false⟩ 100 (code f154) (ABc9 f154 [.yl, .rptr [.sl 1 xs]]) [] b (fnK prog f154 fun _ b=>Q b)=(
 ∃p:List Int,Zax lp42= .loop lp42∧tm42 xs 0=tm42 (AAa9 p) 0∧([]:List Blk)= []∧p.length=256∧YList y ((Zch 0 16).map (itemB p)) b fun b'=>∀_:Int,Q b'∧Q b'):=by kernel_rfl
theorem CCr9 (xs:List (List Dv)):wpFn prog ⟨[], [],wl,y,false⟩ 100 f101 [.d (.sl 1 xs)] b R=R (.fn (.func 154) [] [.rptr [.sl 1 xs]]) b:=by kernel_rfl
theorem ic42 (p:List Int) (hp:p.length=256):ICall prog 154 [.yl, .rptr [.sl 1 (AAa9 p)]] (fun Y b Q=>YList Y ((Zch 0 16).map (itemB p)) b Q):=by
 refine ICall.ofW (c:=code f154) func154 rfl rfl fun Ev b Q h=> ?_
 have h1:wpc prog ⟨[], [],wl42 Ev.Y,Ev.Y,false⟩ 100 (code f154) (ABc9 f154 [.yl, .rptr [.sl 1 (AAa9 p)]]) [] b (fnK prog f154 fun _ b=>Q b):=by
   rw [CJb9]
   exact ⟨p,rfl,rfl,rfl,hp,YList.mono (fun b h _=>⟨h,h⟩) _ _ h⟩
 refine AAr9 mixed (CX.Ok.ofWl Zah Zac BYl9) h1 fun e tm hp b hK=> ?_
 obtain ⟨g1,ys,g2,z,g3,g4⟩:=ACu9 hK
 exact ⟨g1,ys,g2,g4⟩
theorem BTq9 (xs:List (List Dv)):PCall prog 101 [.d (.sl 1 xs)] (.fn (.func 154) [] [.rptr [.sl 1 xs]]):=by
 refine Zaz (n:=100) (u:=false) mixed Zah Zac func101 (by rfl) (by rfl) fun Ev bb=> ?_
 rw [CCr9]
def BPs9 (args:List AV) (K:AV→Prop):Prop:=∃(xs:List (List Dv)),args= [.d (.sl 1 xs)]∧K (.fn (.func 154) [] [.rptr [.sl 1 xs]])
theorem BHh9:∀args K,BPs9 args K→∃x,PCall prog 101 args x∧K x:=by
 rintro _ K ⟨xs,rfl,h⟩;exact ⟨_,BTq9 xs,h⟩
def AHx9 (p:List Int):Blk:=⟨ABi9 p,false,false,0⟩
section
variable {β:Type} (wl:WLT β) (y:ABr9 β) (b:β) (R:AV→List Blk→β→Prop)
theorem CCs9 (p q:List Int) (b0 b2 b3 b4:Blk):wpc prog ⟨[], [],wl,y,true⟩ 100 (code f100) (ABc9 f100 [.agg (ABi9 q), .ptr 1 0]) [b0,AHx9 p,b2,b3,b4] b (fnKS prog f100 R)=
 R (.tup []) [b0,AHx9 (xorL p q),b2,b3,b4,AHx9 q] b:=by kernel_rfl
end
theorem sc30 (p q:List Int) (b0 b2 b3 b4:Blk):SCall prog 100 [.agg (ABi9 q), .ptr 1 0] [b0,AHx9 p,b2,b3,b4] (.tup []) [b0,AHx9 (xorL p q),b2,b3,b4,AHx9 q]:=by
 refine SCall.ofW (c:=code f100) func100 rfl rfl fun Ev b=> ?_
 have h1:wpc prog ⟨[], [],wlW Ev,Ev.Y,true⟩ 100 (code f100) (ABc9 f100 [.agg (ABi9 q), .ptr 1 0]) [b0,AHx9 p,b2,b3,b4] b (fnKS prog f100 fun x hp _=>x= .tup []∧hp= [b0,AHx9 (xorL p q),b2,b3,b4,AHx9 q]):=by
   rw [CCs9];exact ⟨rfl,rfl⟩
 exact AAr9 mixed (CX.Ok.of Zah Zac) h1 fun e tm hp b hK=>AIm9 hK
def s30 (args:List AV) (hp:List Blk) (K:AV→List Blk→Prop):Prop:=match hp with
 | [b0,b1,b2,b3,b4]=>∃(p q:List Int),args= [.agg (ABi9 q), .ptr 1 0]∧b1=AHx9 p∧K (.tup []) [b0,AHx9 (xorL p q),b2,b3,b4,AHx9 q]
 |_=>False
theorem CFx9:∀args hp K,s30 args hp K→∃x hp',SCall prog 100 args hp x hp'∧K x hp':=by
 intro args hp K h
 unfold s30 at h
 split at h
 · rename_i b0 b1 b2 b3 b4
   obtain ⟨p,q,rfl,rfl,h⟩:=h
   exact ⟨_,_,sc30 p q b0 b2 b3 b4,h⟩
 · exact h.elim
noncomputable def rf12:Code:=sub [1,1,1,1,1,0,1,2] (code f34)
def TEnc:List (Nat×(List AV→(AV→Prop)→Prop)):= [(99,BGz9),(97,cSeed),(33,cSet),(101,BPs9),(102,cTz),(103,CEc9)]
theorem BPz9:AAf9 prog TEnc:=Zaf ATd9 (Zaf AMl9 (Zaf BPa9 (Zaf BHh9 (Zaf CJy9 (Zaf BMp9 Zah)))))
def SEnc:List (Nat×(List AV→List Blk→(AV→List Blk→Prop)→Prop)):= [(100,s30)]
theorem BQb9:AAk9 prog SEnc:=AAk9.cons CFx9 Zac
theorem BCd9:rf12= .rangeFunc (.tmp 32) #[33,34] (AAq9 rf12) (ABu9 rf12):=by kernel_rfl
def tmE (xs:List (List Dv)) (n s:Int):List AV:= [.bad, .d (i64 n), .d (i64 s), .bad, .bad, .bad, .ptr 0 0, .bad, .ptr 1 0, .ptr 2 0, .ptr 3 0]++Zag 21 .bad++ [.fn (.func 154) [] [.rptr [.sl 1 xs]]]++Zag 18 .bad
def resE:Blk:=⟨[.d (i64 0), .d (i64 0), .d (.s (.slice none 0 0)), .d (.s (.slice none 0 0))],false,false,0⟩
def hpE (acc:List Int) (set:Int):List Blk:= [resE,AHx9 acc,⟨[.fn (.func 100) [] [.ptr 1 0]],false,false,0⟩,cellU set]
def andU (a b:Int):Int:=Zaa .u64 ((Zar 64 a&&&Zar 64 b).toNat:Int)
def ASi9 (a:Int):Int:=andU a (Zaa .u64 (a - 1))
def AHm9 (p:List Int) (st:List Int×Int) (i:Nat):List Int×Int:=if (i:Int)==tzS st.2 then (xorL st.1 (blkS p i),ASi9 st.2) else st
theorem BLj9 (xs:List (List Dv)) (n s i set:Int) (x acc:List Int):wpcY prog ⟨TEnc,SEnc,wl,y,false⟩ 100 #[33,34] (AAq9 rf12) (ABu9 rf12) (tmE xs n s) [.d (i64 i), .agg (ABi9 x)] (hpE acc set) b (takeK 4 Kh)=(
 ∃ x0 z1:Int, [Zae (u64 set)]= [.d (u64 x0)]∧((0≤x0∧x0<18446744073709551616)∧z1=tzS x0)∧BIf (i==z1)
   (∃p2 q3:List Int, [AV.agg (ABi9 x), .ptr 1 0]= [.agg (ABi9 q3), .ptr 1 0]∧AHx9 acc=AHx9 p2∧Kh .normal (hpE (xorL p2 q3) (ASi9 set)) b) (Kh .normal (hpE acc set) b)):=by kernel_rfl
theorem AUq9 (a:Int):0≤ASi9 a∧ASi9 a<18446744073709551616:=AFz9 _
theorem BCu9 {Ev:Env prog} {b:Ev.β} {Q:Exit→St Ev.β→Prop} (xs:List (List Dv)) (n s:Int) (p:List Int):∀(l:List Nat) (st:List Int×Int),(0≤st.2∧st.2<18446744073709551616)→
   Q .normal ⟨tmE xs n s,hpE (l.foldl (AHm9 p) st).1 (l.foldl (AHm9 p) st).2,b⟩→
   YList (YBody Ev (tmE xs n s) #[33,34] (AAq9 rf12) (ABu9 rf12) 4) (l.map (itemB p)) (hpE st.1 st.2,b,none) (ADt9 (tmE xs n s) Q)
 | [],st,_,h=>h
 | i::l,st,hs,h=>by
   refine YList.step (X:=⟨TEnc,SEnc,wlW Ev,Ev.Y,false⟩) (k:=100) mixed (CX.Ok.of BPz9 BQb9) rfl ?_
   show wpcY _ _ _ _ _ _ _ [.d (i64 _), .agg (ABi9 _)] (hpE _ _) b (takeK 4 _)
   rw [BLj9]
   rw [Zbv] at h
   refine ⟨st.2,_,rfl,⟨hs,rfl⟩,Zaj (fun hc=>⟨st.1,_,rfl,rfl, ?_⟩) fun hc=> ?_⟩
   · have e:AHm9 p st i=(xorL st.1 (blkS p i),ASi9 st.2):=by unfold AHm9;rw [if_pos hc]
     rw [e] at h
     exact BCu9 xs n s p l (xorL st.1 (blkS p i),ASi9 st.2) (AUq9 _) h
   · have e:AHm9 p st i=st:=by unfold AHm9;rw [if_neg (by simp [hc])]
     rw [e] at h
     exact BCu9 xs n s p l st hs h
def AHn9 (p:List Int) (set:Int):List Int×Int:=(Zch 0 16).foldl (AHm9 p) ([],set)
def wlEnc {β:Type}:WLT β:=fun c tm hp b K=>∃(p:List Int) (n s set:Int),c=rf12∧ABb9 [1,2,6,8,9,10,32] 0 tm=tmE (AAa9 p) n s∧hp=hpE [] set∧(p.length=256∧0≤set∧set<18446744073709551616)∧
 ∃a z,AHn9 p set=(a,z)∧K .normal (tmE (AAa9 p) n s) (hpE a z) b
theorem BQo9 {Ev:Env prog} (c:Code) (tm:List AV) (hp:List Blk) (b:Ev.β) (K:Exit→List AV→List Blk→Ev.β→Prop) (h:wlEnc c tm hp b K):W Ev c ⟨tm,hp,b⟩ (fun e s=>K e s.tm s.hp s.b):=by
 obtain ⟨p,n,s,set,rfl,htm,rfl,⟨hp,h0,h1⟩,a,z,hf,hK⟩:=h
 refine W.cast (htm▸AAg9 [1,2,6,8,9,10,32] tm 0) (Zbt _) ?_
 rw [BCd9]
 refine W.range (s:=⟨tmE (AAa9 p) n s,_,b⟩) (k:=154) (first:= []) (caps:= [.rptr [.sl 1 (AAa9 p)]]) rfl rfl rfl (ic42 p hp) (BCu9 (AAa9 p) n s p _ ([],set) ⟨h0,h1⟩ ?_)
 have:(Zch 0 16).foldl (AHm9 p) ([],set)=(a,z):=hf
 rw [this];exact hK
def nilS:AV:= .d (.s (.slice none 0 0))
def codeA (n s:Int) (d:AV) (e:Int):AV:= .tup [.agg [.d (i64 n), .d (i64 s),d,nilS], .d (i64 e)]
theorem BLi9 (xs:List (List Dv)) (n s:Int):wpFn prog ⟨TEnc,SEnc,wlEnc,y,false⟩ 100 f34 [.d (.sl 1 xs), .d (i64 n), .d (i64 s)] b R=(
 BIf ((xs.length:Int) !=256) (R (codeA 0 0 nilS 1) b) (∃x0:Int, [Zae (i64 n)]= [.d (i64 x0)]∧BIf (!pageS x0) (R (codeA 0 0 nilS 1) b) (∃x1:Int, [Zae (i64 s)]= [.d (i64 x1)]∧BIf (!seedS x1) (R (codeA 0 0 nilS 1) b)
   (∃x2 z3:Int, [Zae (i64 s)]= [.d (i64 x2)]∧z3=setS x2∧∃xs4:List (List Dv), [Zae (.sl 1 xs)]= [.d (.sl 1 xs4)]∧∃(p5:List Int) (n6 s7 set8:Int),rf12=rf12∧tmE xs4 n s=tmE (AAa9 p5) n6 s7∧
     hpE [] (Zaa .u64 z3)=hpE [] set8∧(p5.length=256∧0≤set8∧set8<18446744073709551616)∧∃(a9:List Int) (z10:Int),AHn9 p5 set8=(a9,z10)∧
       ∃p11:List Int, [Zae (.sl 1 (AAa9 (b16 a9)))]= [.d (.sl 1 (AAa9 p11))]∧(p11≠ []∧p11.length≤140737488355328)∧R (codeA n6 s7 (.d (.sl 1 (AAa9 p11))) 0) b)))):=by kernel_rfl
def encOk (p:List Int) (n s:Int):Bool:=decide (p.length=256)&&pageS n&&seedS s
def encS (p:List Int) (s:Int):List Int:=b16 (AHn9 p (setS s)).1
def encA (p:List Int) (n s:Int):AV:=if encOk p n s then codeA n s (.d (.sl 1 (AAa9 (encS p s)))) 0 else codeA 0 0 nilS 1
theorem BTl9 (p:List Int) (n s:Int):PCall prog 34 [.d (.sl 1 (AAa9 p)), .d (i64 n), .d (i64 s)] (encA p n s):=by
 refine Zcd (n:=100) (u:=false) (fun _=>wlEnc) mixed BPz9 BQb9 (fun Ev=>BQo9) func34 (by rfl) (by rfl) fun Ev bb=> ?_
 rw [BLi9,AAh9]
 refine Zaj (fun h=> ?_) fun h=>⟨n,rfl,Zaj (fun h1=> ?_) fun h1=>⟨s,rfl,Zaj (fun h2=> ?_) fun h2=> ?_⟩⟩
 · have:encOk p n s=false:=by simp [encOk];intro h3;simp at h;omega
   simp [encA,this]
 · have:encOk p n s=false:=by simp at h1;simp [encOk,h1]
   simp [encA,this]
 · have:encOk p n s=false:=by simp at h2;simp [encOk,h2]
   simp [encA,this]
 · have h3:p.length=256:=by simp at h;omega
   simp at h1 h2
   have ho:encOk p n s=true:=by simp [encOk,h1,h2,h3]
   have hr:=ACq9 h2
   refine ⟨s,_,rfl,rfl,_,rfl,p,n,s,setS s,rfl,rfl, ?_,⟨h3,by omega,by omega⟩,(AHn9 p (setS s)).1,(AHn9 p (setS s)).2,by generalize AHn9 p (setS s)=z;rfl,b16 (AHn9 p (setS s)).1,by generalize (AHn9 p (setS s)).1=z;rfl,⟨fun h=>by have:=congrArg Zab h;simp [b16] at this,by generalize (AHn9 p (setS s)).1=z;simp [b16]⟩, ?_⟩
   · rw [ADp9 (by omega) (by omega)]
   · rw [encA,if_pos ho,encS]
def TRec:List (Nat×(List AV→(AV→Prop)→Prop)):= [(99,BGz9),(97,cSeed),(33,cSet),(32,c12)]
theorem CEy9:AAf9 prog TRec:=Zaf ATd9 (Zaf AMl9 (Zaf BPa9 (Zaf CKp9 Zah)))
def nil3:AV:= .tup [.d (.s (.slice none 0 0)), .d (bo false), .d (i64 1)]
def recA (n s:Int) (d pr:List (List Dv)):AV:= .agg [.d (i64 n), .d (i64 s), .d (.sl 1 d), .d (.sl 1 pr)]
theorem BCl9 (xs ys pr:List (List Dv)) (n s:Int):wpFn prog ⟨TRec, [],wl,y,false⟩ 100 f49 [.d (.sl 2 xs),recA n s ys pr] b R=(
 ∃ x0:Int, [Zae (i64 n)]= [.d (i64 x0)]∧BIf (!pageS x0) (R nil3 b) (∃x1:Int, [Zae (i64 s)]= [.d (i64 x1)]∧BIf (!seedS x1) (R nil3 b) (BIf ((ys.length:Int) !=16) (R nil3 b)
   (∃x2 z3:Int, [Zae (i64 s)]= [.d (i64 x2)]∧z3=setS x2∧∃(l4:List Row) (m5:Int) (b6:List Int) (x7:List Row×Bool×Int), [Zae (.sl 2 xs), .agg [.d (i64 z3), .d (.sl 1 ys)]]= [.d (.sl 2 (rowsR l4)),rowA m5 b6]∧
     2*l4.length≤1000000∧x7=addS l4 m5 b6∧R (addR x7) b)))):=by kernel_rfl
def recOk (n s:Int) (d:List Int):Bool:=pageS n&&seedS s&&decide (d.length=16)
def recS (l:List Row) (n s:Int) (d:List Int):List Row×Bool×Int:=if recOk n s d then addS l (setS s) d else ([],false,1)
theorem BJp9 (l:List Row) (n s:Int) (d:List Int) (pr:List (List Dv)) (hl:2*l.length≤1000000):PCall prog 49 [.d (.sl 2 (rowsR l)),recA n s (AAa9 d) pr] (addR (recS l n s d)):=by
 refine PCall.ofFnL (n:=100) (u:=false) (fun _=>fun _ _ _ _ _=>False) mixed CEy9 Zac (fun Ev _ _ _ _ _ h=>h.elim) func49 (by rfl) (by rfl) fun Ev bb=> ?_
 rw [BCl9,AAh9]
 refine ⟨n,rfl,Zaj (fun h1=> ?_) fun h1=>⟨s,rfl,Zaj (fun h2=> ?_) fun h2=>Zaj (fun h3=> ?_) fun h3=> ?_⟩⟩
 · rw [recS,if_neg (by simp at h1;simp [recOk,h1])];exact ANa9 _ _
 · rw [recS,if_neg (by simp at h2;simp [recOk,h2])];exact ANa9 _ _
 · rw [recS,if_neg (by simp at h3;simp [recOk];intro _ _ h;omega)];exact ANa9 _ _
 · simp at h1 h2 h3
   rw [recS,if_pos (by simp [recOk,h1,h2];omega)]
   exact ⟨s,_,rfl,rfl,l,_,d,_,rfl,hl,rfl, .rfl⟩
def GB:List (Nat×(List AV→List Blk→(AV→List Blk→Prop)→Prop)):= [((1000000+5),fun _ _ _=>False)]
theorem GB_ok:AAk9 prog GB:=AAk9.cons (fun _ _ _ h=>h.elim) Zac
def TPg:List (Nat×(List AV→(AV→Prop)→Prop)):= [(123,c14)]
theorem CEz9:AAf9 prog TPg:=Zaf CKn9 Zah
noncomputable def lp16:Code:=sub [1,1,1,0,1,2,3] (code f52)
def setF (l:List Bool) (i:Nat) (z:Bool):List Bool:=(Zbn 16).map fun j=>if j=i then z else l.getD j false
def cellB (l:List Bool):Blk:=⟨(Zbn 16).map fun i=> .d (bo (l.getD i false)),false,false,0⟩
def tm16 (xs:List (List Dv)) (v n:Nat) (i:Int):List AV:= [.d (.sl 2 xs), .bad, .bad, .bad, .ptr 0 0, .gref 1 v n 1, .bad, .bad, .bad, .d (i64 i)]++Zag 25 .bad
def growB (cs:List AV) (v:Nat):Blk:=⟨cs,false,true,v⟩
def pageR {β:Type} (K:Exit→List AV→List Blk→β→Prop) (b:β) (xs:List (List Dv)) (cs:List AV) (l:List Bool) (v n i:Nat):Prop:=
 ∃ (l0:List Row) (m1:Int) (x2:List Int×Bool), [Zae (.sl 2 xs), .d (i64 i)]= [.d (.sl 2 (rowsR l0)), .d (i64 m1)]∧l0.length≤9223372036854775807∧x2=AAy9 l0 m1∧
   BIf x2.2 (v=v∧BIf (decide ((n+(AAa9 x2.1).length)*1≤140737488355328)) (K .normal (tm16 xs (v+1) (n+(AAa9 x2.1).length) (i+1:Nat)) [cellB (setF l i x2.2),growB (cs++flatA (AAa9 x2.1)) (v+1)] b) False)
     (K .normal (tm16 xs v n (i+1:Nat)) [cellB (setF l i x2.2),growB cs v] b)
theorem BDl9 (xs:List (List Dv)) (cs:List AV) (l:List Bool) (v n:Nat):∀i:Nat,i<16→
   wpc prog ⟨TPg,GB,wl,y,false⟩ 100 lp16 (tm16 xs v n i) [cellB l,growB cs v] b (maskT [0,4,5,9] K)=pageR K b xs cs l v n i
 |0,_=>by kernel_rfl
 |1,_=>by kernel_rfl
 |2,_=>by kernel_rfl
 |3,_=>by kernel_rfl
 |4,_=>by kernel_rfl
 |5,_=>by kernel_rfl
 |6,_=>by kernel_rfl
 |7,_=>by kernel_rfl
 |8,_=>by kernel_rfl
 |9,_=>by kernel_rfl
 |10,_=>by kernel_rfl
 |11,_=>by kernel_rfl
 |12,_=>by kernel_rfl
 |13,_=>by kernel_rfl
 |14,_=>by kernel_rfl
 |15,_=>by kernel_rfl
 |n+16,h=>absurd h (by omega)
theorem BTu9 (xs:List (List Dv)) (cs:List AV) (l:List Bool) (v n:Nat):wpc prog ⟨TPg,GB,wl,y,false⟩ 100 lp16 (tm16 xs v n 16) [cellB l,growB cs v] b (maskT [0,4,5,9] K)=K (.exit 0) (tm16 xs v n 16) [cellB l,growB cs v] b:=by kernel_rfl
theorem AYt9 (l:List Row) (i:Int):(AAy9 l i).1.length≤16:=by
 unfold AAy9
 split
 · simp
 · split
   · unfold AGh9;split<;>simp [b16]
   · simp
def ADi9 (l:List Row) (st:List Int×List Bool) (i:Nat):List Int×List Bool:=
 if (AAy9 l i).2 then (st.1++(AAy9 l i).1,setF st.2 i (AAy9 l i).2) else (st.1,setF st.2 i (AAy9 l i).2)
theorem BQl9 {Ev:Env prog} {b:Ev.β} {Q:Exit→St Ev.β→Prop} (l:List Row) (hl:l.length≤9223372036854775807):∀(n k:Nat) (st:List Int×List Bool) (v:Nat),k+n=16→st.1.length≤16*k→
   (∀v',Q (.exit 0) ⟨tm16 (rowsR l) v' ((Zch k n).foldl (ADi9 l) st).1.length 16, [cellB ((Zch k n).foldl (ADi9 l) st).2,growB (flatA (AAa9 ((Zch k n).foldl (ADi9 l) st).1)) v'],b⟩)→
   WR Ev lp16 (n+1) ⟨tm16 (rowsR l) v st.1.length k, [cellB st.2,growB (flatA (AAa9 st.1)) v],b⟩ Q
 | 0,k,st,v,hk,hs,h=>by
   refine Zbw [0,4,5,9] mixed (CX.Ok.of (u:=false) CEz9 GB_ok) (k:=100) ?_
   obtain rfl:k=16:=by omega
   show wpc _ _ _ _ (tm16 (rowsR l) v st.1.length 16) _ _ _
   rw [BTu9]
   exact h v
 | n+1,k,st,v,hk,hs,h=>by
   refine Zbw [0,4,5,9] mixed (CX.Ok.of (u:=false) CEz9 GB_ok) (k:=100) ?_
   rw [BDl9 _ _ _ _ _ _ _ _ _ k (by omega)]
   rw [Zdq,Zbv] at h
   have hd:=AYt9 l k
   refine ⟨l,_,AAy9 l k,rfl,hl,rfl,Zaj (fun hf=>⟨rfl,Zbf (by rw [AAh9];simp;omega) ?_⟩) fun hf=> ?_⟩
   · have e:ADi9 l st k=(st.1++(AAy9 l k).1,setF st.2 k (AAy9 l k).2):=by simp [ADi9,hf]
     rw [e] at h
     have:=BQl9 l hl n (k+1) (st.1++(AAy9 l k).1,setF st.2 k (AAy9 l k).2) (v+1) (by omega) (by simp;omega) h
     rw [ATf9,AUn9,Zdh] at this
     rw [AAh9]
     exact this
   · have e:ADi9 l st k=(st.1,setF st.2 k (AAy9 l k).2):=by simp [ADi9,hf]
     rw [e] at h
     exact BQl9 l hl n (k+1) (st.1,setF st.2 k (AAy9 l k).2) v (by omega) (by simp;omega) h
def AHi9 (f:List Bool):List (List Dv):=f.map fun z=> [bo z]
def ixS (w:Bool):List Bool→Nat→Int
 | [],_=> -1
 |z::f,k=>if w==z then k else ixS w f (k+1)
theorem CCe9 (w:Bool):∀(f:List Bool) (k:Nat),decide (ixS w f k≥0)=f.contains w
 | [],k=>by simp [ixS]
 | z::f,k=>by
   unfold ixS
   rw [List.contains_cons]
   cases h:w==z with
   |true=>simp
   |false=>simpa using CCe9 w f (k+1)
noncomputable def lp57:Code:=sub [1,0,1,2,3] (code f176)
def tm57 (xs:List (List Dv)) (w:Bool) (n i:Int):List AV:= [.d (.sl 1 xs), .d (bo w), .bad, .bad, .bad, .bad, .bad, .d (i64 n), .d (i64 i)]++Zag 10 .bad
theorem AXd9 (xs:List (List Dv)) (w:Bool) (n i:Int):wpc prog ⟨[], [],wl,y,false⟩ 100 lp57 (tm57 xs w n i) [] b (maskK 0 [0,1,4,7,8] K)=(
 BIf (decide (i<n)) (BIf (true&&decide (0≤i)) (∃b0:Bool,xs[Zam i]? =some [bo b0]∧BIf (w==b0) (K .ret ((tm57 xs w n i).set 4 (.d (i64 i))) [] b) (K .normal (tm57 xs w n (Zaa .i64 (i+1))) [] b)) False)
   (K (.exit 0) (tm57 xs w n i) [] b)):=by kernel_rfl
def wl57 {β:Type}:WLT β:=fun c tm hp b K=>∃(f:List Bool) (w:Bool),c= .loop lp57∧ABb9 [0,1,7,8] 0 tm=tm57 (AHi9 f) w f.length 0∧hp= []∧f.length≤9223372036854775807∧
 (∀i:Nat,ixS w f 0=i→K .ret ((tm57 (AHi9 f) w f.length i).set 4 (.d (i64 i))) [] b)∧(ixS w f 0= -1→K (.exit 0) (tm57 (AHi9 f) w f.length f.length) [] b)
theorem wr57 {Ev:Env prog} {b:Ev.β} {Q:Exit→St Ev.β→Prop} (f:List Bool) (w:Bool) (hl:f.length≤9223372036854775807):∀(rest:List Bool) (k:Nat),f.drop k=rest→k≤f.length→
   (∀i:Nat,ixS w rest k=i→Q .ret ⟨(tm57 (AHi9 f) w f.length i).set 4 (.d (i64 i)), [],b⟩)→(ixS w rest k= -1→Q (.exit 0) ⟨tm57 (AHi9 f) w f.length f.length, [],b⟩)→WR Ev lp57 (rest.length+1) ⟨tm57 (AHi9 f) w f.length k, [],b⟩ Q
 | [],k,hd,hk,h1,h2=>by
   refine Zcn [0,1,4,7,8] mixed (CX.Ok.of (u:=false) Zah Zac) (k:=100) ?_
   show wpc _ _ _ _ _ _ _ (maskK 0 _ _)
   rw [AXd9]
   have:=ABm9 hd
   obtain rfl:k=f.length:=by omega
   exact Zct (by simp) (h2 rfl)
 | z::rest,k,hd,hk,h1,h2=>by
   refine Zcn [0,1,4,7,8] mixed (CX.Ok.of (u:=false) Zah Zac) (k:=100) ?_
   show wpc _ _ _ _ _ _ _ (maskK 0 _ _)
   rw [AXd9]
   obtain ⟨hk,hr,hd'⟩:=AAw9 hd
   refine Zbf (by simpa using hk) (Zbf (by simp) ⟨z,by simp [AHi9,hr],Zaj (fun hz=> ?_) fun hz=> ?_⟩)
   · exact h1 k (by simp [ixS,hz])
   · rw [AAu9 hk hl]
     have e:ixS w (z::rest) k=ixS w rest (k+1):=by simp [ixS,hz]
     rw [e] at h1 h2
     exact wr57 f w hl rest (k+1) hd' hk h1 h2
theorem BYg9 {Ev:Env prog} (c:Code) (tm:List AV) (hp:List Blk) (b:Ev.β) (K:Exit→List AV→List Blk→Ev.β→Prop) (h:wl57 c tm hp b K):W Ev c ⟨tm,hp,b⟩ (fun e s=>K e s.tm s.hp s.b):=by
 obtain ⟨f,w,rfl,htm,rfl,hl,h1,h2⟩:=h
 refine W.cast (htm▸AAg9 _ tm 0) (Zbt _) ?_
 exact W.rounds (wr57 (Q:=fun e s=>K e s.tm s.hp s.b) f w hl f 0 rfl (Zdb _) h1 h2)
theorem CIy9 (xs:List (List Dv)) (w:Bool):wpFn prog ⟨[], [],wl57,y,false⟩ 100 f176 [.d (.sl 1 xs), .d (bo w)] b R=(
 ∃ (f:List Bool) (w':Bool),Zax lp57= .loop lp57∧tm57 xs w xs.length 0=tm57 (AHi9 f) w' f.length 0∧([]:List Blk)= []∧f.length≤9223372036854775807∧
   (∀i:Nat,ixS w' f 0=i→R (.d (i64 i)) b)∧(ixS w' f 0= -1→R (.d (i64 (-1))) b)):=by kernel_rfl
theorem CBf9 (f:List Bool) (w:Bool) (hl:f.length≤9223372036854775807):PCall prog 176 [.d (.sl 1 (AHi9 f)), .d (bo w)] (.d (i64 (ixS w f 0))):=by
 refine Zcd (n:=100) (u:=false) (fun _=>wl57) mixed Zah Zac (fun Ev=>BYg9) func176 (by rfl) (by rfl) fun Ev bb=> ?_
 rw [CIy9]
 have hbl:(AHi9 f).length=f.length:=by simp [AHi9]
 rw [hbl]
 exact ⟨f,w,rfl,rfl,rfl,hl,fun i h=>by rw [h],fun h=>by rw [h]⟩
def BPo9 (args:List AV) (K:AV→Prop):Prop:=∃(f:List Bool) (w:Bool) (z:Int),args= [.d (.sl 1 (AHi9 f)), .d (bo w)]∧(f.length≤9223372036854775807∧z=ixS w f 0)∧K (.d (i64 z))
theorem BHa9:∀args K,BPo9 args K→∃x,PCall prog 176 args x∧K x:=by
 rintro _ K ⟨f,w,_,rfl,⟨hl,rfl⟩,h⟩;exact ⟨_,CBf9 f w hl,h⟩
def TCon:List (Nat×(List AV→(AV→Prop)→Prop)):= [(176,BPo9)]
theorem CFd9:AAf9 prog TCon:=Zaf BHa9 Zah
theorem AZo9 (xs:List (List Dv)) (w:Bool):wpFn prog ⟨TCon, [],wl,y,false⟩ 100 f124 [.d (.sl 1 xs), .d (bo w)] b R=(
 ∃(f:List Bool) (w':Bool) (z:Int), [Zae (.sl 1 xs), .d (bo w)]= [.d (.sl 1 (AHi9 f)), .d (bo w')]∧(f.length≤9223372036854775807∧z=ixS w' f 0)∧R (.d (bo (decide (z≥0)))) b):=by kernel_rfl
theorem BDh9 (f:List Bool) (w:Bool) (hl:f.length≤9223372036854775807):PCall prog 124 [.d (.sl 1 (AHi9 f)), .d (bo w)] (.d (bo (f.contains w))):=by
 refine Zaz (n:=100) (u:=false) mixed CFd9 Zac func124 (by rfl) (by rfl) fun Ev bb=> ?_
 rw [AZo9]
 exact ⟨f,w,_,rfl,⟨hl,rfl⟩,by rw [CCe9]⟩
def AXz9 (args:List AV) (K:AV→Prop):Prop:=∃(f:List Bool) (w z:Bool),args= [.d (.sl 1 (AHi9 f)), .d (bo w)]∧(f.length≤9223372036854775807∧z=f.contains w)∧K (.d (bo z))
theorem AUt9:∀args K,AXz9 args K→∃x,PCall prog 124 args x∧K x:=by
 rintro _ K ⟨f,w,_,rfl,⟨hl,rfl⟩,h⟩;exact ⟨_,BDh9 f w hl,h⟩
def pageF (l:List Row):List Int×List Bool:=(Zch 0 16).foldl (ADi9 l) ([], [])
def BHx9 {β:Type}:WLT β:=fun c tm hp b K=>∃(l:List Row) (r:List Int×List Bool),c= .loop lp16∧ABb9 [0,4,5,9] 0 tm=tm16 (rowsR l) 0 0 0∧hp= [cellB [],growB [] 0]∧l.length≤9223372036854775807∧r=pageF l∧
 ∀v,K (.exit 0) (tm16 (rowsR l) v r.1.length 16) [cellB r.2,growB (flatA (AAa9 r.1)) v] b
theorem BHw9 {Ev:Env prog} (c:Code) (tm:List AV) (hp:List Blk) (b:Ev.β) (K:Exit→List AV→List Blk→Ev.β→Prop) (h:BHx9 c tm hp b K):W Ev c ⟨tm,hp,b⟩ (fun e s=>K e s.tm s.hp s.b):=by
 obtain ⟨l,r,rfl,htm,rfl,hl,rfl,hK⟩:=h
 refine W.cast (htm▸AAg9 _ tm 0) (Zbt _) ?_
 exact W.rounds (BQl9 (Q:=fun e s=>K e s.tm s.hp s.b) l hl 16 0 ([], []) 0 rfl (Zdb _) hK)
def TPage:List (Nat×(List AV→(AV→Prop)→Prop)):= [(124,AXz9)]
theorem BWy9:AAf9 prog TPage:=Zaf AUt9 Zah
def noneF (l:List Bool):Bool:=(Zch 0 16).foldr (fun i a=>l.getD i false==false&&a) true
def CFy9 (l:List Bool):List (List Dv):=(Zch 0 16).map fun i=> [bo (l.getD i false)]
def ACi9 (l:List Row):List Int×Bool:=if noneF (pageF l).2||((Zch 0 16).map fun i=>(pageF l).2.getD i false).contains false then ([],false) else ((pageF l).1,true)
theorem CBp9 (xs:List (List Dv)):wpFn prog ⟨TPage,GB,BHx9,y,false⟩ 100 f52 [.d (.sl 2 xs)] b R=(
 ∃ (l:List Row) (r:List Int×List Bool),Zax lp16= .loop lp16∧tm16 xs 0 0 0=tm16 (rowsR l) 0 0 0∧ [cellB [],growB [] 0]= [cellB [],growB [] 0]∧l.length≤9223372036854775807∧r=pageF l∧∀v:Nat,
   BIf (noneF r.2) (R (.tup [.d (.s (.slice none 0 0)), .d (bo false)]) b)
     (∃(f:List Bool) (w z:Bool), [Zae (.sl 1 (CFy9 r.2)), .d (bo false)]= [.d (.sl 1 (AHi9 f)), .d (bo w)]∧(f.length≤9223372036854775807∧z=f.contains w)∧
       BIf z (R (.tup [.d (.s (.slice none 0 0)), .d (bo false)]) b) (v=v∧∃xs5:List (List Dv),flatA (AAa9 r.1)=flatA xs5∧xs5.length=r.1.length∧(∀q:List Dv,q∈xs5→q.length=1)∧R (.tup [.d (.sl 1 xs5), .d (bo true)]) b))):=by kernel_rfl
theorem CGo9 (l:List Row) (hl:l.length≤9223372036854775807):PCall prog 52 [.d (.sl 2 (rowsR l))] (BMu9 (ACi9 l)):=by
 refine PCall.ofFnL (n:=100) (u:=false) (fun _=>BHx9) mixed BWy9 GB_ok (fun Ev=>BHw9) func52 (by rfl) (by rfl) fun Ev bb=> ?_
 show wpFn prog ⟨TPage,GB,BHx9,Ev.Y,false⟩ 100 f52 _ bb _
 rw [CBp9]
 refine ⟨l,_,rfl,rfl,rfl,hl,rfl,fun v=>Zaj (fun h=> ?_) fun h=>⟨(Zch 0 16).map fun i=>(pageF l).2.getD i false,false,_,rfl,⟨by simp,rfl⟩,Zaj (fun h1=> ?_) fun h1=>⟨rfl,AAa9 (pageF l).1,rfl,AAh9 _, ?_, ?_⟩⟩⟩
 · rw [ACi9,if_pos (by rw [h];rfl)];exact AJt9 _
 · rw [ACi9,if_pos (by rw [h1];simp)];exact AJt9 _
 · intro q hq
   simp only [AAa9,Zbo] at hq
   obtain ⟨x,_,rfl⟩:=hq;rfl
 · rw [ACi9,if_neg (by rw [h,h1];simp)];exact .rfl
theorem BRn9 (l:List Bool) (i j:Nat) (z:Bool) (hj:j<16):(setF l i z).getD j false=if j=i then z else l.getD j false:=by
 simp [setF,List.getD,hj]
theorem ARf9 (l:List Row):∀(n k:Nat) (st:List Int×List Bool) (j:Nat),j<16→(((Zch k n).foldl (ADi9 l) st).2.getD j false)=if k≤j∧j<k+n then (AAy9 l j).2 else st.2.getD j false
 |0,k,st,j,hj=>by simp;intro h1 h2;omega
 | n+1,k,st,j,hj=>by
   rw [Zdq,Zbv,ARf9 l n (k+1) _ j hj]
   have e:(ADi9 l st k).2=setF st.2 k (AAy9 l k).2:=by unfold ADi9;split<;>rfl
   rw [e,BRn9 _ _ _ _ hj]
   by_cases h1:j=k
   · subst h1
     rw [if_neg (by omega),if_pos rfl,if_pos (by omega)]
   · rw [if_neg h1]
     by_cases h2:k+1≤j∧j<k+1+n
     · rw [if_pos h2,if_pos (by omega)]
     · rw [if_neg h2,if_neg (by omega)]
theorem AWd9 (l:List Row):∀(n k:Nat) (st:List Int×List Bool),(∀i:Nat,k≤i→i<k+n→(AAy9 l i).2=true)→((Zch k n).foldl (ADi9 l) st).1=st.1++(Zch k n).flatMap fun i:Nat=>(AAy9 l i).1
 |0,k,st,_=>by simp
 | n+1,k,st,h=>by
   rw [Zdq,Zbv,AWd9 l n (k+1) _ fun i h1 h2=>h i (by omega) (by omega)]
   have e:(ADi9 l st k).1=st.1++(AAy9 l k).1:=by unfold ADi9;rw [if_pos (h k (by omega) (by omega))]
   rw [e];simp
theorem BKe9 (l:List Bool):noneF l=true↔∀i,i<16→l.getD i false=false:=by
 have key:∀(n k:Nat),(Zch k n).foldr (fun i a=>l.getD i false==false&&a) true=true↔∀i,k≤i→i<k+n→l.getD i false=false:=by
   intro n
   induction n with
   |zero=>intro k;simp;intro i h1 h2;omega
   | succ n ih=>
     intro k
     rw [Zdq,List.foldr_cons,Zan,ih,beq_iff_eq]
     refine ⟨fun h i h1 h2=> ?_,fun h=>⟨h k (by omega) (by omega),fun i h1 h2=>h i (by omega) (by omega)⟩⟩
     by_cases hi:i=k
     · subst hi;exact h.1
     · exact h.2 i (by omega) (by omega)
 have:=key 16 0
 exact this.trans ⟨fun h i hi=>h i (by omega) (by omega),fun h i _ hi=>h i (by omega)⟩
theorem AKl9 (l:List Row):ACi9 l=if (Zch 0 16).all fun i:Nat=>(AAy9 l i).2 then ((Zch 0 16).flatMap fun i:Nat=>(AAy9 l i).1,true) else ([],false):=by
 have hb:∀j,j<16→(pageF l).2.getD j false=(AAy9 l j).2:=fun j hj=>by
   unfold pageF;rw [ARf9 l 16 0 _ j hj,if_pos (by omega)]
 by_cases h:(Zch 0 16).all (fun i:Nat=>(AAy9 l i).2)=true
 · rw [if_pos h]
   have h':∀i:Nat,i<16→(AAy9 l i).2=true:=fun i hi=>Zbm.1 h i (by simp [Zdo];omega)
   have hn:noneF (pageF l).2=false:=by
     cases hx:noneF (pageF l).2 with
     |false=>rfl
     |true=>have:=(BKe9 _).1 hx 0 (by omega);rw [hb 0 (by omega),h' 0 (by omega)] at this;cases this
   have hc:((Zch 0 16).map fun i=>(pageF l).2.getD i false).contains false=false:=by
     rw [List.contains_eq_mem,decide_eq_false_iff_not]
     intro hm
     obtain ⟨i,hi,he⟩:=Zbo.1 hm
     have hi:i<16:=by simp [Zdo] at hi;omega
     rw [hb i hi,h' i hi] at he;cases he
   rw [ACi9,if_neg (by rw [hn,hc];simp)]
   have:=AWd9 l 16 0 ([], []) fun i _ h2=>h' i (by omega)
   rw [show (pageF l).1=_ from this];simp
 · rw [if_neg h]
   have:∃i:Nat,i<16∧(AAy9 l i).2=false:=by
     false_or_by_contra
     rename_i hn
     exact h (Zbm.2 fun i hi=>by
       have hi:i<16:=by simp [Zdo] at hi;omega
       cases hx:(AAy9 l i).2 with
       |true=>rfl
       |false=>exact absurd ⟨i,hi,hx⟩ hn)
   obtain ⟨i,hi,hx⟩:=this
   rw [ACi9,if_pos]
   rw [Bool.or_eq_true];right
   rw [List.contains_eq_mem,decide_eq_true_eq]
   exact Zbo.2 ⟨i,by simp [Zdo];omega,by rw [hb i hi,hx]⟩
def tmR (ps ss:List (List Dv)) (l:AV) (n i:Int):List AV:= [.d (.sl 1 ps), .d (.sl 1 ss), .bad, .bad, .bad, .bad, .bad,l, .d (i64 n), .d (i64 i)]++Zag 43 .bad
section
variable {ι:Type}
def vx (u v:ι→Bool):ι→Bool:=fun i=>(u i ^^ v i)
def redV (x:ι→Bool) (r:ι×(ι→Bool)):ι→Bool:=if x r.1 then vx x r.2 else x
theorem BZx9 (x y:ι→Bool) (r:ι×(ι→Bool)):redV (vx x y) r=vx (redV x r) (redV y r):=by
 funext i
 unfold redV
 have e:vx x y r.1=(x r.1 ^^ y r.1):=rfl
 rw [e]
 cases x r.1<;>cases y r.1<;>simp [vx]<;>cases x i<;>cases y i<;>cases r.2 i<;>rfl
theorem ADv9:∀(l:List (ι×(ι→Bool))) (x y:ι→Bool),l.foldl redV (vx x y)=vx (l.foldl redV x) (l.foldl redV y)
 | [],x,y=>rfl
 |r::l,x,y=>by simp only [Zbv,BZx9,ADv9 l]
end
abbrev Ix:=Nat ⊕ (Nat×Nat)
def vec (x:Row):Ix→Bool
 | .inl k=>x.1.toNat.testBit k
 | .inr (i,j)=>decide (i<16)&&(Zar 8 (nth x.2 i)).getLsbD j
def top (m:Int):Nat:=m.toNat.log2
def rowV (r:Row):Ix×(Ix→Bool):=(.inl (top r.1),vec (r.1,pad r.2))
theorem APg9 {p q:List Int} {i:Nat} (h:i<16):nth (xorL p q) i=xor8 (nth p i) (nth q i):=by
 simp [nth,xorL,List.getElem?_range,h]
theorem AYl9 {n:Nat} (h:n<256):Zaa .u8 (n:Int)=n:=BAu9 (by omega) (by omega)
theorem BAl9 (a b:Int):xor8 a b=(((Zar 8 a ^^^ Zar 8 b).toNat:Nat):Int):=by
 unfold xor8;exact AYl9 (BitVec.isLt _)
theorem ALt9 (a b:Int):Zar 8 (xor8 a b)=Zar 8 a ^^^ Zar 8 b:=by
 rw [BAl9]
 generalize hz:Zar 8 a ^^^ Zar 8 b=z
 apply BitVec.eq_of_toNat_eq
 rw [BitVec.toNat_ofInt]
 have:=z.isLt
 omega
theorem BNo9 (a b:Int):0≤xor8 a b∧xor8 a b<256:=by
 rw [BAl9]
 have:=(Zar 8 a ^^^ Zar 8 b).isLt
 omega
theorem BBc9 {m n:Int} {p q:List Int} (h0:0≤m) (h1:m<65536) (h2:0≤n) (h3:n<65536):vec (xor64 m n,xorL p q)=vx (vec (m,p)) (vec (n,q)):=by
 funext i
 cases i with
 |inl k=>simp only [vec,vx];rw [AOm9 h0 h1 h2 h3];simp
 | inr ij=>
   obtain ⟨i,j⟩:=ij
   simp only [vec,vx]
   by_cases h:i<16
   · rw [APg9 h,ALt9];simp [h]
   · simp [h]
theorem BEa9 (m:Int):(lead m).toNat=2 ^ top m:=Zas _
theorem AWp9 {m:Int} (h0:1≤m) (h1:m<65536):0≤lead m∧lead m<65536:=by
 have h2:=(AEl9 (n:=m.toNat) (by omega)).1
 unfold lead
 generalize 2 ^ m.toNat.log2=z at h2
 omega
theorem CEn9 (n k:Nat):n&&&2 ^ k=if n.testBit k then 2 ^ k else 0:=by
 apply Zej
 intro i
 rw [Nat.testBit_and,Zdn]
 by_cases h:k=i
 · subst h
   cases hn:n.testBit k<;>simp [Zdn]
 · cases hn:n.testBit k<;>simp [Zdn,h]
theorem APw9 {x m:Int} (hx:0≤x∧x<65536) (h0:1≤m) (h1:m<65536):(and64 x (lead m) !=0)=x.toNat.testBit (top m):=by
 have hl:=AWp9 h0 h1
 rw [BHp9 hx.1 hx.2 hl.1 hl.2,BEa9,CEn9]
 cases x.toNat.testBit (top m) with
 | true=>
   have:=Nat.two_pow_pos (top m)
   generalize 2 ^ top m=z at this
   simp [bne];omega
 |false=>simp [bne]
theorem BZb9 {x r:Row} (hx:0≤x.1∧x.1<65536) (hr:ABg9 r):vec (red x r)=redV (vec x) (rowV r):=by
 unfold red redV rowV
 rw [APw9 hx hr.1 hr.2]
 show _=if x.1.toNat.testBit (top r.1) then _ else _
 split
 · rw [BBc9 hx.1 hx.2 (by have:=hr.1;omega) hr.2]
 · rfl
theorem AFd9:∀ {l:List Row} {x:Row},0≤x.1∧x.1<65536→(∀r∈l,ABg9 r)→vec (l.foldl red x)=(l.map rowV).foldl redV (vec x)
 | [],x,_,_=>rfl
 | r::l,x,hx,h=>by
   have hr:=h r (Zay ..)
   simp only [Zbv,Zcz]
   rw [AFd9 (BZw9 hx hr) fun r' h'=>h r' (Zaw _ h'),BZb9 hx hr]
def canon (p:List Int):Prop:=∀i,i<16→0≤nth p i∧nth p i<256
theorem AKq9:canon []:=fun i _=>by simp [nth]
theorem ASq9 (p q:List Int):canon (xorL p q):=fun i h=>by rw [APg9 h];exact BNo9 _ _
theorem BLr9 {x r:Row} (h:canon x.2):canon (red x r).2:=by
 unfold red;split
 · exact ASq9 _ _
 · exact h
theorem AEn9:∀ {l:List Row} {x:Row},canon x.2→canon (l.foldl red x).2
 | [],_,h=>h
 |r::l,x,h=>AEn9 (l:=l) (BLr9 h)
theorem AFw9 {a b:Int} (ha:0≤a∧a<256) (hb:0≤b∧b<256) (h:Zar 8 a=Zar 8 b):a=b:=by
 have:=congrArg BitVec.toNat h
 simp only [BitVec.toNat_ofInt] at this
 omega
theorem BNt9 {x y:Row} (h:vec x=vec y) {i:Nat} (hi:i<16):Zar 8 (nth x.2 i)=Zar 8 (nth y.2 i):=by
 apply BitVec.eq_of_getLsbD_eq
 intro j _
 have:=congrFun h (.inr (i,j))
 simpa [vec,hi] using this
theorem AFa9 (p:List Int):(b16 p).length=16:=by simp [b16]
theorem AEw9 {p:List Int} {i:Nat} (h:i<16):nth (b16 p) i=nth p i:=by
 simp [nth,b16,List.getElem?_range,h]
theorem ARo9 {p q:List Int} (hp:p.length=16) (hq:q.length=16) (h:∀i,i<16→nth p i=nth q i):p=q:=by
 apply List.ext_getElem (by omega)
 intro i h1 h2
 have:=h i (by omega)
 simpa [nth,Zbk h1,Zbk h2] using this
theorem CEm9 {x y:Row} (hx:canon x.2) (hy:canon y.2) (h:vec x=vec y):b16 x.2=b16 y.2:=
 ARo9 (AFa9 _) (AFa9 _) fun i hi=>by rw [AEw9 hi,AEw9 hi];exact AFw9 (hx i hi) (hy i hi) (BNt9 h hi)
theorem AVk9 {x y:Row} (hx:0≤x.1) (hy:0≤y.1) (h:vec x=vec y):x.1=y.1:=by
 have:x.1.toNat=y.1.toNat:=by
   apply Zej
   intro k
   have:=congrFun h (.inl k)
   simpa [vec] using this
 omega
theorem BWn9 (p q:List Int):b16 (xorL p q)=xorL p q:=
 ARo9 (AFa9 _) (by simp [xorL]) fun i hi=>AEw9 hi
theorem BAm9 {a b:Int} (ha:0≤a∧a<65536) (hb:0≤b∧b<65536):xor64 a b=0↔a=b:=by
 rw [AOm9 ha.1 ha.2 hb.1 hb.2]
 constructor
 · intro h
   have:a.toNat ^^^ b.toNat=0:=by omega
   have:a.toNat=b.toNat:=by
     apply Zej
     intro k
     have h2:=congrArg (fun z=>z.testBit k) this
     simpa using h2
   omega
 · rintro rfl;simp
theorem AJa9 {l:List Row} {m:Int} (h0:0≤m) (h1:m<65536) (hv:ADy9 l=true):sumS l m=if (l.foldl red (m, [])).1 !=0 then ([],false) else (b16 (l.foldl red (m, [])).2,true):=by
 unfold sumS
 rw [decide_eq_false (by omega),decide_eq_false (by omega),hv];rfl
theorem AEm9 (m:Int) (p:List Int):fine m p=ACt9 m p:=by
 unfold fine ACt9
 congr 2
 rw [Bool.eq_iff_iff];simp;omega
theorem BEb9 (m:Int):lead m=((2 ^ top m:Nat):Int):=rfl
theorem ARq9 {a b:Int}:lead a<lead b↔top a<top b:=by
 rw [BEb9,BEb9]
 constructor
 · intro h
   rcases Nat.lt_or_ge (top a) (top b) with h'|h'
   · exact h'
   · have:=Nat.pow_le_pow_right (n:=2) (by omega) h';omega
 · intro h
   have:=Nat.pow_lt_pow_right (a:=2) (by omega) h;omega
theorem AId9 {m:Int} (h:1≤m):m.toNat.testBit (top m)=true:=by
 have hn:m.toNat≠0:=by omega
 obtain ⟨h1,h2⟩:=AEl9 hn
 unfold top
 rw [Nat.testBit_eq_decide_div_mod_eq]
 rw [Nat.pow_succ] at h2
 have h3:m.toNat / 2 ^ m.toNat.log2=1:=by
   apply Nat.div_eq_of_lt_le<;>omega
 rw [h3];rfl
theorem BQy9 {m:Int} (h0:1≤m) (h1:m<65536):top m<16:=(Nat.log2_lt (by omega)).2 (by omega)
theorem BBd9:∀(l:List Row) (q:Row) (L:Int),vPrev (some q) l=(vA l (L,lead q.1)).2
 | [],_,_=>rfl
 | r::l,q,L=>by
   simp only [vPrev,vA,AZd9,AEm9]
   cases hc:(ACt9 r.1 r.2&&decide (lead r.1<lead q.1)) with
   |false=>simp
   |true=>simp;exact BBd9 l r _
theorem AVl9 (l:List Row):vPrev none l=(vA l (0,65536)).2:=by
 cases l with
 |nil=>rfl
 | cons r l=>
   simp only [vPrev,vA,AZd9,AEm9]
   cases hf:ACt9 r.1 r.2 with
   |false=>simp
   | true=>
     simp only [ACt9,Zan,decide_eq_true_eq] at hf
     have:=(AWp9 hf.1 hf.2.1).2
     simp [this];exact BBd9 l r _
theorem ATx9:∀ {l:List Row} {s:Int×Int},(vA l s).2=true→(∀r∈l,lead r.1<s.2)∧l.Pairwise fun a b=>lead b.1<lead a.1
 | [],_,_=>⟨fun r h=>(by cases h), .nil⟩
 | r::l,s,h=>by
   simp only [vA] at h
   split at h
   · rename_i hc
     simp only [Zan,decide_eq_true_eq] at hc
     obtain ⟨h1,h2⟩:=ATx9 h
     refine ⟨fun r' hr=> ?_, .cons (fun r' hr=>h1 r' hr) h2⟩
     rcases Zcw.1 hr with rfl|hr
     · exact hc.2
     · have:=h1 r' hr;simp only at this;omega
   · cases h
theorem BOi9 {a b:Int} (h0:0≤a) (h1:a<65536) (h2:0≤b) (h3:b<65536):0≤or64 a b∧or64 a b<65536:=by
 rw [AWe9 h0 h1 h2 h3]
 have:a.toNat|||b.toNat<2 ^ 16:=Nat.or_lt_two_pow (by omega) (by omega)
 omega
theorem vA_L:∀ {l:List Row} {s:Int×Int},(vA l s).2=true→0≤s.1∧s.1<65536→(0≤(vA l s).1.1∧(vA l s).1.1<65536)∧∀k,(vA l s).1.1.toNat.testBit k=(s.1.toNat.testBit k||l.any fun r=>top r.1==k)
 | [],s,_,hs=>⟨hs,fun k=>by simp [vA]⟩
 | r::l,s,h,hs=>by
   simp only [vA] at h ⊢
   split at h
   · rename_i hc
     rw [if_pos hc]
     simp only [Zan,decide_eq_true_eq] at hc
     obtain ⟨m1,m2⟩:=AIo9 hc.1
     have hl:=AWp9 m1 m2
     obtain ⟨h1,h2⟩:=vA_L h (BOi9 hs.1 hs.2 hl.1 hl.2)
     refine ⟨h1,fun k=> ?_⟩
     rw [h2 k]
     simp only [AWe9 hs.1 hs.2 hl.1 hl.2,Zas,Nat.testBit_or,BEa9,Zdn,List.any_cons]
     rw [Bool.or_assoc]
     rfl
   · cases h
theorem AQj9 (i:Nat) (x:Row):∀(l:List Row) (k:Nat),AJz9 i x k l=true↔∀(j:Nat) (r:Row),l[j]? =some r→i=k+j∨and64 r.1 (lead x.1)=0
 | [],k=>by simp [AJz9]
 | r::l,k=>by
   simp only [AJz9,Zan,Bool.or_eq_true,decide_eq_true_eq,beq_iff_eq,AQj9 i x l (k+1)]
   constructor
   · rintro ⟨h1,h2⟩ j r' hj
     cases j with
     |zero=>simp at hj;subst hj;simpa using h1
     | succ j => have:=h2 j r' (by simpa using hj);rcases this with h|h
                 · left;omega
                 · right;exact h
   · intro h
     refine ⟨by simpa using h 0 r rfl,fun j r' hj=> ?_⟩
     rcases h (j+1) r' (by simpa using hj) with h|h
     · left;omega
     · right;exact h
theorem AQi9 (all:List Row):∀(l:List Row) (i:Nat),AJy9 all i l=true↔∀(j:Nat) (x:Row),l[j]? =some x→∀(k:Nat) (r:Row),all[k]? =some r→i+j=k∨and64 r.1 (lead x.1)=0
 | [],i=>by simp [AJy9]
 | x::l,i=>by
   simp only [AJy9,Zan,AQj9,AQi9 all l (i+1)]
   constructor
   · rintro ⟨h1,h2⟩ j y hj k r hk
     cases j with
     |zero=>simp at hj;subst hj;simpa using h1 k r hk
     | succ j => rcases h2 j y (by simpa using hj) k r hk with h|h
                 · left;omega
                 · right;exact h
   · intro h
     refine ⟨fun k r hk=>by simpa using h 0 x rfl k r hk,fun j y hj k r hk=> ?_⟩
     rcases h (j+1) y (by simpa using hj) k r hk with h|h
     · left;omega
     · right;exact h
structure Good (l:List Row):Prop where
 ok:∀r∈l,fine r.1 r.2=true
 falls:l.Pairwise fun a b=>top b.1<top a.1
 clear:l.Pairwise fun a b=>a.1.toNat.testBit (top b.1)=false∧b.1.toNat.testBit (top a.1)=false
theorem ACm9 {α:Type} {R:α→α→Prop} {l:List α} (h:l.Pairwise R) {i k:Nat} {a b:α} (ha:l[i]? =some a) (hb:l[k]? =some b) (hik:i<k):R a b:=by
 obtain ⟨h1,rfl⟩:=Zad.1 ha
 obtain ⟨h2,rfl⟩:=Zad.1 hb
 exact List.pairwise_iff_getElem.1 h i k h1 h2 hik
theorem ANq9 {α:Type} {R:α→α→Prop} {l:List α} (h:∀(i k:Nat) (a b:α),l[i]? =some a→l[k]? =some b→i<k→R a b):l.Pairwise R:=
 List.pairwise_iff_getElem.2 fun i k h1 h2 hik=>h i k _ _ (Zbk h1) (Zbk h2) hik
theorem APv9 {x m:Int} (hx:ABg9 (x, [])) (hm:ABg9 (m, [])):and64 x (lead m)=0↔x.toNat.testBit (top m)=false:=by
 have:=APw9 (x:=x) (m:=m) ⟨by have:=hx.1;simp at this;omega,hx.2⟩ hm.1 hm.2
 cases hb:x.toNat.testBit (top m)<;>rw [hb] at this<;>simpa [bne] using this
theorem AEg9 (l:List Row):AHh9 l=true↔Good l:=by
 unfold AHh9
 rw [Zan,AVl9,AQi9]
 constructor
 · rintro ⟨h1,h2⟩
   have hf:=vA_ok h1
   have hm:∀r∈l,ABg9 r:=fun r hr=>AIo9 (hf r hr)
   obtain ⟨_,h3⟩:=ATx9 h1
   refine ⟨hf,h3.imp fun h=>ARq9.1 h,ANq9 fun i k a b ha hb hik=> ?_⟩
   have ma:=hm a (Zbh ha)
   have mb:=hm b (Zbh hb)
   constructor
   · rcases h2 k b hb i a ha with h|h
     · omega
     · exact (APv9 ma mb).1 h
   · rcases h2 i a ha k b hb with h|h
     · omega
     · exact (APv9 mb ma).1 h
 · rintro ⟨hf,h3,h4⟩
   have hm:∀r∈l,ABg9 r:=fun r hr=>AIo9 (hf r hr)
   refine ⟨?_,fun i x hx k r hk=> ?_⟩
   · have key:∀(l:List Row) (s:Int×Int),(∀r∈l,fine r.1 r.2=true)→(l.Pairwise fun a b=>top b.1<top a.1)→(∀r∈l,lead r.1<s.2)→(vA l s).2=true:=by
       intro l
       induction l with
       |nil=>intro s _ _ _;rfl
       | cons r l ih=>
         intro s hf h3 hs
         simp only [vA]
         rw [if_pos (by rw [hf r (Zay ..),decide_eq_true (hs r (Zay ..))];rfl)]
         have h3':=Zca.1 h3
         exact ih _ (fun r' hr=>hf r' (Zaw _ hr)) h3'.2 fun r' hr=>ARq9.2 (h3'.1 r' hr)
     exact key l _ hf h3 fun r hr=>(AWp9 (hm r hr).1 (hm r hr).2).2
   · have mx:=hm x (Zbh hx)
     have mr:=hm r (Zbh hk)
     rcases Nat.lt_trichotomy i k with h|h|h
     · exact .inr ((APv9 mr mx).2 (ACm9 h4 hx hk h).2)
     · left;omega
     · exact .inr ((APv9 mr mx).2 (ACm9 h4 hk hx h).1)
theorem ABy9 (l:List Row):ADy9 l=true↔Good l:=by
 unfold ADy9
 rw [Zan]
 have hall:∀L:Int,vB L l=true↔∀r∈l,and64 r.1 L=lead r.1:=by
   intro L;unfold vB;rw [Zbm];simp
 have key:(vA l (0,65536)).2=true→(l.Pairwise fun a b=>top b.1<top a.1)→(vB (vA l (0,65536)).1.1 l=true↔l.Pairwise fun a b=>a.1.toNat.testBit (top b.1)=false∧b.1.toNat.testBit (top a.1)=false):=by
   intro h1 h3
   have hm:∀r∈l,ABg9 r:=fun r hr=>AIo9 (vA_ok h1 r hr)
   obtain ⟨hL,hb⟩:=vA_L h1 (by decide)
   rw [hall]
   generalize (vA l (0,65536)).1.1=L at hL hb
   have hand:∀r∈l,(and64 r.1 L=lead r.1↔∀k,(r.1.toNat.testBit k&&l.any fun s=>top s.1==k)=decide (top r.1=k)):=by
     intro r hr
     rw [BHp9 (by have:=(hm r hr).1;omega) (hm r hr).2 hL.1 hL.2,BEb9]
     constructor
     · intro h k
       have h':r.1.toNat&&&L.toNat=2 ^ top r.1:=by omega
       have:=congrArg (fun n=>n.testBit k) h'
       simp only [Nat.testBit_and,hb k,Zdn] at this
       simpa using this
     · intro h
       congr 1
       apply Zej
       intro k
       simp only [Nat.testBit_and,hb k,Zdn]
       simpa using h k
   constructor
   · intro h
     refine ANq9 fun i k a b ha hb' hik=> ?_
     have hab:=ACm9 h3 ha hb' hik
     have ma:=Zbh ha
     have mb:=Zbh hb'
     have e1:=(hand a ma).1 (h a ma) (top b.1)
     have e2:=(hand b mb).1 (h b mb) (top a.1)
     have f1:(l.any fun s=>top s.1==top b.1)=true:=List.any_eq_true.2 ⟨b,mb,by simp⟩
     have f2:(l.any fun s=>top s.1==top a.1)=true:=List.any_eq_true.2 ⟨a,ma,by simp⟩
     rw [f1,Bool.and_true] at e1
     rw [f2,Bool.and_true] at e2
     exact ⟨by rw [e1];simp;omega,by rw [e2];simp;omega⟩
   · intro h r hr
     rw [hand r hr]
     intro k
     by_cases hk:top r.1=k
     · subst hk
       rw [AId9 (hm r hr).1,decide_eq_true rfl,Bool.true_and]
       exact List.any_eq_true.2 ⟨r,hr,by simp⟩
     · rw [decide_eq_false hk]
       cases hx:(l.any fun s=>top s.1==k) with
       |false=>simp
       | true=>
         obtain ⟨s,hs,hsk⟩:=List.any_eq_true.1 hx
         have hsk:top s.1=k:=by simpa using hsk
         obtain ⟨i,hi⟩:=Zao.1 hr
         obtain ⟨j,hj⟩:=Zao.1 hs
         rw [Bool.and_true,←hsk]
         rcases Nat.lt_trichotomy i j with h'|h'|h'
         · exact (ACm9 h hi hj h').1
         · subst h';rw [hi] at hj;cases hj;exact absurd hsk hk
         · exact (ACm9 h hj hi h').2
 constructor
 · rintro ⟨h1,h2⟩
   obtain ⟨_,h3⟩:=ATx9 h1
   have h3':l.Pairwise fun a b=>top b.1<top a.1:=h3.imp fun h=>ARq9.1 h
   exact ⟨vA_ok h1,h3',(key h1 h3').1 h2⟩
 · intro h
   have h1:(vA l (0,65536)).2=true:=by
     have:=(AEg9 l).2 h
     unfold AHh9 at this
     rw [Zan,AVl9] at this
     exact this.1
   exact ⟨h1,(key h1 h.falls).2 h.clear⟩
theorem AKg9 (l:List Row):AHh9 l=ADy9 l:=by
 rw [Bool.eq_iff_iff,AEg9,ABy9]
theorem Good.mask {l:List Row} (h:Good l):∀r∈l,ABg9 r:=fun r hr=>AIo9 (h.ok r hr)
theorem Good.tail {r:Row} {l:List Row} (h:Good (r::l)):Good l:=
 ⟨fun s hs=>h.ok s (Zaw _ hs),(Zca.1 h.falls).2,(Zca.1 h.clear).2⟩
theorem Good.uniq:∀ {l:List Row},Good l→∀ {r s:Row},r∈l→s∈l→top r.1=top s.1→r=s
 | x::l,h,r,s,hr,hs,e=>by
   have hf:=(Zca.1 h.falls).1
   rcases Zcw.1 hr with h1|h1<;>rcases Zcw.1 hs with h2|h2
   · rw [h1,h2]
   · have:=hf s h2;rw [h1] at e;omega
   · have:=hf r h1;rw [h2] at e;omega
   · exact Good.uniq h.tail h1 h2 e
theorem AHd9 {ι:Type}:∀(l:List (ι×(ι→Bool))) (v:ι→Bool),(∀r∈l,v r.1=false)→l.foldl redV v=v
 | [],v,_=>rfl
 | r::l,v,h=>by
   rw [Zbv]
   have:redV v r=v:=by unfold redV;rw [h r (Zay ..)];rfl
   rw [this]
   exact AHd9 l v fun s hs=>h s (Zaw _ hs)
theorem AUl9:∀ {l:List Row},Good l→∀ {r:Row} (v:Ix→Bool),r∈l→v (.inl (top r.1))=true→(∀s∈l,top s.1≠top r.1→v (.inl (top s.1))=false)→
   (l.map rowV).foldl redV v=vx v (rowV r).2
 | x::l,h,r,v,hr,hv,hz=>by
   rw [Zcz,Zbv]
   have hf:=(Zca.1 h.falls).1
   have hc:=(Zca.1 h.clear).1
   rcases Zcw.1 hr with rfl|hr
   · have:redV v (rowV r)=vx v (rowV r).2:=by
       unfold redV
       have:v (rowV r).1=true:=hv
       rw [this];rfl
     rw [this]
     refine AHd9 _ _ fun t ht=> ?_
     obtain ⟨s,hs,rfl⟩:=Zbo.1 ht
     show (v (.inl (top s.1)) ^^ (vec (r.1,pad r.2)) (.inl (top s.1)))=false
     have h1:=hf s hs
     rw [hz s (Zaw _ hs) (by omega)]
     have h2:=(hc s hs).1
     simpa [vec] using h2
   · have h1:=hf r hr
     have:redV v (rowV x)=v:=by
       unfold redV
       have:v (rowV x).1=false:=hz x (Zay ..) (by omega)
       rw [this];rfl
     rw [this]
     exact AUl9 h.tail v hr hv fun s hs=>hz s (Zaw _ hs)
def two (i:Nat):Int:=((2 ^ i:Nat):Int)
theorem AYn9 {i:Nat} (h:i<16):1≤two i∧two i<65536:=by
 have h1:=Nat.two_pow_pos i
 have h2:=Nat.pow_lt_pow_right (a:=2) (by omega) h
 unfold two;omega
theorem AFp9 (i k:Nat):(two i).toNat.testBit k=decide (i=k):=by
 show (2 ^ i).testBit k=_
 rw [Zdn]
theorem AVo9 (i:Nat):top (two i)=i:=by
 show (2 ^ i).log2=i
 exact Nat.log2_two_pow
theorem BHk9 {i:Nat} (h:i<16):bit (i:Int)=two i:=by
 have:=AYn9 h
 unfold bit
 have e:min (Zam (i:Int)) 64=i:=by rw [Zas];omega
 rw [e,Int.one_mul]
 have e2:(2:Int) ^ i=two i:=by simp [two]
 rw [e2,AAl9 (by omega) (by omega)]
theorem AXm9 {p:List Int} (h:∀x∈p,0≤x∧x<256):canon (pad p):=by
 intro i hi
 unfold nth
 rw [List.getD_eq_getElem?_getD]
 cases he:(pad p)[i]? with
 |none=>simp
 | some x=>
   have:=Zbh he
   unfold pad at this
   have:=List.mem_of_mem_take this
   rcases List.mem_append.1 this with h'|h'
   · exact h x h'
   · simp at h';subst h';simp
theorem AIp9 {l:List Row} (h:Good l) {r:Row} (hr:r∈l) {i:Nat} (hi:i<16) (he:r.1=two i):findS l (i:Int)=some r:=by
 unfold findS
 rw [BHk9 hi]
 cases hf:l.find? fun r=>r.1==two i with
 | none=>
   have:=List.find?_eq_none.1 hf r hr
   simp [he] at this
 | some s=>
   have h1:=List.find?_some hf
   have h2:=List.mem_of_find?_eq_some hf
   have h1:s.1=two i:=by simpa using h1
   rw [h.uniq h2 hr (by rw [h1,he])]
theorem AXa9 {l:List Row} {i:Nat} (hi:i<16) (h:∀r∈l,r.1≠two i):findS l (i:Int)=none:=by
 unfold findS
 rw [BHk9 hi]
 exact List.find?_eq_none.2 fun r hr=>by simpa using h r hr
theorem AIe9 {l:List Row} (hg:Good l) (hb:∀r∈l,∀x∈r.2,0≤x∧x<256) {i:Nat} (hi:i<16):AAy9 l (i:Int)=sumS l (two i):=by
 have hv:=(ABy9 l).2 hg
 obtain ⟨t1,t2⟩:=AYn9 hi
 rw [AJa9 (by omega) t2 hv]
 have e0:AAy9 l (i:Int)=if (findS l (i:Int)).isSome then (AGh9 l (i:Int),true) else ([],false):=by
   unfold AAy9
   rw [decide_eq_false (by omega),decide_eq_false (by omega),hv];rfl
 rw [e0]
 have hx:0≤(two i,([]:List Int)).1∧(two i,([]:List Int)).1<65536:=⟨by simp only;omega,t2⟩
 have hF:=AFd9 hx hg.mask
 have hbd:=ACc9 hx hg.mask
 have hcan:canon (l.foldl red (two i, [])).2:=AEn9 AKq9
 by_cases hr:∃r∈l,top r.1=i
 · obtain ⟨r,hr,hti⟩:=hr
   have hm:=hg.mask r hr
   have e1:(l.map rowV).foldl redV (vec (two i, []))=vx (vec (two i, [])) (vec (r.1,pad r.2)):=by
     refine AUl9 hg _ hr ?_ fun s _ hs=> ?_
     · show (two i).toNat.testBit _=true
       rw [AFp9,hti];simp
     · show (two i).toNat.testBit _=false
       rw [AFp9];simp;omega
   rw [e1,←BBc9 (by omega) t2 (by have:=hm.1;omega) hm.2] at hF
   have b4:=ATp9 (a:=two i) (b:=r.1) (by omega) t2 (by have:=hm.1;omega) hm.2
   have h1:=AVk9 hbd.1 b4.1 hF
   have hz:=BAm9 (a:=two i) (b:=r.1) ⟨by omega,t2⟩ ⟨by have:=hm.1;omega,hm.2⟩
   have h1':(l.foldl red (two i, [])).1=xor64 (two i) r.1:=h1
   by_cases he:r.1=two i
   · have h2:(l.foldl red (two i, [])).1=0:=by rw [h1'];exact hz.2 he.symm
     rw [AIp9 hg hr hi he,if_pos (by rfl),if_neg (by simp [h2])]
     have e2:AGh9 l (i:Int)=b16 (pad r.2):=by unfold AGh9;rw [AIp9 hg hr hi he]
     rw [e2]
     congr 1
     refine ARo9 (AFa9 _) (AFa9 _) fun j hj=> ?_
     rw [AEw9 hj,AEw9 hj]
     refine AFw9 (AXm9 (hb r hr) j hj) (hcan j hj) ?_
     have:=BNt9 hF hj
     rw [this]
     show _=Zar 8 (nth (xorL [] (pad r.2)) j)
     rw [APg9 hj,ALt9];simp [nth]
   · have h2:¬(l.foldl red (two i, [])).1=0:=by rw [h1'];exact fun h=>he (hz.1 h).symm
     rw [AXa9 hi fun s hs h=>he (by rw [hg.uniq hr hs (by rw [hti,h,AVo9])];exact h),if_neg (by simp),if_pos (by simpa using h2)]
 · have e1:(l.map rowV).foldl redV (vec (two i, []))=vec (two i, []):=by
     refine AHd9 _ _ fun t ht=> ?_
     obtain ⟨s,hs,rfl⟩:=Zbo.1 ht
     show (two i).toNat.testBit _=false
     rw [AFp9]
     have:top s.1≠i:=fun h=>hr ⟨s,hs,h⟩
     simp;omega
   rw [e1] at hF
   have h1:(l.foldl red (two i, [])).1=two i:=AVk9 hbd.1 (by simp only;omega) hF
   rw [AXa9 hi fun s hs h=>hr ⟨s,hs,by rw [h,AVo9]⟩,if_neg (by simp),if_pos (by rw [h1];simp;omega)]
theorem AKo9:∀ {l:List Row} {n:Nat},(l.Pairwise fun a b=>top b.1<top a.1)→(∀r∈l,top r.1<n)→l.length≤n∧(l.length=n→∀i,i<n→∃r∈l,top r.1=i)
 | [],n,_,_=>⟨by simp,fun h i hi=>by simp at h;omega⟩
 | r::l,n,hp,hn=>by
   obtain ⟨h1,h2⟩:=Zca.1 hp
   obtain ⟨h3,h4⟩:=AKo9 (l:=l) (n:=top r.1) h2 fun s hs=>h1 s hs
   have h5:=hn r (Zay ..)
   refine ⟨by simp;omega,fun h i hi=> ?_⟩
   simp at h
   by_cases hi':i=top r.1
   · exact ⟨r,Zay ..,hi'.symm⟩
   · obtain ⟨s,hs,e⟩:=h4 (by omega) i (by omega)
     exact ⟨s,Zaw _ hs,e⟩
theorem Good.len {l:List Row} (h:Good l):l.length≤16:=(AKo9 h.falls fun r hr=>BQy9 (h.mask r hr).1 (h.mask r hr).2).1
theorem Good.full {l:List Row} (h:Good l) (hl:l.length=16) {i:Nat} (hi:i<16):∃r∈l,r.1=two i:=by
 have hall:=(AKo9 h.falls fun r hr=>BQy9 (h.mask r hr).1 (h.mask r hr).2).2 hl
 obtain ⟨r,hr,e⟩:=hall i hi
 refine ⟨r,hr, ?_⟩
 have hm:=h.mask r hr
 have:r.1.toNat=(two i).toNat:=by
   apply Zej
   intro k
   rw [AFp9]
   by_cases hk:i=k
   · subst hk;rw [←e,AId9 hm.1];simp
   · rw [decide_eq_false hk]
     by_cases h16:k<16
     · obtain ⟨s,hs,e2⟩:=hall k h16
       obtain ⟨a,ha⟩:=Zao.1 hr
       obtain ⟨b,hb⟩:=Zao.1 hs
       rw [←e2]
       rcases Nat.lt_trichotomy a b with h'|h'|h'
       · exact (ACm9 h.clear ha hb h').1
       · subst h';rw [ha] at hb;cases hb;omega
       · exact (ACm9 h.clear hb ha h').2
     · apply Nat.testBit_lt_two_pow
       have:2 ^ 16≤2 ^ k:=Nat.pow_le_pow_right (by omega) (by omega)
       have:=hm.2
       omega
 have:=(AYn9 hi).1
 have:=hm.1
 omega
theorem ALb9 {ι:Type} (u:ι→Bool):vx u u=fun _=>false:=by funext i;simp [vx]
theorem BQv9 {ι:Type} (u v w:ι→Bool):vx (vx u v) w=vx u (vx v w):=by funext i;simp [vx]
theorem AQe9 {ι:Type} (u:ι→Bool):vx u (fun _=>false)=u:=by funext i;simp [vx]
theorem AVf9 {ι:Type} (u:ι→Bool):vx (fun _=>false) u=u:=by funext i;simp [vx]
theorem APn9 {ι:Type} (g:List (ι×(ι→Bool))):∀(l:List (ι×(ι→Bool))) (v:ι→Bool),(∀r∈l,g.foldl redV r.2=fun _=>false)→g.foldl redV (l.foldl redV v)=g.foldl redV v
 | [],v,_=>rfl
 | r::l,v,h=>by
   rw [Zbv,APn9 g l _ fun s hs=>h s (Zaw _ hs)]
   have e:redV v r=if v r.1 then vx v r.2 else v:=rfl
   rw [e]
   split
   · rw [ADv9,h r (Zay ..),AQe9]
   · rfl
theorem ARw9:∀ {l:List Row},Good l→∀(v:Ix→Bool),∀r∈l,((l.map rowV).foldl redV v) (.inl (top r.1))=false
 | x::l,h,v,r,hr=>by
   rw [Zcz,Zbv]
   have hc:=(Zca.1 h.clear).1
   rcases Zcw.1 hr with rfl|hr
   ·
     have h0:(redV v (rowV r)) (.inl (top r.1))=false:=by
       unfold redV
       show (if v (.inl (top r.1))=true then vx v (vec (r.1,pad r.2)) else v) (.inl (top r.1))=false
       cases hv:v (.inl (top r.1)) with
       |false=>simpa using hv
       | true=>
         show (v (.inl (top r.1)) ^^ vec (r.1,pad r.2) (.inl (top r.1)))=false
         have:vec (r.1,pad r.2) (.inl (top r.1))=true:=AId9 (h.mask r (Zay ..)).1
         rw [hv,this];rfl
     have keep:∀(t:List Row),(∀s∈t,s.1.toNat.testBit (top r.1)=false)→∀v:Ix→Bool,v (.inl (top r.1))=false→((t.map rowV).foldl redV v) (.inl (top r.1))=false:=by
       intro t
       induction t with
       |nil=>intro _ v hv;exact hv
       | cons s t ih=>
         intro ht v hv
         rw [Zcz,Zbv]
         refine ih (fun s' hs=>ht s' (Zaw _ hs)) _ ?_
         unfold redV
         split
         · show (v (.inl (top r.1)) ^^ vec (s.1,pad s.2) (.inl (top r.1)))=false
           have:vec (s.1,pad s.2) (.inl (top r.1))=false:=ht s (Zay ..)
           rw [hv,this];rfl
         · exact hv
     exact keep l (fun s hs=>(hc s hs).2) _ h0
   · exact ARw9 h.tail _ r hr
theorem AKn9 {l:List Row} (h:Good l) {r:Row} (hr:r∈l):(l.map rowV).foldl redV (rowV r).2=fun _=>false:=by
 rw [AUl9 h (rowV r).2 hr (AId9 (h.mask r hr).1) fun s hs hne=> ?_,ALb9]
 show r.1.toNat.testBit (top s.1)=false
 obtain ⟨a,ha⟩:=Zao.1 hr
 obtain ⟨b,hb⟩:=Zao.1 hs
 rcases Nat.lt_trichotomy a b with h'|h'|h'
 · exact (ACm9 h.clear ha hb h').1
 · subst h';rw [ha] at hb;cases hb;exact absurd rfl hne
 · exact (ACm9 h.clear hb ha h').2
def upd (x r:Row):Row:=if and64 r.1 (lead x.1) !=0 then (xor64 r.1 x.1,b16 (xorL (pad r.2) x.2)) else (r.1,b16 (pad r.2))
def fin (x:Row):Row:=(x.1,b16 x.2)
def insS (x:Row):List Row→List Row
 | []=> [fin x]
 |r::t=>if lead r.1<lead x.1 then fin x::(r::t).map (upd x) else upd x r::insS x t
theorem AVs9 (x:Row):∀(l acc:List Row),l.foldl (stepB x) (acc,true)=(acc++l.map (upd x),true)
 | [],acc=>by simp
 | r::l,acc=>by
   rw [Zbv]
   have:stepB x (acc,true) r=(acc++ [upd x r],true):=by simp [stepB,upd]
   rw [this,AVs9 x l];simp
theorem BNy9 (x:Row):∀(l acc:List Row),(let s:=l.foldl (stepB x) (acc,false);if !s.2 then s.1++ [fin x] else s.1)=acc++insS x l
 | [],acc=>by simp [insS]
 | r::l,acc=>by
   rw [Zbv]
   by_cases h:lead r.1<lead x.1
   · have:stepB x (acc,false) r=(acc++ [fin x]++ [upd x r],true):=by simp [stepB,upd,fin,h]
     rw [this,AVs9 x l];simp [insS,h]
   · have:stepB x (acc,false) r=(acc++ [upd x r],false):=by simp [stepB,upd,h]
     rw [this]
     have:=BNy9 x l (acc++ [upd x r])
     rw [this];simp [insS,h]
theorem AJu9 {x r:Row}:∀ {l:List Row},r∈insS x l↔r=fin x∨∃s∈l,r=upd x s
 | []=>by simp [insS]
 | s::t=>by
   unfold insS
   split
   · simp [eq_comm]
   · rw [Zcw,AJu9 (l:=t)]
     simp only [Zcw,exists_eq_or_imp]
     constructor
     · rintro (h|h|h)
       · exact .inr (.inl h)
       · exact .inl h
       · exact .inr (.inr h)
     · rintro (h|h|h)
       · exact .inr (.inl h)
       · exact .inl h
       · exact .inr (.inr h)
theorem BEm9 (x:Row):∀l:List Row,(insS x l).length=l.length+1
 | []=>rfl
 |r::t=>by unfold insS;split<;>simp [BEm9 x t]
theorem CFr9 {m:Int} {k:Nat} (h1:m.toNat.testBit k=true) (h2:∀j,k<j→m.toNat.testBit j=false):top m=k:=by
 refine BOn9 (Nat.ge_two_pow_of_testBit h1) (Nat.lt_pow_two_of_testBit _ fun j hj=>h2 j (by omega))
theorem AUk9 {m:Int} (h0:1≤m) {j:Nat} (h:top m<j):m.toNat.testBit j=false:=by
 have h2:=(AEl9 (n:=m.toNat) (by omega)).2
 exact Nat.testBit_lt_two_pow (Nat.lt_of_lt_of_le h2 (Nat.pow_le_pow_right (by omega) h))
theorem ANg9 {x r:Row} (hx:ABg9 x) (hr:ABg9 r) (k:Nat):(upd x r).1.toNat.testBit k=(r.1.toNat.testBit k ^^ (r.1.toNat.testBit (top x.1)&&x.1.toNat.testBit k)):=by
 unfold upd
 rw [APw9 ⟨by have:=hr.1;omega,hr.2⟩ hx.1 hx.2]
 cases hb:r.1.toNat.testBit (top x.1) with
 |false=>simp
 | true=>
   simp only [if_true]
   rw [AOm9 (by have:=hr.1;omega) hr.2 (by have:=hx.1;omega) hx.2,Zas,Nat.testBit_xor];simp
theorem AJo9 {x r:Row} (hx:ABg9 x) (hr:ABg9 r) (hc:x.1.toNat.testBit (top r.1)=false):top (upd x r).1=top r.1:=by
 have hne:top x.1≠top r.1:=fun h=>by rw [←h,AId9 hx.1] at hc;cases hc
 refine CFr9 ?_ fun j hj=> ?_
 · rw [ANg9 hx hr,AId9 hr.1,hc];simp
 · rw [ANg9 hx hr,AUk9 hr.1 hj]
   cases hb:r.1.toNat.testBit (top x.1) with
   |false=>simp
   | true=>
     have:top x.1≤top r.1:=by
       rcases Nat.lt_or_ge (top r.1) (top x.1) with h|h
       · rw [AUk9 hr.1 h] at hb;cases hb
       · exact h
     rw [AUk9 hx.1 (by omega)];simp
theorem CFq9 {x r:Row} (hx:ABg9 x) (hr:ABg9 r) (hc:x.1.toNat.testBit (top r.1)=false):ABg9 (upd x r):=by
 have hb:0≤(upd x r).1∧(upd x r).1<65536:=by
   unfold upd;split
   · exact ATp9 (by have:=hr.1;omega) hr.2 (by have:=hx.1;omega) hx.2
   · exact ⟨by have:=hr.1;simp only;omega,hr.2⟩
 have:(upd x r).1.toNat≠0:=by
   intro h
   have h1:=ANg9 hx hr (top r.1)
   rw [h,AId9 hr.1,hc] at h1
   simp at h1
 exact ⟨by omega,hb.2⟩
theorem BNu9 (x r:Row):(upd x r).2.length=16:=by
 unfold upd;split<;>exact AFa9 _
theorem pad16 {p:List Int} (h:p.length=16):pad p=p:=by
 unfold pad
 rw [List.take_append_of_le_length (by omega),List.take_of_length_le (by omega)]
theorem AQf9 (m:Int) (p:List Int):vec (m,b16 p)=vec (m,p):=by
 funext i
 cases i with
 |inl k=>rfl
 | inr ij=>
   obtain ⟨i,j⟩:=ij
   simp only [vec]
   by_cases h:i<16
   · rw [AEw9 h]
   · simp [h]
theorem BBf9 {x r:Row} (hx:ABg9 x) (hr:ABg9 r):(rowV (upd x r)).2=if r.1.toNat.testBit (top x.1) then vx (rowV r).2 (vec x) else (rowV r).2:=by
 unfold rowV
 rw [pad16 (BNu9 x r)]
 unfold upd
 rw [APw9 ⟨by have:=hr.1;omega,hr.2⟩ hx.1 hx.2]
 split
 · simp only
   rw [AQf9,BBc9 (by have:=hr.1;omega) hr.2 (by have:=hx.1;omega) hx.2]
 · simp only
   rw [AQf9]
theorem BEz9 {r:Row} (h:ABg9 r) (hl:r.2.length=16):fine r.1 r.2=true:=by
 unfold fine
 rw [decide_eq_true h.1,decide_eq_true h.2,hl];rfl
def Apart (a b:Row):Prop:=a.1.toNat.testBit (top b.1)=false∧b.1.toNat.testBit (top a.1)=false
section
variable {x:Row} {l:List Row}
theorem AVm9 {r s:Row} (hx:ABg9 x) (hr:ABg9 r) (hs:ABg9 s) (cr:x.1.toNat.testBit (top r.1)=false) (cs:x.1.toNat.testBit (top s.1)=false) (h:Apart r s):Apart (upd x r) (upd x s):=by
 unfold Apart
 rw [AJo9 hx hr cr,AJo9 hx hs cs,ANg9 hx hr,ANg9 hx hs,h.1,h.2,cr,cs];simp
theorem AXb9 {s:Row} (hx:ABg9 x) (hs:ABg9 s) (cs:x.1.toNat.testBit (top s.1)=false):Apart (fin x) (upd x s):=by
 unfold Apart
 rw [AJo9 hx hs cs,ANg9 hx hs]
 refine ⟨cs, ?_⟩
 show (_ ^^ (_&&x.1.toNat.testBit (top x.1)))=false
 rw [AId9 hx.1]
 show (s.1.toNat.testBit (top x.1) ^^ (s.1.toNat.testBit (top x.1)&&true))=false
 simp
theorem Apart.symm {a b:Row} (h:Apart a b):Apart b a:=⟨h.2,h.1⟩
theorem BZf9 (hx:ABg9 x) (hg:Good l) (hc:∀r∈l,x.1.toNat.testBit (top r.1)=false):(l.map (upd x)).Pairwise fun a b=>top b.1<top a.1∧Apart a b:=by
 rw [List.pairwise_map]
 refine (List.Pairwise.and hg.falls hg.clear).imp_of_mem fun {a b} ha hb h=> ?_
 rw [AJo9 hx (hg.mask a ha) (hc a ha),AJo9 hx (hg.mask b hb) (hc b hb)]
 exact ⟨h.1,AVm9 hx (hg.mask a ha) (hg.mask b hb) (hc a ha) (hc b hb) h.2⟩
theorem BEl9 (hx:ABg9 x):∀ {l:List Row},Good l→(∀r∈l,x.1.toNat.testBit (top r.1)=false)→(insS x l).Pairwise fun a b=>top b.1<top a.1∧Apart a b
 | [],_,_=>by simp [insS]
 | r::t,hg,hc=>by
   have hr:=hg.mask r (Zay ..)
   have cr:=hc r (Zay ..)
   have hf:=(Zca.1 hg.falls).1
   unfold insS
   split
   · rename_i h
     refine Zca.2 ⟨fun b hb=> ?_,BZf9 hx hg hc⟩
     obtain ⟨s,hs,rfl⟩:=Zbo.1 hb
     have hs':=hg.mask s hs
     rw [AJo9 hx hs' (hc s hs)]
     refine ⟨?_,AXb9 hx hs' (hc s hs)⟩
     have h1:=ARq9.1 h
     show top s.1<top x.1
     rcases Zcw.1 hs with rfl|hs
     · exact h1
     · have:=hf s hs;omega
   · rename_i h
     refine Zca.2 ⟨fun b hb=> ?_,BEl9 hx hg.tail fun s hs=>hc s (Zaw _ hs)⟩
     rw [AJo9 hx hr cr]
     rcases AJu9.1 hb with rfl|⟨s,hs,rfl⟩
     · refine ⟨?_,(AXb9 hx hr cr).symm⟩
       show top x.1<top r.1
       have h1:¬top r.1<top x.1:=fun h'=>h (ARq9.2 h')
       have h2:top x.1≠top r.1:=fun h'=>by rw [←h',AId9 hx.1] at cr;cases cr
       omega
     · have hs':=hg.mask s (Zaw _ hs)
       have cs:=hc s (Zaw _ hs)
       rw [AJo9 hx hs' cs]
       exact ⟨hf s hs,AVm9 hx hr hs' cr cs ((Zca.1 hg.clear).1 s hs)⟩
theorem BEo9 (hx:ABg9 x) (hg:Good l) (hc:∀r∈l,x.1.toNat.testBit (top r.1)=false):Good (insS x l):=by
 have hp:=BEl9 hx hg hc
 refine ⟨fun r hr=> ?_,hp.imp fun h=>h.1,hp.imp fun h=>h.2⟩
 rcases AJu9.1 hr with rfl|⟨s,hs,rfl⟩
 · exact BEz9 hx (AFa9 _)
 · exact BEz9 (CFq9 hx (hg.mask s hs) (hc s hs)) (BNu9 x s)
theorem BEn9 (hx:ABg9 x) (hg:Good l) (hc:∀r∈l,x.1.toNat.testBit (top r.1)=false):
   (((insS x l).map rowV).foldl redV (vec x)=fun _=>false)∧∀r∈l,((insS x l).map rowV).foldl redV (rowV r).2=fun _=>false:=by
 have hG:=BEo9 hx hg hc
 have h1:((insS x l).map rowV).foldl redV (vec x)=fun _=>false:=by
   have:=AKn9 hG (r:=fin x) (AJu9.2 (.inl rfl))
   have e:(rowV (fin x)).2=vec x:=by
     show vec (x.1,pad (b16 x.2))=_
     rw [pad16 (AFa9 _),AQf9]
   rwa [e] at this
 refine ⟨h1,fun r hr=> ?_⟩
 have h2:=AKn9 hG (r:=upd x r) (AJu9.2 (.inr ⟨r,hr,rfl⟩))
 rw [BBf9 hx (hg.mask r hr)] at h2
 split at h2
 · rw [ADv9,h1,AQe9] at h2;exact h2
 · exact h2
end
theorem AUz9 {p:List Int} (h:p.length=16):b16 p=p:=ARo9 (AFa9 _) h fun i hi=>AEw9 hi
theorem BOp9 {l:List Row} (hg:Good l):l.map keepR=l:=by
 have:∀r∈l,keepR r=r:=by
   intro r hr
   have:=hg.ok r hr
   rw [AEm9] at this
   simp only [ACt9,Zan,decide_eq_true_eq] at this
   unfold keepR
   rw [pad16 this.2.2,AUz9 this.2.2]
 exact (List.map_congr_left this).trans (List.map_id _)
theorem AIc9 (m:Int) (b:List Int):vec (m,b)=vx (vec (m, [])) (vec (0,b)):=by
 funext i
 cases i with
 |inl k=>simp [vec,vx]
 |inr ij=>obtain ⟨i,j⟩:=ij;simp [vec,vx,nth]
theorem AGr9 {l:List Row} (b:List Int):(l.map rowV).foldl redV (vec (0,b))=vec (0,b):=by
 refine AHd9 _ _ fun t ht=> ?_
 obtain ⟨s,_,rfl⟩:=Zbo.1 ht
 show (0:Int).toNat.testBit _=false
 simp
theorem ATk9 {l:List Row} (hg:Good l) {m:Int} {b:List Int} (hm:1≤m∧m<65536) (hl:b.length=16) (hb:∀x∈b,0≤x∧x<256):
   ((sumS l m).2=true∧(sumS l m).1≠b∧addS l m b=([],false,12))∨
   ((sumS l m)=(b,true)∧addS l m b=(l,false,0))∨
   ((sumS l m).2=false∧∃x:Row,ABg9 x∧addS l m b=(insS x l,true,0)∧Good (insS x l)∧sumS (insS x l) m=(b,true)∧vec x=(l.map rowV).foldl redV (vec (m,b))∧(∀r∈l,x.1.toNat.testBit (top r.1)=false)∧canon x.2):=by
 have hv:=(ABy9 l).2 hg
 have hp:pad b=b:=pad16 hl
 have hcb:canon b:=hp▸AXm9 hb
 have hfine:fine m b=true:=BEz9 (r:=(m,b)) hm hl
 have hx0:0≤(m,b).1∧(m,b).1<65536:=⟨by simp only;omega,hm.2⟩
 have hu0:0≤(m,([]:List Int)).1∧(m,([]:List Int)).1<65536:=⟨by simp only;omega,hm.2⟩
 have ea:addS l m b=(if (l.foldl red (m,b)).1==0&&AHs9 (l.foldl red (m,b)).2 then (l.map keepR,false,0) else if (l.foldl red (m,b)).1==0 then ([],false,12) else (insS (l.foldl red (m,b)) l,true,0)):=by
   unfold addS
   rw [hv,hfine,hp]
   have:=BNy9 (l.foldl red (m,b)) l []
   simp only [List.nil_append] at this
   simp only [Bool.not_true,Bool.or_self,Bool.false_eq_true,if_false]
   rw [←this];rfl
 rw [ea,AJa9 (by omega) hm.2 hv]
 have vX:=AFd9 hx0 hg.mask
 have vU:=AFd9 hu0 hg.mask
 have vXU:vec (l.foldl red (m,b))=vx (vec (l.foldl red (m, []))) (vec (0,b)):=by
   rw [vX,vU,AIc9 m b,ADv9,AGr9]
 have bX:=ACc9 hx0 hg.mask
 have bU:=ACc9 hu0 hg.mask
 have cX:canon (l.foldl red (m,b)).2:=AEn9 hcb
 have cU:canon (l.foldl red (m, [])).2:=AEn9 AKq9
 have hclear:∀r∈l,(l.foldl red (m,b)).1.toNat.testBit (top r.1)=false:=by
   intro r hr
   have:=ARw9 hg (vec (m,b)) r hr
   rw [←vX] at this;exact this
 generalize hX:l.foldl red (m,b)=x at*
 generalize hU:l.foldl red (m, [])=u at*
 have e1:x.1=u.1:=by
   have:x.1.toNat=u.1.toNat:=by
     apply Zej
     intro k
     have:=congrFun vXU (.inl k)
     simpa [vec,vx] using this
   omega
 have e2:∀i,i<16→Zar 8 (nth x.2 i)=Zar 8 (nth u.2 i) ^^^ Zar 8 (nth b i):=by
   intro i hi
   apply BitVec.eq_of_getLsbD_eq
   intro j _
   have:=congrFun vXU (.inr (i,j))
   simpa [vec,vx,hi] using this
 have hz:AHs9 x.2=true↔b16 u.2=b:=by
   unfold AHs9
   rw [Zbm]
   constructor
   · intro h
     refine ARo9 (AFa9 _) hl fun i hi=> ?_
     rw [AEw9 hi]
     have h1:nth x.2 i=0:=by simpa using h i (by simpa using hi)
     have h2:=e2 i hi
     rw [h1] at h2
     have h3:Zar 8 (nth u.2 i)=Zar 8 (nth b i):=by
       have:Zar 8 (nth u.2 i) ^^^ Zar 8 (nth b i)=0#8:=h2.symm
       exact BitVec.xor_eq_zero_iff.1 this
     exact AFw9 (cU i hi) (hcb i hi) h3
   · intro h i hi
     have hi:i<16:=by simpa using hi
     have h1:nth u.2 i=nth b i:=by rw [←AEw9 hi,h]
     have h2:=e2 i hi
     rw [h1,BitVec.xor_self] at h2
     have:=AFw9 (cX i hi) ⟨by omega,by omega⟩ (h2.trans (by rfl:0#8=Zar 8 0))
     simpa using this
 by_cases h0:u.1=0
 · have h0x:x.1=0:=by omega
   by_cases hs:b16 u.2=b
   · right;left
     rw [if_neg (by simp [h0]),hs,if_pos (by simp [h0x,hz.2 hs]),BOp9 hg]
     exact ⟨rfl,rfl⟩
   · left
     have hz':AHs9 x.2=false:=by
       cases h:AHs9 x.2 with
       |false=>rfl
       |true=>exact absurd (hz.1 h) hs
     rw [if_neg (by simp [h0]),if_neg (by simp [hz']),if_pos (by simp [h0x])]
     exact ⟨rfl,hs,rfl⟩
 · right;right
   have h0x:¬x.1=0:=by omega
   have hx:ABg9 x:=⟨by omega,bX.2⟩
   rw [if_pos (by simpa using h0),if_neg (by simp [h0x]),if_neg (by simpa using h0x)]
   have hG:=BEo9 hx hg hclear
   refine ⟨rfl,x,hx,rfl,hG, ?_,vX,hclear,cX⟩
   obtain ⟨k1,k2⟩:=BEn9 hx hg hclear
   have k3:((insS x l).map rowV).foldl redV (vec (m,b))=fun _=>false:=by
     rw [←APn9 _ (l.map rowV) (vec (m,b)) fun r hr=>by
       obtain ⟨s,hs,rfl⟩:=Zbo.1 hr
       exact k2 s hs,←vX]
     exact k1
   rw [AIc9,ADv9,AGr9] at k3
   have k4:((insS x l).map rowV).foldl redV (vec (m, []))=vec (0,b):=by
     funext i
     have:=congrFun k3 i
     simp only [vx] at this
     revert this
     cases (List.foldl redV (vec (m, [])) (List.map rowV (insS x l))) i<;>cases vec (0,b) i<;>simp
   have hv':=(ABy9 _).2 hG
   rw [AJa9 (by omega) hm.2 hv']
   have vW:=AFd9 hu0 hG.mask
   have bW:=ACc9 hu0 hG.mask
   have cW:canon ((insS x l).foldl red (m, [])).2:=AEn9 AKq9
   rw [k4] at vW
   have w1:((insS x l).foldl red (m, [])).1=0:=AVk9 (y:=(0,b)) bW.1 (by simp) vW
   rw [if_neg (by simp [w1])]
   congr 1
   rw [CEm9 (y:=(0,b)) cW hcb vW,AUz9 hl]
end Go.Proofs.YtibhflogmbfpcaaGreatDoor.Am
namespace Go.Proofs.YtibhflogmbfpcaaGreatDoor.Am
open Go Go.RowKit Go.Proofs Go.ChangeShapes Go.WideShapes Go.ChangeAt Tryz
open AV renaming d → Zae
open BIf renaming f → Zct, of → Zaj, t → Zbf
open BitVec renaming ofInt → Zar
open Bool renaming and_eq_true → Zan
open AAf9 renaming cons → Zaf, nil → Zah
open Go.Code renaming loop → Zax
open Dv renaming sl → Zai
open Go.Exit renaming exit → Zcy, normal → Zeb
open Int renaming toNat → Zam, toNat_natCast → Zas
open Go.IntKind renaming i64 → Zap, wrap → Zaa
open LeH renaming refl → Zbt
open List renaming all_eq_true → Zbm, append_nil → Zef, foldl_cons → Zbv, getElem?_eq_getElem → Zbk, getElem?_eq_some_iff → Zad, length → Zab, length_append → Zdh, map_cons → Zcz, mem_cons → Zcw, mem_cons_of_mem → Zaw, mem_cons_self → Zay, mem_iff_getElem? → Zao, mem_map → Zbo, mem_of_getElem? → Zbh, mem_range'_1 → Zdo, pairwise_cons → Zca, range → Zbn, range' → Zch, range'_succ → Zdq, replicate → Zag
open Nat renaming eq_of_testBit_eq → Zej, testBit_two_pow → Zdn, zero_le → Zdb
open PCall renaming ofFn → Zaz, ofFnW → Zcd
open AAk9 renaming nil → Zac
open WR renaming ofMask → Zcn, ofMaskT → Zbw
open AV (bad)
set_option linter.unusedVariables false
set_option maxRecDepth 20000
end Go.Proofs.YtibhflogmbfpcaaGreatDoor.Am
namespace Go.Proofs.YtibhflogmbfpcaaGreatDoor.Am
open Go Go.RowKit Go.Proofs Tryz
open AV renaming d → Zae
open BIf renaming f → Zct, of → Zaj, t → Zbf
open BitVec renaming ofInt → Zar
open Bool renaming and_eq_true → Zan
open AAf9 renaming cons → Zaf, nil → Zah
open Go.Code renaming loop → Zax
open Dv renaming sl → Zai
open Go.Exit renaming exit → Zcy, normal → Zeb
open Int renaming toNat → Zam, toNat_natCast → Zas
open Go.IntKind renaming i64 → Zap, wrap → Zaa
open LeH renaming refl → Zbt
open List renaming all_eq_true → Zbm, append_nil → Zef, foldl_cons → Zbv, getElem?_eq_getElem → Zbk, getElem?_eq_some_iff → Zad, length → Zab, length_append → Zdh, map_cons → Zcz, mem_cons → Zcw, mem_cons_of_mem → Zaw, mem_cons_self → Zay, mem_iff_getElem? → Zao, mem_map → Zbo, mem_of_getElem? → Zbh, mem_range'_1 → Zdo, pairwise_cons → Zca, range → Zbn, range' → Zch, range'_succ → Zdq, replicate → Zag
open Nat renaming eq_of_testBit_eq → Zej, testBit_two_pow → Zdn, zero_le → Zdb
open PCall renaming ofFn → Zaz, ofFnW → Zcd
open AAk9 renaming nil → Zac
open WR renaming ofMask → Zcn, ofMaskT → Zbw
variable {β:Type} (wl:WLT β) (y:ABr9 β) (b:β) (R:AV→β→Prop) (K:Exit→List AV→List Blk→β→Prop) (Kh:Exit→List Blk→β→Prop) (Q:β→Prop)
open AV (bad)
set_option linter.unusedVariables false
set_option maxRecDepth 20000
def bitT (m:Int) (i:Nat):Bool:=Zaa .i64 ((Zar 64 (Int.fdiv m ((2 ^ i:Nat):Int))&&&Zar 64 1).toNat:Nat)==1
def rowN (B:List Int) (i:Nat):List Int:=(Zbn 16).map fun k=>nth B (16*i+k)
def stepM (B:List Int) (m:Int) (o:List Int) (i:Nat):List Int:=if bitT m i then xorL o (rowN B i) else o
def sumB (B:List Int) (m:Int):List Int:=(Zbn 16).foldl (stepM B m) (Zag 16 0)
section
set_option maxRecDepth 100000
end
theorem AKy9 (p q:List Int):(xorL p q).length=16:=by simp [xorL]
theorem ACv9 (B:List Int) (m:Int):(sumB B m).length=16:=by
 unfold sumB
 have:∀(l:List Nat) (o:List Int),o.length=16→(l.foldl (stepM B m) o).length=16:=by
   intro l
   induction l with
   |nil=>intro o h;exact h
   | cons i l ih=>
     intro o h
     rw [Zbv]
     refine ih _ ?_
     unfold stepM
     split
     · exact AKy9 _ _
     · exact h
 exact this _ _ (by simp)
set_option maxRecDepth 20000
section
set_option maxRecDepth 100000
end
def allS (B:List Int):List Int→List Row→List Row×Bool
 | [],l=>(l,true)
 | m::ms,l=>if m==0 then allS B ms l else
   let x:=addS l m (sumB B m)
   if x.2.2 !=0 then ([],false) else allS B ms x.1
theorem ALg9 (x:Row):∀(l:List Row) (s:List Row×Bool),(l.foldl (stepB x) s).1.length≤s.1.length+l.length+1∧(s.2=true∨(l.foldl (stepB x) s).2=false→(l.foldl (stepB x) s).1.length=s.1.length+l.length)
 | [],s=>⟨by simp,fun _=>by simp⟩
 | r::l,(acc,d)=>by
   cases d with
   |true=>rw [AVs9];exact ⟨by simp only [Zdh,List.length_map,List.length_cons];omega,fun _=>by simp only [Zdh,List.length_map]⟩
   | false=>
     rw [Zbv]
     by_cases h:lead r.1<lead x.1
     · have:stepB x (acc,false) r=(acc++ [fin x]++ [upd x r],true):=by simp [stepB,upd,fin,h]
       rw [this,AVs9]
       exact ⟨by simp;omega,fun hh=>by simp at hh⟩
     · have:stepB x (acc,false) r=(acc++ [upd x r],false):=by simp [stepB,upd,h]
       rw [this]
       have ih:=ALg9 x l (acc++ [upd x r],false)
       simp only [Zdh,List.length_cons,List.length_nil] at ih ⊢
       refine ⟨by omega,fun hh=> ?_⟩
       have:=ih.2 (by simpa using hh)
       omega
theorem CEo9 (l:List Row) (m:Int) (b:List Int):(addS l m b).1.length≤l.length+1:=by
 unfold addS
 split
 · simp
 · dsimp only
   split
   · simp
   · split
     · simp
     · have:=ALg9 (l.foldl red (m,pad b)) l ([],false)
       simp only [List.length_nil] at this
       split
       · rename_i h
         have h:=this.2 (by simpa using h)
         simp only [Zdh,List.length_cons,List.length_nil];omega
       · simp only;omega
theorem all_nil (B:List Int):∀(ms:List Int) (l:List Row),(allS B ms l).2=false→(allS B ms l).1= []
 | [],l,h=>by simp [allS] at h
 | m::ms,l,h=>by
   unfold allS at h ⊢
   split
   · rename_i hm;rw [if_pos hm] at h;exact all_nil B ms l h
   · rename_i hm
     rw [if_neg hm] at h
     dsimp only at h ⊢
     split
     · rfl
     · rename_i h2;rw [if_neg h2] at h;exact all_nil B ms _ h
set_option maxRecDepth 20000
def xorF (f:Nat→Bool) (l:List Nat):Bool:=l.foldr (fun k a=>f k ^^ a) false
theorem BAj9 (f g:Nat→Bool):∀l:List Nat,xorF (fun k=>f k ^^ g k) l=(xorF f l ^^ xorF g l)
 | []=>rfl
 | k::l=>by
   have ih:=BAj9 f g l
   simp only [xorF,List.foldr_cons] at ih ⊢
   rw [ih]
   cases f k<;>cases g k<;>cases (List.foldr (fun k a=>f k ^^ a) false l)<;>cases (List.foldr (fun k a=>g k ^^ a) false l)<;>rfl
theorem BAk9 (l:List Nat) {f:Nat→Bool} (h:∀k∈l,f k=false):xorF f l=false:=by
 induction l with
 |nil=>rfl
 | cons k l ih=>
   simp only [xorF,List.foldr_cons] at ih ⊢
   rw [h k (Zay ..),ih fun j hj=>h j (Zaw _ hj)];rfl
def cB (B:List Int) (i j k:Nat):Bool:=(Zar 8 (nth B (16*k+i))).getLsbD j
def EV (B:List Int) (v:Ix→Bool) (i j:Nat):Bool:=xorF (fun k=>v (.inl k)&&cB B i j k) (Zbn 16)
def TV (B:List Int) (v:Ix→Bool):Prop:=∀i,i<16→∀j,v (.inr (i,j))=EV B v i j
theorem TV.vx {B:List Int} {u v:Ix→Bool} (h:TV B u) (k:TV B v):TV B (vx u v):=by
 intro i hi j
 show (u (.inr (i,j)) ^^ v (.inr (i,j)))=_
 rw [h i hi j,k i hi j]
 unfold EV
 rw [←BAj9]
 congr 1
 funext k
 simp only [Am.vx]
 cases u (.inl k)<;>cases v (.inl k)<;>cases cB B i j k<;>rfl
theorem TV.fold {B:List Int}:∀ {l:List (Ix×(Ix→Bool))} {v:Ix→Bool},TV B v→(∀r∈l,TV B r.2)→TV B (l.foldl redV v)
 | [],v,h,_=>h
 | r::l,v,h,hl=>by
   rw [Zbv]
   refine TV.fold ?_ fun s hs=>hl s (Zaw _ hs)
   unfold redV
   split
   · exact h.vx (hl r (Zay ..))
   · exact h
theorem TV.zero {B:List Int} {v:Ix→Bool} (h:TV B v) (h0:∀k,k<16→v (.inl k)=false):∀i,i<16→∀j,v (.inr (i,j))=false:=by
 intro i hi j
 rw [h i hi j]
 exact BAk9 _ fun k hk=>by rw [h0 k (by simpa using hk)];rfl
theorem AHz9 {m:Int} (h0:0≤m) (h1:m<65536) (k:Nat):bitT m k=m.toNat.testBit k:=by
 obtain ⟨n,rfl⟩:=Int.eq_ofNat_of_zero_le h0
 unfold bitT
 have e1:Int.fdiv (n:Int) ((2 ^ k:Nat):Int)=((n / 2 ^ k:Nat):Int):=by
   rw [Int.fdiv_eq_ediv_of_nonneg _ (Int.natCast_nonneg _)];rfl
 have hle:n / 2 ^ k≤n:=Nat.div_le_self _ _
 rw [e1]
 have e2:(Zar 64 ((n / 2 ^ k:Nat):Int)&&&Zar 64 1).toNat=n / 2 ^ k % 2:=by
   rw [BitVec.toNat_and,BitVec.toNat_ofInt,BitVec.toNat_ofInt]
   have:((((n / 2 ^ k:Nat):Int) % ((2 ^ 64:Nat):Int)).toNat)=n / 2 ^ k:=by
     generalize n / 2 ^ k=q at hle
     have:n<65536:=by omega
     omega
   rw [this]
   exact Nat.and_one_is_mod _
 rw [e2]
 have h2:n / 2 ^ k % 2<2:=Nat.mod_lt _ (by omega)
 rw [AAl9 (by omega) (by omega),Zas,Nat.testBit_eq_decide_div_mod_eq,Bool.eq_iff_iff]
 generalize n / 2 ^ k % 2=q
 simp;omega
theorem ALu9 {B:List Int} {i k:Nat} (h:i<16):nth (rowN B k) i=nth B (16*k+i):=by
 simp [rowN,nth,h]
theorem AOv9 {B:List Int} {m:Int} (h0:0≤m) (h1:m<65536) {i j:Nat} (hi:i<16):∀(l:List Nat) (o:List Int),
   (Zar 8 (nth (l.foldl (stepM B m) o) i)).getLsbD j=((Zar 8 (nth o i)).getLsbD j ^^ xorF (fun k=>m.toNat.testBit k&&cB B i j k) l)
 | [],o=>by simp [xorF]
 | k::l,o=>by
   rw [Zbv,AOv9 h0 h1 hi l]
   simp only [xorF,List.foldr_cons]
   unfold stepM
   rw [AHz9 h0 h1]
   cases m.toNat.testBit k with
   |false=>simp
   | true=>
     simp only [if_true,Bool.true_and]
     rw [APg9 hi,ALt9,BitVec.getLsbD_xor,ALu9 hi,Bool.xor_assoc];rfl
theorem BNx9 {B:List Int} {m:Int} (h0:0≤m) (h1:m<65536):TV B (vec (m,sumB B m)):=by
 intro i hi j
 have:=AOv9 (B:=B) h0 h1 (j:=j) hi (Zbn 16) (Zag 16 0)
 simp only [vec,hi,decide_true,Bool.true_and,EV]
 unfold sumB
 rw [this]
 have e:nth (Zag 16 0) i=0:=by unfold nth;rw [List.getD_eq_getElem?_getD,List.getElem?_replicate];split<;>rfl
 rw [e]
 simp
theorem AFq9 (B:List Int) (m:Int):∀x∈sumB B m,0≤x∧x<256:=by
 unfold sumB
 have:∀(l:List Nat) (o:List Int),(∀x∈o,0≤x∧x<256)→∀x∈l.foldl (stepM B m) o,0≤x∧x<256:=by
   intro l
   induction l with
   |nil=>intro o h;exact h
   | cons i l ih=>
     intro o h
     rw [Zbv]
     refine ih _ ?_
     unfold stepM
     split
     · intro x hx
       simp only [xorL,Zbo] at hx
       obtain ⟨k,_,rfl⟩:=hx
       exact BNo9 _ _
     · exact h
 exact this _ _ (by simp)
def TR (B:List Int) (l:List Row):Prop:=∀r∈l,TV B (rowV r).2
theorem TR.all {B:List Int} {l:List Row} (h:TR B l):∀r∈l.map rowV,TV B r.2:=by
 intro r hr
 obtain ⟨s,hs,rfl⟩:=Zbo.1 hr
 exact h s hs
theorem AKh9 {B:List Int} {l:List Row} (hg:Good l) (ht:TR B l) {m:Int} (h0:0≤m) (h1:m<65536) (hs:(sumS l m).2=true):sumS l m=(sumB B m,true):=by
 have hv:=(ABy9 l).2 hg
 rw [AJa9 h0 h1 hv] at hs ⊢
 have vU:=AFd9 (x:=(m, [])) ⟨h0,h1⟩ hg.mask
 have bU:=ACc9 (x:=(m, [])) ⟨h0,h1⟩ hg.mask
 have cU:canon (l.foldl red (m, [])).2:=AEn9 AKq9
 generalize l.foldl red (m, [])=u at*
 have hu:u.1=0:=by
   split at hs
   · cases hs
   · rename_i h;simpa using h
 rw [if_neg (by simp [hu])]
 congr 1
 have hT:=TV.fold (BNx9 (B:=B) h0 h1) ht.all
 rw [AIc9,ADv9,AGr9,←vU] at hT
 have hz:=hT.zero fun k hk=>by simp [vx,vec,hu]
 have hcb:canon (sumB B m):=by
   intro i hi
   refine AFq9 B m _ ?_
   have:nth (sumB B m) i=(sumB B m)[i]'(by rw [ACv9];exact hi):=by simp [nth,List.getD,ACv9,hi]
   rw [this];exact List.getElem_mem _
 refine ARo9 (AFa9 _) (ACv9 _ _) fun i hi=> ?_
 rw [AEw9 hi]
 refine AFw9 (cU i hi) (hcb i hi) ?_
 apply BitVec.eq_of_getLsbD_eq
 intro j _
 have:=hz i hi j
 simp only [vx,vec,hi,decide_true,Bool.true_and] at this
 revert this
 cases (Zar 8 (nth u.2 i)).getLsbD j<;>cases (Zar 8 (nth (sumB B m) i)).getLsbD j<;>simp
theorem TR.ins {B:List Int} {l:List Row} (hg:Good l) (ht:TR B l) {x:Row} (hx:ABg9 x) (hT:TV B (vec x)):TR B (insS x l):=by
 intro r hr
 rcases AJu9.1 hr with rfl|⟨s,hs,rfl⟩
 · have e:(rowV (fin x)).2=vec x:=by
     show vec (x.1,pad (b16 x.2))=_
     rw [pad16 (AFa9 _),AQf9]
   rw [e];exact hT
 · rw [BBf9 hx (hg.mask s hs)]
   split
   · exact (ht s hs).vx hT
   · exact ht s hs
def CR (l:List Row):Prop:=∀r∈l,canon r.2
theorem CR.ins {l:List Row} (h:CR l) {x:Row} (hx:canon x.2):CR (insS x l):=by
 intro r hr
 rcases AJu9.1 hr with rfl|⟨s,hs,rfl⟩
 · intro i hi
   show 0≤nth (b16 x.2) i∧nth (b16 x.2) i<256
   rw [AEw9 hi];exact hx i hi
 · unfold upd
   split
   · intro i hi
     simp only
     rw [AEw9 hi];exact ASq9 _ _ i hi
   · intro i hi
     simp only
     rw [AEw9 hi]
     have:nth (pad s.2) i=nth s.2 i:=by
       unfold pad nth
       rw [List.getD_eq_getElem?_getD,List.getElem?_take,if_pos hi,List.getD_eq_getElem?_getD,List.getElem?_append]
       split
       · rfl
       · rename_i hh
         rw [List.getElem?_replicate]
         have:s.2[i]? =none:=List.getElem?_eq_none (by omega)
         rw [this];split<;>rfl
     rw [this];exact h s hs i hi
theorem Good.len16 {l:List Row} (h:Good l):∀r∈l,r.2.length=16:=by
 intro r hr
 have:=h.ok r hr
 rw [AEm9] at this
 simp only [ACt9,Zan,decide_eq_true_eq] at this
 exact this.2.2
theorem BLs9 {p:List Int} (hl:p.length=16) (h:canon p):∀x∈p,0≤x∧x<256:=by
 intro x hx
 obtain ⟨i,hi,rfl⟩:=List.mem_iff_getElem.1 hx
 have:=h i (by omega)
 simpa [nth,List.getD,hi] using this
theorem AYq9 (B:List Int) (m:Int):canon (sumB B m):=by
 intro i hi
 refine AFq9 B m _ ?_
 have:nth (sumB B m) i=(sumB B m)[i]'(by rw [ACv9];exact hi):=by simp [nth,List.getD,ACv9,hi]
 rw [this];exact List.getElem_mem _
structure Tru (B:List Int) (l:List Row):Prop where
 good:Good l
 tr:TR B l
 cr:CR l
theorem Tru.bytes {B:List Int} {l:List Row} (h:Tru B l):∀r∈l,∀x∈r.2,0≤x∧x<256:=fun r hr=>BLs9 (h.good.len16 r hr) (h.cr r hr)
theorem Tru.nil (B:List Int):Tru B []:=⟨⟨fun r h=>(by cases h), .nil, .nil⟩,fun r h=>(by cases h),fun r h=>(by cases h)⟩
theorem AOq9 {B:List Int} {l:List Row} (h:Tru B l) {m:Int} (h0:1≤m) (h1:m<65536):
   (addS l m (sumB B m)).2.2=0∧Tru B (addS l m (sumB B m)).1:=by
 rcases ATk9 h.good ⟨h0,h1⟩ (ACv9 B m) (AFq9 B m) with ⟨h2,h3,_⟩|⟨_,h3⟩|⟨_,x,hx,h3,hG,_,hv,_,hc⟩
 · exact absurd (congrArg Prod.fst (AKh9 h.good h.tr (by omega) h1 h2)) h3
 · rw [h3];exact ⟨rfl,h⟩
 · rw [h3]
   refine ⟨rfl,hG,TR.ins h.good h.tr hx ?_,h.cr.ins hc⟩
   rw [hv]
   exact TV.fold (BNx9 (by omega) h1) h.tr.all
theorem AKi9 {B:List Int}:∀ {ms:List Int} {l:List Row},Tru B l→(∀x∈ms,0≤x∧x<65536)→(allS B ms l).2=true∧Tru B (allS B ms l).1
 | [],l,ht,_=>⟨rfl,ht⟩
 | m::ms,l,ht,hb=>by
   have hb':=fun x hx=>hb x (Zaw _ hx)
   have hm:=hb m (Zay ..)
   unfold allS
   split
   · exact AKi9 ht hb'
   · rename_i h
     have h:m≠0:=by simpa using h
     obtain ⟨h1,h2⟩:=AOq9 ht (m:=m) (by omega) hm.2
     dsimp only
     rw [h1]
     exact AKi9 h2 hb'
abbrev Vc:=Ix→Bool
def z0:Vc:=fun _=>false
def InV (l:List Row) (v:Vc):Prop:=(l.map rowV).foldl redV v=z0
theorem AWt9 (l:List (Ix×Vc)):l.foldl redV z0=z0:=AHd9 _ _ fun _ _=>rfl
def Sp:List Vc→Vc→Prop
 | [],v=>v=z0
 |e::es,v=>Sp es v∨Sp es (vx v e)
theorem BQu9 (u v:Vc):vx (vx u v) v=u:=by rw [BQv9,ALb9,AQe9]
theorem Sp.zero:∀es:List Vc,Sp es z0
 | []=>rfl
 |_::es=> .inl (Sp.zero es)
theorem Sp.mem:∀ {es:List Vc} {e:Vc},e∈es→Sp es e
 | f::es,e,h=>by
   rcases Zcw.1 h with rfl|h
   · right;rw [ALb9];exact Sp.zero es
   · exact .inl (Sp.mem h)
theorem AWu9 {P:Vc→Prop} (hP:∀u v,P u→P v→P (vx u v)):∀(g:List (Ix×Vc)) (v:Vc),(∀r∈g,P r.2)→P (g.foldl redV v)→P v
 | [],v,_,h=>h
 | r::g,v,hr,h=>by
   rw [Zbv] at h
   have h1:=AWu9 hP g _ (fun s hs=>hr s (Zaw _ hs)) h
   have e:redV v r=if v r.1 then vx v r.2 else v:=rfl
   rw [e] at h1
   split at h1
   · have:=hP _ _ h1 (hr r (Zay ..))
     rwa [BQu9] at this
   · exact h1
theorem CHw9 {l:List Row} (hg:Good l) {e:Vc} {x:Row} (hx:ABg9 x) (hv:vec x=(l.map rowV).foldl redV e) (hc:∀r∈l,x.1.toNat.testBit (top r.1)=false) (v:Vc):
   InV (insS x l) v↔InV l v∨InV l (vx v e):=by
 obtain ⟨k1,k2⟩:=BEn9 hx hg hc
 have hk:∀v,((insS x l).map rowV).foldl redV ((l.map rowV).foldl redV v)=((insS x l).map rowV).foldl redV v:=fun v=>APn9 _ (l.map rowV) v fun r hr=>by
   obtain ⟨s,hs,rfl⟩:=Zbo.1 hr
   exact k2 s hs
 have hx0:(l.map rowV).foldl redV (vec x)=vec x:=AHd9 _ _ fun r hr=>by
   obtain ⟨s,hs,rfl⟩:=Zbo.1 hr
   exact hc s hs
 constructor
 · intro h
   have key:(l.map rowV).foldl redV v=z0∨(l.map rowV).foldl redV v=vec x:=by
     refine AWu9 (P:=fun v=>(l.map rowV).foldl redV v=z0∨(l.map rowV).foldl redV v=vec x) (fun u v hu hv=> ?_) ((insS x l).map rowV) v (fun r hr=> ?_) ?_
     · rw [ADv9]
       rcases hu with hu|hu<;>rcases hv with hv|hv<;>rw [hu,hv]
       · exact .inl (ALb9 _)
       · exact .inr (AVf9 _)
       · exact .inr (AQe9 _)
       · exact .inl (ALb9 _)
     · obtain ⟨s,hs,rfl⟩:=Zbo.1 hr
       rcases AJu9.1 hs with rfl|⟨s',hs',rfl⟩
       · have e:(rowV (fin x)).2=vec x:=by
           show vec (x.1,pad (b16 x.2))=_
           rw [pad16 (AFa9 _),AQf9]
         rw [e,hx0];exact .inr rfl
       · rw [BBf9 hx (hg.mask s' hs')]
         split
         · rw [ADv9,hx0,AKn9 hg hs'];exact .inr (AVf9 _)
         · rw [AKn9 hg hs'];exact .inl rfl
     · have h:((insS x l).map rowV).foldl redV v=z0:=h
       simp only [h]
       exact .inl (AWt9 _)
   rcases key with h1|h1
   · exact .inl h1
   · right;unfold InV;rw [ADv9,h1,←hv,ALb9];rfl
 · rintro (h|h)
   · unfold InV at h ⊢;rw [←hk v,h];exact AWt9 _
   · unfold InV at h ⊢
     rw [ADv9,←hv] at h
     have:(l.map rowV).foldl redV v=vec x:=by
       have:=congrArg (fun w=>vx w (vec x)) h
       simp only [BQu9] at this
       rw [this];exact AVf9 _
     rw [←hk v,this];exact k1
theorem BZl9 {l:List Row} (hg:Good l) {m:Int} {b:List Int} (h0:0≤m) (h1:m<65536) (hs:sumS l m=(b,true)):InV l (vec (m,b)):=by
 have hv:=(ABy9 l).2 hg
 rw [AJa9 h0 h1 hv] at hs
 have vU:=AFd9 (x:=(m, [])) ⟨h0,h1⟩ hg.mask
 unfold InV
 rw [AIc9,ADv9,AGr9,←vU]
 generalize l.foldl red (m, [])=u at*
 split at hs
 · cases hs
 · rename_i hu
   have hu:u.1=0:=by simpa using hu
   have hb:b16 u.2=b:=congrArg Prod.fst hs
   have:vec u=vec (0,b):=by
     funext i
     cases i with
     |inl k=>simp [vec,hu]
     | inr ij=>
       obtain ⟨i,j⟩:=ij
       simp only [vec]
       by_cases h:i<16
       · rw [←hb,AEw9 h]
       · simp [h]
   rw [this];exact ALb9 _
theorem CHx9 {B:List Int} {l:List Row} (h:Tru B l) {m:Int} (h0:1≤m) (h1:m<65536) (v:Vc):
   InV (addS l m (sumB B m)).1 v↔InV l v∨InV l (vx v (vec (m,sumB B m))):=by
 rcases ATk9 h.good ⟨h0,h1⟩ (ACv9 B m) (AFq9 B m) with ⟨h2,h3,_⟩|⟨h2,h3⟩|⟨_,x,hx,h3,hG,_,hv,hc,_⟩
 · exact absurd (congrArg Prod.fst (AKh9 h.good h.tr (by omega) h1 h2)) h3
 · rw [h3]
   have hi:=BZl9 h.good (by omega) h1 h2
   refine ⟨.inl,fun hh=> ?_⟩
   rcases hh with hh|hh
   · exact hh
   · unfold InV at hh hi ⊢
     rw [ADv9,hi] at hh
     rw [←hh];exact (AQe9 _).symm
 · rw [h3]
   exact CHw9 h.good hx hv hc v
def eqsB (B:List Int) (ms:List Int):List Vc:=(ms.filter fun m=>m !=0).map fun m=>vec (m,sumB B m)
theorem BKp9 {B:List Int}:∀ {ms:List Int} {l:List Row} {es:List Vc},Tru B l→(∀x∈ms,0≤x∧x<65536)→(∀v,InV l v↔Sp es v)→∀v,InV (allS B ms l).1 v↔Sp ((eqsB B ms).reverse++es) v
 | [],l,es,_,_,h,v=>by simpa [allS,eqsB] using h v
 | m::ms,l,es,ht,hb,h,v=>by
   have hb':=fun x hx=>hb x (Zaw _ hx)
   have hm:=hb m (Zay ..)
   unfold allS
   by_cases h0:m=0
   · subst h0
     simp only [beq_self_eq_true,if_true]
     have e:eqsB B (0::ms)=eqsB B ms:=by simp [eqsB]
     rw [e];exact BKp9 ht hb' h v
   · have e:eqsB B (m::ms)=vec (m,sumB B m)::eqsB B ms:=by simp [eqsB,h0]
     obtain ⟨h1,h2⟩:=AOq9 ht (m:=m) (by omega) hm.2
     have e2:(m==0)=false:=by simpa using h0
     dsimp only
     rw [e2,h1,e,List.reverse_cons,List.append_assoc]
     exact BKp9 h2 hb' (fun v=>by rw [CHx9 ht (by omega) hm.2 v,h v,h (vx v _)];rfl) v
theorem BNz9 (l:List Row) (n s:Int) (d:List Int):(recS l n s d).1.length≤l.length+1:=by
 unfold recS;split
 · exact CEo9 _ _ _
 · simp
theorem tz_at {v i:Nat} (hv:v<65536) (hi:i<16) (hlow:∀j,j<i→v.testBit j=false):((i:Int)==tzS (v:Int))=v.testBit i∧(v.testBit i=true→∃m,v=2 ^ (i+1)*m+2 ^ i):=by
 unfold tzS
 rw [Zas]
 by_cases h0:v=0
 · subst h0
   rw [show Lib.ctz 64 0=64 from rfl]
   refine ⟨?_,fun h=>by simp at h⟩
   simp;omega
 · have e:Lib.ctz 64 v=Lib.ctzFrom 64 v:=by unfold Lib.ctz;rw [if_neg h0]
   obtain ⟨m,h1,h2⟩:=Lib.ctzFrom_spec 64 v (by omega) (by omega)
   rw [e]
   generalize Lib.ctzFrom 64 v=c at h1 h2
   have h3:v=2 ^ (c+1)*m+2 ^ c:=by rw [h1,Nat.pow_succ,Nat.mul_add,Nat.mul_one,Nat.mul_assoc]
   have hp:2 ^ c<2 ^ (c+1):=Nat.pow_lt_pow_right (by omega) (by omega)
   have hb:∀j,v.testBit j=if j<c+1 then (2 ^ c).testBit j else m.testBit (j - (c+1)):=fun j=>by rw [h3,Nat.testBit_two_pow_mul_add m hp j]
   have hc:v.testBit c=true:=by rw [hb,if_pos (by omega)];simp
   have hl:∀j,j<c→v.testBit j=false:=fun j hj=>by rw [hb,if_pos (by omega),Zdn];simp;omega
   have hci:(c=i)=(v.testBit i=true):=by
     refine propext ⟨fun h=>h▸hc,fun h=> ?_⟩
     rcases Nat.lt_trichotomy c i with h4|h4|h4
     · rw [hlow c h4] at hc;cases hc
     · exact h4
     · rw [hl i h4] at h;cases h
   refine ⟨?_,fun h=> ?_⟩
   · rw [Bool.eq_iff_iff,beq_iff_eq,←hci];omega
   · have:=hci.mpr h;subst this;exact ⟨m,h3⟩
theorem ANs9 {v:Nat}:Zar 64 (v:Int)=BitVec.ofNat 64 v:=BitVec.ofInt_natCast ..
theorem BLn9 {v:Nat} (h0:1≤v) (h1:v<65536):ASi9 (v:Int)=((v&&&(v - 1):Nat):Int):=by
 unfold ASi9 andU
 have e:Zaa .u64 ((v:Int) - 1)=((v - 1:Nat):Int):=by rw [ADp9 (by omega) (by omega)];omega
 rw [e,ANs9,ANs9,←BitVec.ofNat_and,BitVec.toNat_ofNat]
 have:v&&&(v - 1)<65536:=Nat.lt_of_le_of_lt Nat.and_le_left h1
 rw [Nat.mod_eq_of_lt (by omega),ADp9 (by omega) (by omega)]
theorem BFp9 {v i m:Nat} (h:v=2 ^ (i+1)*m+2 ^ i) (j:Nat):(v&&&(v - 1)).testBit j=(decide (i<j)&&v.testBit j):=by
 have hp:2 ^ i<2 ^ (i+1):=Nat.pow_lt_pow_right (by omega) (by omega)
 have hp0:0<2 ^ i:=Nat.two_pow_pos i
 have e:v - 1=2 ^ (i+1)*m+(2 ^ i - 1):=by omega
 rw [Nat.testBit_and,e,Nat.testBit_two_pow_mul_add m (by omega) j,h,Nat.testBit_two_pow_mul_add m hp j]
 by_cases hj:j<i+1
 · rw [if_pos hj,if_pos hj,Zdn,Nat.testBit_two_pow_sub_one]
   rw [show decide (i<j)=false by simp;omega,Bool.false_and]
   by_cases h2:i=j
   · subst h2;simp
   · simp [h2]
 · rw [if_neg hj,if_neg hj,show decide (i<j)=true by simp;omega];simp
theorem APy9 {p p' q q':List Int} (h1:∀i,i<16→nth p i=nth p' i) (h2:∀i,i<16→nth q i=nth q' i):xorL p q=xorL p' q':=
 List.map_congr_left fun i hi=>by rw [h1 i (List.mem_range.1 hi),h2 i (List.mem_range.1 hi)]
theorem BDq9 (p:List Int) {i k:Nat} (h:k<16):nth (blkS p i) k=nth p (16*i+k):=by
 simp [nth,blkS,List.getD,h,List.getElem?_drop]
theorem AUo9 (p:List Int) (S:Nat) (hS:S<65536):∀(n k:Nat) (acc acc':List Int) (v:Nat),k+n=16→(∀i,i<16→nth acc i=nth acc' i)→(∀j,v.testBit j=(decide (k≤j)&&S.testBit j))→
   ∀i,i<16→nth ((Zch k n).foldl (AHm9 p) (acc,(v:Int))).1 i=nth ((Zch k n).foldl (stepM p (S:Int)) acc') i
 |0,k,acc,acc',v,hk,ha,hv=>ha
 | n+1,k,acc,acc',v,hk,ha,hv=>by
   have hv16:v<65536:=by
     have:v<2 ^ 16:=by
       refine Nat.lt_pow_two_of_testBit v fun j hj=> ?_
       rw [hv]
       have:S.testBit j=false:=Nat.testBit_lt_two_pow (Nat.lt_of_lt_of_le hS (by rw [show (65536:Nat)=2 ^ 16 from rfl];exact Nat.pow_le_pow_right (by omega) hj))
       rw [this,Bool.and_false]
     exact this
   obtain ⟨h1,h2⟩:=tz_at hv16 (show k<16 by omega) fun j hj=>by rw [hv,show decide (k≤j)=false by simp;omega,Bool.false_and]
   have hk':v.testBit k=S.testBit k:=by rw [hv];simp
   rw [Zdq,Zbv,Zbv]
   have hb:bitT (S:Int) k=S.testBit k:=by rw [AHz9 (by omega) (by omega)];rfl
   unfold AHm9 stepM
   rw [h1,hk',hb]
   cases hs:S.testBit k with
   | true=>
     obtain ⟨m,hm⟩:=h2 (hk'.trans hs)
     have hv1:1≤v:=by have:=Nat.two_pow_pos k;omega
     simp only [if_true]
     rw [BLn9 hv1 hv16]
     refine AUo9 p S hS n (k+1) _ _ _ (by omega) (fun i hi=> ?_) fun j=> ?_
     · rw [APy9 ha fun i hi=>(BDq9 p hi).trans (ALu9 hi).symm]
     · rw [BFp9 hm,hv]
       by_cases h3:k<j
       · simp [h3,Nat.le_of_lt h3,Nat.succ_le_of_lt h3]
       · simp [h3,show ¬k+1≤j by omega]
   | false=>
     simp only [Bool.false_eq_true,if_false]
     refine AUo9 p S hS n (k+1) _ _ _ (by omega) ha fun j=> ?_
     rw [hv]
     by_cases h3:k=j
     · subst h3;simp [hs]
     · by_cases h4:k≤j
       · simp [h4,show k+1≤j by omega]
       · simp [h4,show ¬k+1≤j by omega]
theorem ASg9 {p:List Int} {s:Int} (hs:seedS s=true):encS p s=sumB p (setS s):=by
 obtain ⟨h0,h1⟩:=ACq9 hs
 obtain ⟨S,hS⟩:∃S:Nat,setS s=S:=⟨(setS s).toNat,by omega⟩
 rw [hS] at h0 h1
 unfold encS sumB AHn9
 rw [hS,List.range_eq_range']
 refine ARo9 (AFa9 _) ?_ fun i hi=> ?_
 · have:=ACv9 p (S:Int);unfold sumB at this;rwa [List.range_eq_range'] at this
 · rw [AEw9 hi]
   refine AUo9 p S (by omega) 16 0 [] (Zag 16 0) S rfl (fun i hi=> ?_) (fun j=>by simp) i hi
   show 0=_
   unfold nth;rw [List.getD_eq_getElem?_getD,List.getElem?_replicate];split<;>rfl
theorem AKv9 {B:List Int} {l:List Row} (h:Tru B l) {m:Int} (h0:1≤m) (h1:m<65536):
   (addS l m (sumB B m)).2.2=0∧Tru B (addS l m (sumB B m)).1∧((addS l m (sumB B m)).2.1=false→(addS l m (sumB B m)).1=l)∧(addS l m (sumB B m)).1.length=l.length+(if (addS l m (sumB B m)).2.1 then 1 else 0):=by
 obtain ⟨g1,g2⟩:=AOq9 h h0 h1
 refine ⟨g1,g2, ?_⟩
 rcases ATk9 h.good ⟨h0,h1⟩ (ACv9 B m) (AFq9 B m) with ⟨h2,h3,h4⟩|⟨_,h3⟩|⟨_,x,hx,h3,hG,_,hv,_,hc⟩
 · rw [h4] at g1;cases g1
 · rw [h3];exact ⟨fun _=>rfl,rfl⟩
 · rw [h3];exact ⟨fun h=>(by cases h),BEm9 x l⟩
def masks (ss:List Int):List Int:=ss.map setS
theorem BUe9 {ss:List Int} (hs:∀s∈ss,seedS s=true):∀x∈masks ss,0≤x∧x<65536:=by
 intro x hx
 obtain ⟨s,h,rfl⟩:=Zbo.1 hx
 have:=ACq9 (hs s h);omega
theorem BUq9 {l:List Row} (hg:Good l) (hb:∀r∈l,∀x∈r.2,0≤x∧x<256) (hl:l.length=16) {i:Nat} (hi:i<16):(sumS l (two i)).2=true:=by
 rw [←AIe9 hg hb hi]
 obtain ⟨r,hr,he⟩:=hg.full hl hi
 have hv:=(ABy9 l).2 hg
 unfold AAy9
 rw [decide_eq_false (by omega),decide_eq_false (by omega),hv,AIp9 hg hr hi he];rfl
theorem BZk9 {p:List Int} (hb:∀x∈p,0≤x∧x<256) {i:Nat} (hi:i<16):sumB p (two i)=rowN p i:=by
 obtain ⟨h0,h1⟩:=AYn9 hi
 have hc:∀j,j<16→0≤nth (rowN p i) j∧nth (rowN p i) j<256:=fun j hj=>by
   rw [ALu9 hj]
   unfold nth
   rw [List.getD_eq_getElem?_getD]
   cases h:p[16*i+j]? with
   |none=>simp
   |some x=>exact hb x (Zbh h)
 refine ARo9 (ACv9 _ _) (by simp [rowN]) fun j hj=> ?_
 refine AFw9 (AYq9 p (two i) j hj) (hc j hj) ?_
 refine BitVec.eq_of_getLsbD_eq fun k hk=> ?_
 have:=AOv9 (B:=p) (m:=two i) (by omega) h1 (j:=k) hj (Zbn 16) (Zag 16 0)
 unfold sumB
 rw [this,ALu9 hj]
 have e:nth (Zag 16 0) j=0:=by unfold nth;rw [List.getD_eq_getElem?_getD,List.getElem?_replicate];split<;>rfl
 rw [e]
 have key:∀(n:Nat),xorF (fun t=>(two i).toNat.testBit t&&cB p j k t) (Zbn n)=(decide (i<n)&&cB p j k i):=by
   have app:∀(f:Nat→Bool) (l l':List Nat),xorF f (l++l')=(xorF f l ^^ xorF f l'):=by
     intro f l l'
     induction l with
     |nil=>simp [xorF]
     |cons a l ih=>simp only [xorF,List.cons_append,List.foldr_cons] at ih ⊢;rw [ih,Bool.xor_assoc]
   intro n
   induction n with
   |zero=>simp [xorF]
   | succ n ih=>
     rw [List.range_succ,app,ih]
     simp only [xorF,List.foldr_cons,List.foldr_nil,AFp9,Bool.xor_false]
     by_cases h1:i=n
     · subst h1;simp
     · by_cases h2:i<n
       · simp [h1,h2,Nat.lt_succ_of_lt h2]
       · simp [h1,h2,show ¬i<n+1 by omega]
 rw [key,decide_eq_true hi]
 simp [cB]
section
variable {p:List Int} {l:List Row}
theorem BIm9 (ht:Tru p l) {i:Nat} (hi:i<16) (hb:∀x∈p,0≤x∧x<256) (h:(AAy9 l (i:Int)).2=true):AAy9 l (i:Int)=(rowN p i,true):=by
 obtain ⟨h0,h1⟩:=AYn9 hi
 rw [AIe9 ht.good ht.bytes hi] at h ⊢
 rw [AKh9 ht.good ht.tr (by omega) h1 h,BZk9 hb hi]
theorem BIy9 (hp:p.length=256):(Zch 0 16).flatMap (rowN p)=p:=by
 have key:∀n,n≤16→(Zch 0 n).flatMap (rowN p)=p.take (16*n):=by
   intro n
   induction n with
   |zero=>intro _;simp
   | succ n ih=>
     intro hn
     rw [List.range'_concat,List.flatMap_append,ih (by omega)]
     simp only [Nat.zero_add,Nat.one_mul,List.flatMap_cons,List.flatMap_nil,Zef]
     refine List.ext_getElem (by simp [rowN];omega) fun i h1 h2=> ?_
     by_cases h3:i<16*n
     · rw [List.getElem_append_left (by simp;omega)];simp
     · rw [List.getElem_append_right (by simp;omega)]
       have h4:i<p.length:=by simp at h2;omega
       have e:16*n+(i - min (16*n) p.length)=i:=by simp [rowN] at h1;omega
       simp [rowN,nth,List.getD,e,h4]
 rw [key 16 (by omega),List.take_of_length_le (by omega)]
theorem AIr9:∀(n:Nat) {l:List Row},(l.Pairwise fun a b=>top b.1<top a.1)→(∀i,i<n→∃r∈l,top r.1=i)→n≤l.length
 |0,l,_,_=>Zdb _
 |n+1, [],_,h=>by obtain ⟨r,hr,_⟩:=h 0 (by omega);cases hr
 | n+1,a::l,hp,h=>by
   obtain ⟨h1,h2⟩:=Zca.1 hp
   have:=AIr9 n h2 fun i hi=>by
     obtain ⟨r,hr,hri⟩:=h i (by omega)
     rcases Zcw.1 hr with rfl|hr
     · obtain ⟨s,hs,hsn⟩:=h n (by omega)
       rcases Zcw.1 hs with rfl|hs
       · omega
       · have:=h1 s hs;omega
     · exact ⟨r,hr,hri⟩
   simp only [List.length_cons];omega
theorem ALi9 (i:Nat) (hi:i<16) (h:(AAy9 l (i:Int)).2=true):∃r∈l,top r.1=i:=by
 unfold AAy9 at h
 split at h
 · cases h
 · split at h
   · rename_i h2
     unfold findS at h2
     cases hf:l.find? fun r=>r.1==bit (i:Int) with
     |none=>rw [hf] at h2;cases h2
     | some s=>
       have h3:=List.find?_some hf
       refine ⟨s,List.mem_of_find?_eq_some hf, ?_⟩
       have h3:s.1=two i:=by rw [BHk9 hi] at h3;simpa using h3
       rw [h3,AVo9]
   · cases h
theorem AWc9 (ht:Tru p l):(ACi9 l).2=decide (l.length=16):=by
 rw [AKl9]
 by_cases h:l.length=16
 · rw [if_pos,decide_eq_true h]
   exact Zbm.2 fun i hi=>by
     have hi:i<16:=by simp [Zdo] at hi;omega
     rw [AIe9 ht.good ht.bytes hi]
     exact BUq9 ht.good ht.bytes h hi
 · rw [if_neg,decide_eq_false h]
   intro hh
   have h1:=AIr9 16 ht.good.falls fun i hi=>ALi9 i hi (Zbm.1 hh i (by simp [Zdo];omega))
   have h2:=ht.good.len
   omega
theorem BDk9 (ht:Tru p l) (hp:p.length=256) (hb:∀x∈p,0≤x∧x<256) (h:(ACi9 l).2=true):(ACi9 l).1=p:=by
 rw [AKl9] at h ⊢
 split
 · rename_i h2
   have e:(Zch 0 16).flatMap (fun i:Nat=>(AAy9 l i).1)=(Zch 0 16).flatMap (rowN p):=by
     rw [List.flatMap_def,List.flatMap_def]
     congr 1
     refine List.map_congr_left fun i hi=> ?_
     have:=BIm9 ht (i:=i) (by simp [Zdo] at hi;omega) hb (Zbm.1 h2 i hi)
     rw [this]
   simp only [e,BIy9 hp]
 · rename_i h2;rw [if_neg h2] at h;cases h
theorem CHv9 (hg:Good l) {m:Int} {b:List Int} (h0:0≤m) (h1:m<65536) (h:InV l (vec (m,b))):(sumS l m).2=true:=by
 have hv:=(ABy9 l).2 hg
 rw [AJa9 h0 h1 hv]
 have vU:=AFd9 (x:=(m, [])) ⟨h0,h1⟩ hg.mask
 have bU:=ACc9 (l:=l) (x:=(m, [])) ⟨h0,h1⟩ hg.mask
 unfold InV at h
 rw [AIc9,ADv9,AGr9,←vU] at h
 have:(l.foldl red (m, [])).1=0:=by
   refine AVk9 (x:=(_,(l.foldl red (m, [])).2)) (y:=(0,b)) bU.1 (Int.le_refl 0) ?_
   have h2:=congrArg (fun v=>vx v (vec (0,b))) h
   simp only [BQu9] at h2
   rw [show z0=fun _=>false from rfl,AVf9] at h2
   exact h2
 simp [this]
end
theorem CKq9 {p ms:List Int} (hm:∀x∈ms,0≤x∧x<65536) {m:Int} (h:m∈ms) (h0:m≠0):InV (allS p ms []).1 (vec (m,sumB p m)):=by
 rw [BKp9 (Tru.nil p) hm (es:= []) (fun v=>Iff.rfl)]
 refine Sp.mem ?_
 simp only [Zef,List.mem_reverse,eqsB,Zbo,List.mem_filter]
 exact ⟨m,⟨h,by simpa using h0⟩,rfl⟩
theorem BWr9 {p ms:List Int} (hb:∀x∈p,0≤x∧x<256) (hm:∀x∈ms,0≤x∧x<65536) (h:∀i,i<16→two i∈ms):(allS p ms []).1.length=16:=by
 obtain ⟨_,ht⟩:=AKi9 (Tru.nil p) hm
 have h1:=AIr9 16 ht.good.falls fun i hi=>ALi9 i hi (by
   obtain ⟨h0,h1⟩:=AYn9 hi
   rw [AIe9 ht.good ht.bytes hi]
   exact CHv9 ht.good (by omega) h1 (CKq9 hm (h i hi) (by omega)))
 have h2:=ht.good.len
 omega
theorem Sp.bits:∀ {es:List Vc} {v:Vc} {i:Ix},Sp es v→v i=true→∃e∈es,e i=true
 | [],v,i,h,hv=>by rw [show v=z0 from h] at hv;cases hv
 | e::es,v,i,h,hv=>by
   rcases h with h|h
   · obtain ⟨f,hf,hi⟩:=Sp.bits h hv;exact ⟨f,Zaw _ hf,hi⟩
   · cases he:e i with
     |true=>exact ⟨e,Zay ..,he⟩
     | false=>
       obtain ⟨f,hf,hi⟩:=Sp.bits (i:=i) h (by simp [vx,hv,he])
       exact ⟨f,Zaw _ hf,hi⟩
def AKa9 (ss:List Int):Int:=ss.foldl (fun a s=>or64 a (setS s)) 0
theorem AQk9:∀(ss:List Int) (a:Int),(∀s∈ss,seedS s=true)→0≤a→a<65536→(0≤ss.foldl (fun a s=>or64 a (setS s)) a∧ss.foldl (fun a s=>or64 a (setS s)) a<65536)∧
   ∀k,(ss.foldl (fun a s=>or64 a (setS s)) a).toNat.testBit k=(a.toNat.testBit k||ss.any fun s=>(setS s).toNat.testBit k)
 | [],a,_,h0,h1=>⟨⟨h0,h1⟩,fun k=>by simp⟩
 | s::ss,a,hs,h0,h1=>by
   have hb:=ACq9 (hs s (Zay ..))
   have ho:=BOi9 h0 h1 (b:=setS s) (by omega) (by omega)
   obtain ⟨g1,g2⟩:=AQk9 ss (or64 a (setS s)) (fun x hx=>hs x (Zaw _ hx)) ho.1 ho.2
   refine ⟨g1,fun k=> ?_⟩
   rw [Zbv,g2,AWe9 h0 h1 (by omega) (by omega),Zas,Nat.testBit_or,List.any_cons,Bool.or_assoc]
theorem BKv9 {p ss:List Int} (hs:∀s∈ss,seedS s=true) {m:Int} (h0:1≤m) (h1:m<65536):or64 m (AKa9 ss)=AKa9 ss∨(addS (allS p (masks ss) []).1 m (sumB p m)).2.1=true:=by
 have hm:=BUe9 hs
 obtain ⟨_,ht⟩:=AKi9 (Tru.nil p) hm
 rcases ATk9 ht.good ⟨h0,h1⟩ (ACv9 p m) (AFq9 p m) with ⟨h2,h3,_⟩|⟨h2,h3⟩|⟨_,x,hx,h3,_⟩
 · exact absurd (congrArg Prod.fst (AKh9 ht.good ht.tr (by omega) h1 h2)) h3
 · left
   have hi:=BZl9 ht.good (by omega) h1 h2
   rw [BKp9 (Tru.nil p) hm (es:= []) (fun v=>Iff.rfl)] at hi
   obtain ⟨hb,hk⟩:=AQk9 ss 0 hs (Int.le_refl 0) (by omega)
   have hb:0≤AKa9 ss∧AKa9 ss<65536:=hb
   rw [AWe9 (by omega) h1 hb.1 hb.2]
   have e:m.toNat|||(AKa9 ss).toNat=(AKa9 ss).toNat:=by
     refine Zej fun k=> ?_
     rw [Nat.testBit_or]
     cases hmk:m.toNat.testBit k with
     |false=>simp
     | true=>
       obtain ⟨e,he,hek⟩:=Sp.bits (i:= .inl k) hi hmk
       simp only [Zef,List.mem_reverse,eqsB,Zbo,List.mem_filter,masks] at he
       obtain ⟨m',⟨⟨s,hs',rfl⟩,_⟩,rfl⟩:=he
       rw [show (AKa9 ss).toNat.testBit k=_ from hk k]
       have:(ss.any fun s=>(setS s).toNat.testBit k)=true:=List.any_eq_true.2 ⟨s,hs',hek⟩
       rw [this];simp
   show (((m.toNat|||(AKa9 ss).toNat:Nat)):Int)=AKa9 ss
   rw [e]
   have:=hb.1
   omega
 · right;rw [h3]
def ss0:List Int:= [0,1,2,3,4,5,6,7,8,9,10,11,12,13,14,15]
theorem AUi9:∀i,i<16→two i∈masks ss0:=by decide+kernel
noncomputable def lp36:Code:=sub [1,1,0,1,2,3] (code f180)
def tm36 (acc:AV) (xs:List (List Dv)) (i:Int):List AV:= [.d (.sl 2 xs), .bad, .bad,acc, .d (i64 i)]++Zag 25 .bad
def GT:List (Nat×(List AV→List Blk→(AV→List Blk→Prop)→Prop)):= [((1000000+71),fun _ _ _=>False)]
theorem GT_ok:AAk9 prog GT:=by
 intro k f h args hp K hf
 simp only [GT,List.lookup_cons,List.lookup_nil] at h
 split at h
 · cases h;exact hf.elim
 · cases h
section
variable {β:Type} (wl:WLT β) (y:ABr9 β) (b:β) (K:Exit→List AV→List Blk→β→Prop)
theorem AXh9 (xs:List (List Dv)) (cs:List AV) (i:Int) (n v:Nat):wpc prog ⟨[],GT,wl,y,false⟩ 100 lp36 (tm36 (.gref 0 v n 2) xs i) [⟨cs,false,true,v⟩] b (maskT [0,3,4] K)=(
 BIf (decide (i<(xs.length:Int))) (BIf (true&&decide (0≤i)) (∃x0 xs1,xs[Zam i]? =some [i64 x0,Zai 1 xs1]∧BIf (decide (xs1.length*1≤140737488355328)) (BIf (true&&decide (0≤i)) (∃x4 xs5,xs[Zam i]? =some [i64 x4,Zai 1 xs5]∧v=v∧BIf (decide ((n+1)*32≤140737488355328))
   (K Zeb (tm36 (.gref 0 (v+1) (n+1) 2) xs (Zaa Zap (i+1))) [⟨cs++ [Zae (i64 x4),Zae (Zai 1 xs1)],false,true,v+1⟩] b) False) False) False) False)
 (K (Zcy 0) (tm36 (.gref 0 v n 2) xs i) [⟨cs,false,true,v⟩] b)):=by kernel_rfl
theorem BFb9 (xs:List (List Dv)) (i:Int):wpc prog ⟨[],GT,wl,y,false⟩ 100 lp36 (tm36 nilA xs i) [] b (maskT [0,3,4] K)=(
 BIf (decide (i<(xs.length:Int))) (BIf (true&&decide (0≤i)) (∃x0 xs1,xs[Zam i]? =some [i64 x0,Zai 1 xs1]∧BIf (decide (xs1.length*1≤140737488355328)) (BIf (true&&decide (0≤i)) (∃x4 xs5,xs[Zam i]? =some [i64 x4,Zai 1 xs5]∧
   K Zeb (tm36 (.gref 0 0 1 2) xs (Zaa Zap (i+1))) [⟨[Zae (i64 x4),Zae (Zai 1 xs1)],false,true,0⟩] b) False) False) False)
 (K (Zcy 0) (tm36 nilA xs i) [] b)):=by kernel_rfl
end
theorem BEy9 (l:List Row) (r:Row):flatA (rowsR l)++ [Zae (i64 r.1),Zae (.sl 1 (AAa9 r.2))]=flatA (rowsR (l++ [r])):=by simp [flatA,rowsR,rowD]
theorem BIa9 {α:Type} {l:List α} {k:Nat} {r:α} (h:l[k]? =some r):l.take (k+1)=l.take k++ [r]:=by
 rw [List.take_add_one,h];rfl
def ACf9 (l:List Row):Prop:=l.length≤1000∧∀r∈l,r.2.length≤1000
theorem wr36 {Ev:Env prog} {b:Ev.β} {Q:Exit→St Ev.β→Prop} (l:List Row) (hl:ACf9 l) (hQ:Q (.exit 0) ⟨tm36 (.gref 0 (l.length - 1) l.length 2) (rowsR l) l.length, [⟨flatA (rowsR l),false,true,l.length - 1⟩],b⟩):∀(rest:List Row) (k:Nat),l.drop (k+1)=rest→k+1≤l.length→
   WR Ev lp36 (rest.length+1) ⟨tm36 (.gref 0 k (k+1) 2) (rowsR l) ((k+1:Nat):Int), [⟨flatA (rowsR (l.take (k+1))),false,true,k⟩],b⟩ Q
 | [],k,hd,hk=>by
   refine Zbw [0,3,4] mixed (CX.Ok.of (u:=false) Zah GT_ok) (k:=100) ?_
   rw [AXh9]
   have:=ABm9 hd
   obtain rfl:k=l.length - 1:=by omega
   refine Zct (by simp [rowsR];omega) ?_
   have e:l.length - 1+1=l.length:=by omega
   rw [e,List.take_length];exact hQ
 | (m,p)::rest,k,hd,hk=>by
   refine Zbw [0,3,4] mixed (CX.Ok.of (u:=false) Zah GT_ok) (k:=100) ?_
   rw [AXh9]
   obtain ⟨hk,hr,hd'⟩:=AAw9 hd
   have g:(rowsR l)[Zam ((k+1:Nat):Int)]? =some [i64 m, .sl 1 (AAa9 p)]:=by simp [rowsR,hr,rowD]
   have hp:=hl.2 _ (Zbh hr)
   have h1:=hl.1
   refine Zbf (by simp only [rowsR,List.length_map];exact decide_eq_true (by omega)) (Zbf (by simp;omega) ⟨_,_,g,Zbf (by simp only [AAa9,List.length_map];exact decide_eq_true (by simp only at hp;omega)) (Zbf (by simp;omega) ⟨_,_,g,rfl,Zbf (decide_eq_true (by omega)) ?_⟩)⟩)
   rw [AAu9 hk (by omega),BEy9 (l.take (k+1)) (m,p),←BIa9 hr]
   exact wr36 l hl hQ rest (k+1) hd' hk
def wl36 {β:Type} (l:List Row):WLT β:=fun c tm hp b K=>c= .loop lp36∧ABb9 [0,3,4] 0 tm=tm36 nilA (rowsR l) 0∧hp= []∧
 K (.exit 0) (tm36 (.gref 0 (l.length - 1) l.length 2) (rowsR l) l.length) [⟨flatA (rowsR l),false,true,l.length - 1⟩] b
theorem BYo9 {Ev:Env prog} (l:List Row) (hl:ACf9 l) (hne:l≠ []) (c:Code) (tm:List AV) (hp:List Blk) (b:Ev.β) (K:Exit→List AV→List Blk→Ev.β→Prop) (h:wl36 l c tm hp b K):W Ev c ⟨tm,hp,b⟩ (fun e s=>K e s.tm s.hp s.b):=by
 obtain ⟨rfl,htm,rfl,hK⟩:=h
 refine W.cast (htm▸AAg9 _ tm 0) (Zbt _) ?_
 cases l with
 |nil=>exact absurd rfl hne
 | cons r0 rest=>
   obtain ⟨m,p⟩:=r0
   have hp:=hl.2 _ (Zay ..)
   have h1:=hl.1
   refine W.rounds (m:=(rest.length+1)+1) (Zbw [0,3,4] mixed (CX.Ok.of (u:=false) Zah GT_ok) (k:=100) ?_)
   rw [BFb9]
   have g:(rowsR ((m,p)::rest))[Zam 0]? =some [i64 m, .sl 1 (AAa9 p)]:=rfl
   refine Zbf (by simp [rowsR]) (Zbf rfl ⟨_,_,g,Zbf (by simp only [AAa9,List.length_map];exact decide_eq_true (by simp only at hp;omega)) (Zbf rfl ⟨_,_,g, ?_⟩)⟩)
   exact wr36 (Q:=fun e s=>K e s.tm s.hp s.b) ((m,p)::rest) hl hK rest 0 rfl (by simp)
section
variable {β:Type} (wl:WLT β) (y:ABr9 β) (b:β) (R:AV→List Blk→β→Prop)
theorem CJf9 (l:List Row) (xs:List (List Dv)):wpFnS prog ⟨[],GT,wl36 l,y,false⟩ 100 f180 [.d (.sl 2 xs)] b R=(
 Zax lp36=Zax lp36∧tm36 nilA xs 0=tm36 nilA (rowsR l) 0∧([]:List Blk)= []∧R (.gref 0 (l.length - 1) l.length 2) [⟨flatA (rowsR l),false,true,l.length - 1⟩] b):=by kernel_rfl
theorem CCp9:wpFnS prog ⟨[],GT,wl,y,true⟩ 100 f180 [.d (.sl 2 [])] b R=R nilA [] b:=by kernel_rfl
end
theorem fc36 (l:List Row) (hl:ACf9 l) (hne:l≠ []):FCall prog 180 [.d (.sl 2 (rowsR l))] (.gref 0 (l.length - 1) l.length 2) [⟨flatA (rowsR l),false,true,l.length - 1⟩]:=by
 refine FCall.ofFnW (n:=100) (u:=false) (fun _=>wl36 l) mixed Zah GT_ok (fun Ev=>BYo9 l hl hne) func180 (by rfl) (by rfl) (by rfl) fun Ev bb=> ?_
 rw [CJf9]
 exact ⟨rfl,rfl,rfl,rfl,rfl⟩
theorem fc36n:FCall prog 180 [.d (.sl 2 [])] nilA []:=by
 refine FCall.ofFnW (n:=100) (u:=true) wlNo mixed Zah GT_ok (fun Ev=>AEr9 Ev) func180 (by rfl) (by rfl) (by rfl) fun Ev bb=> ?_
 rw [CCp9]
 exact ⟨rfl,rfl⟩
def s36 (args:List AV) (hp:List Blk) (K:AV→List Blk→Prop):Prop:=∃(l:List Row),args= [.d (.sl 2 (rowsR l))]∧ACf9 l∧
 BIf (decide (l.length=0)) (K nilA hp) (K (.gref hp.length (l.length - 1) l.length 2) (hp++ [⟨flatA (rowsR l),false,true,l.length - 1⟩]))
theorem CFw9:∀args hp K,s36 args hp K→∃x hp',SCall prog 180 args hp x hp'∧K x hp':=by
 rintro _ hp K ⟨l,rfl,h1,h⟩
 by_cases hne:l= []
 · subst hne
   have:=fc36n.toS rfl hp
   simp only [shift,nilA,AHt9,List.map_nil,Zef] at this
   exact ⟨_,_,this,bif_t h rfl⟩
 · have:=(fc36 l h1 hne).toS rfl hp
   simp only [shift,AHt9,Zcz,List.map_nil,AQs9,ALj9,Nat.add_zero] at this
   have hl:l.length≠0:=fun hh=>hne (List.length_eq_zero_iff.1 hh)
   exact ⟨_,_,this,bif_f h (decide_eq_false hl)⟩
noncomputable def lp35:Code:=sub [1,0,1,2,3] (code f179)
def tm35 (xs:List (List Dv)) (i:Int):List AV:= [.d (.sl 1 xs), .bad, .bad, .d (i64 i)]++Zag 11 .bad
theorem AXi9 (xs:List (List Dv)) (i:Int):wpc prog ⟨[], [],wl,y,false⟩ 100 lp35 (tm35 xs i) [] b (maskT [0,2,3] K)=(
 BIf (decide (i<(xs.length:Int))) (BIf (true&&decide (0≤i)) (∃x0,xs[Zam i]? =some [u8 x0]∧BIf (x0 !=0) (K Exit.ret ((tm35 xs i).set 2 (.d (bo false))) [] b) (K Zeb (tm35 xs (Zaa Zap (i+1))) [] b)) False)
 (K (Zcy 0) (tm35 xs i) [] b)):=by kernel_rfl
def zeroL (p:List Int):Bool:=p.all fun x=>x==0
theorem wr35 {Ev:Env prog} {b:Ev.β} {Q:Exit→St Ev.β→Prop} (p:List Int) (hl:p.length≤9223372036854775807):∀(rest:List Int) (k:Nat),p.drop k=rest→
   BIf (zeroL rest) (Q (.exit 0) ⟨tm35 (AAa9 p) p.length, [],b⟩) (∀i:Int,Q .ret ⟨(tm35 (AAa9 p) i).set 2 (.d (bo false)), [],b⟩)→k≤p.length→WR Ev lp35 (rest.length+1) ⟨tm35 (AAa9 p) k, [],b⟩ Q
 | [],k,hd,hQ,hk=>by
   refine Zbw [0,2,3] mixed (CX.Ok.of (u:=false) Zah Zac) (k:=100) ?_
   rw [AXi9]
   have:=ABm9 hd
   obtain rfl:k=p.length:=by omega
   exact Zct (by simp [AAa9]) hQ
 | x::rest,k,hd,hQ,hk=>by
   refine Zbw [0,2,3] mixed (CX.Ok.of (u:=false) Zah Zac) (k:=100) ?_
   rw [AXi9]
   obtain ⟨hk,hr,hd'⟩:=AAw9 hd
   refine Zbf (by simpa [AAa9] using hk) (Zbf (by simp) ⟨x,by simp [AAa9,hr],Zaj (fun h=> ?_) fun h=> ?_⟩)
   · have h:x≠0:=by simpa [bne] using h
     exact bif_f hQ (by simp [zeroL,h]) k
   · have h:x=0:=by simpa [bne] using h
     rw [AAu9 hk hl]
     refine wr35 p hl rest (k+1) hd' ?_ hk
     subst h
     have e:zeroL (0::rest)=zeroL rest:=by simp [zeroL]
     rw [e] at hQ;exact hQ
def wl35 {β:Type}:WLT β:=fun c tm hp b K=>∃(p:List Int),c= .loop lp35∧ABb9 [0,3] 0 tm=tm35 (AAa9 p) 0∧hp= []∧p.length≤9223372036854775807∧
 BIf (zeroL p) (K (.exit 0) (tm35 (AAa9 p) p.length) [] b) (∀i:Int,K .ret ((tm35 (AAa9 p) i).set 2 (.d (bo false))) [] b)
theorem BYp9 {Ev:Env prog} (c:Code) (tm:List AV) (hp:List Blk) (b:Ev.β) (K:Exit→List AV→List Blk→Ev.β→Prop) (h:wl35 c tm hp b K):W Ev c ⟨tm,hp,b⟩ (fun e s=>K e s.tm s.hp s.b):=by
 obtain ⟨p,rfl,htm,rfl,h0,hK⟩:=h
 refine W.cast (htm▸AAg9 _ tm 0) (Zbt _) ?_
 exact W.rounds (wr35 (Q:=fun e s=>K e s.tm s.hp s.b) p h0 p 0 rfl hK (Zdb _))
theorem CJg9 {β:Type} (y:ABr9 β) (b:β) (R:AV→β→Prop) (xs:List (List Dv)):wpFn prog ⟨[], [],wl35,y,false⟩ 100 f179 [.d (.sl 1 xs)] b R=(
 ∃p:List Int,Zax lp35=Zax lp35∧tm35 xs 0=tm35 (AAa9 p) 0∧([]:List Blk)= []∧p.length≤9223372036854775807∧BIf (zeroL p) (R (.d (bo true)) b) (∀i:Int,R (.d (bo false)) b)):=by kernel_rfl
theorem pc35 (p:List Int) (hl:p.length≤9223372036854775807):PCall prog 179 [.d (.sl 1 (AAa9 p))] (.d (bo (zeroL p))):=by
 refine Zcd (n:=100) (u:=false) (fun _=>wl35) mixed Zah Zac (fun Ev=>BYp9) func179 (by rfl) (by rfl) fun Ev bb=> ?_
 rw [CJg9]
 exact ⟨p,rfl,rfl,rfl,hl,Zaj (fun h=>by rw [h]) fun h _=>by rw [h]⟩
def c35 (args:List AV) (K:AV→Prop):Prop:=∃(p:List Int) (r:Bool),args= [.d (.sl 1 (AAa9 p))]∧p.length≤9223372036854775807∧r=zeroL p∧K (.d (bo r))
theorem CKj9:∀args K,c35 args K→∃x,PCall prog 179 args x∧K x:=by
 rintro _ K ⟨p,_,rfl,h0,rfl,h⟩;exact ⟨_,pc35 p h0,h⟩
def T34:List (Nat×(List AV→(AV→Prop)→Prop)):= [(144,c37),(139,c25)]
theorem BXc9:AAf9 prog T34:=Zaf BWh9 (Zaf BWi9 Zah)
noncomputable def lp34:Code:=sub [1,0,1,2,3] (code f178)
def tm34 (xs:List (List Dv)) (i:Int):List AV:= [.d (.sl 2 xs), .bad, .bad, .ptr 0 0, .ptr 1 0, .d (i64 i)]++Zag 34 .bad
def rowB2 (m:Int) (ds:List (List Dv)):Blk:=⟨[.d (i64 m), .d (.sl 1 ds)],false,false,0⟩
def AMt9:Blk:=⟨[.d (i64 0), .d (.s (.slice none 0 0))],false,false,0⟩
theorem AXj9 (xs ds:List (List Dv)) (i m:Int):wpc prog ⟨T34, [],wl,y,false⟩ 100 lp34 (tm34 xs i) [rowB2 m ds,AMt9] b (maskT [0,3,4,5] K)=(
 BIf (decide (i<(xs.length:Int))) (BIf (true&&decide (0≤i)) (∃x0 xs1,xs[Zam i]? =some [i64 x0,Zai 1 xs1]∧∃m4, [Zae (i64 x0)]= [Zae (i64 m4)]∧(1≤m4∧m4<4611686018427387904)∧BIf (and64 m (lead m4) !=0)
   (BIf (true&&decide (0≤i)) (∃x5 xs6,xs[Zam i]? =some [i64 x5,Zai 1 xs6]∧BIf (true&&decide (0≤i)) (∃x9 xs10,xs[Zam i]? =some [i64 x9,Zai 1 xs10]∧∃p13 q14 r15, [Zae (Zai 1 ds),Zae (Zai 1 xs10)]= [Zae (Zai 1 (AAa9 p13)),Zae (Zai 1 (AAa9 q14))]∧(16≤p13.length∧16≤q14.length)∧r15=xorL p13 q14∧
     K Zeb (tm34 xs (Zaa Zap (i+1))) [rowB2 (xor64 m x5) (AAa9 r15),AMt9] b) False) False)
   (K Zeb (tm34 xs (Zaa Zap (i+1))) [rowB2 m ds,AMt9] b)) False) (K (Zcy 0) (tm34 xs i) [rowB2 m ds,AMt9] b)):=by kernel_rfl
def redR (x:Row) (r:Row):Row:=if and64 x.1 (lead r.1) !=0 then (xor64 x.1 r.1,xorL x.2 r.2) else x
theorem wr34 {Ev:Env prog} {b:Ev.β} {Q:Exit→St Ev.β→Prop} (l:List Row) (hl:l.length≤9223372036854775807) (hok:∀r∈l,ABg9 r∧16≤r.2.length):∀(rest:List Row) (k:Nat) (x:Row),l.drop k=rest→16≤x.2.length→
   Q (.exit 0) ⟨tm34 (rowsR l) l.length, [rowB2 (rest.foldl redR x).1 (AAa9 (rest.foldl redR x).2),AMt9],b⟩→k≤l.length→WR Ev lp34 (rest.length+1) ⟨tm34 (rowsR l) k, [rowB2 x.1 (AAa9 x.2),AMt9],b⟩ Q
 | [],k,x,hd,hx,hQ,hk=>by
   refine Zbw [0,3,4,5] mixed (CX.Ok.of (u:=false) BXc9 Zac) (k:=100) ?_
   rw [AXj9]
   have:=ABm9 hd
   obtain rfl:k=l.length:=by omega
   exact Zct (by simp [rowsR]) hQ
 | r::rest,k,x,hd,hx,hQ,hk=>by
   refine Zbw [0,3,4,5] mixed (CX.Ok.of (u:=false) BXc9 Zac) (k:=100) ?_
   rw [AXj9]
   obtain ⟨hk,hr,hd'⟩:=AAw9 hd
   have g:(rowsR l)[Zam k]? =some [i64 r.1, .sl 1 (AAa9 r.2)]:=by simp [rowsR,hr,rowD]
   obtain ⟨ho,hlen⟩:=hok r (Zbh hr)
   rw [Zbv] at hQ
   rw [AAu9 hk hl]
   refine Zbf (by simpa [rowsR] using hk) (Zbf (by simp) ⟨_,_,g,r.1,rfl,⟨ho.1,by have:=ho.2;omega⟩,Zaj (fun h=>Zbf (by simp) ⟨_,_,g,Zbf (by simp) ⟨_,_,g,_,_,_,rfl,⟨hx,hlen⟩,rfl, ?_⟩⟩) fun h=> ?_⟩)
   · have e:redR x r=(xor64 x.1 r.1,xorL x.2 r.2):=by simp only [redR,h,if_true]
     rw [e] at hQ
     exact wr34 l hl hok rest (k+1) (xor64 x.1 r.1,xorL x.2 r.2) hd' (by rw [AKy9];exact Nat.le_refl _) hQ hk
   · have e:redR x r=x:=by simp only [redR,h];rfl
     rw [e] at hQ
     exact wr34 l hl hok rest (k+1) x hd' hx hQ hk
def wl34 {β:Type}:WLT β:=fun c tm hp b K=>∃(l:List Row) (x:Row),c= .loop lp34∧ABb9 [0,3,4,5] 0 tm=tm34 (rowsR l) 0∧hp= [rowB2 x.1 (AAa9 x.2),AMt9]∧(l.length≤9223372036854775807∧(∀r∈l,ABg9 r∧16≤r.2.length)∧16≤x.2.length)∧
 ∃z,z=l.foldl redR x∧K (.exit 0) (tm34 (rowsR l) l.length) [rowB2 z.1 (AAa9 z.2),AMt9] b
theorem BYq9 {Ev:Env prog} (c:Code) (tm:List AV) (hp:List Blk) (b:Ev.β) (K:Exit→List AV→List Blk→Ev.β→Prop) (h:wl34 c tm hp b K):W Ev c ⟨tm,hp,b⟩ (fun e s=>K e s.tm s.hp s.b):=by
 obtain ⟨l,x,rfl,htm,rfl,⟨h0,h1,h2⟩,_,rfl,hK⟩:=h
 refine W.cast (htm▸AAg9 _ tm 0) (Zbt _) ?_
 exact W.rounds (wr34 (Q:=fun e s=>K e s.tm s.hp s.b) l h0 h1 l 0 x rfl h2 hK (Zdb _))
theorem CJh9 {β:Type} (y:ABr9 β) (b:β) (R:AV→β→Prop) (xs ds:List (List Dv)) (m:Int):wpFn prog ⟨T34, [],wl34,y,false⟩ 100 f178 [.d (.sl 2 xs), .agg [.d (i64 m), .d (.sl 1 ds)]] b R=(
 ∃ (l:List Row) (x:Row),Zax lp34=Zax lp34∧tm34 xs 0=tm34 (rowsR l) 0∧ [rowB2 m ds,AMt9]= [rowB2 x.1 (AAa9 x.2),AMt9]∧(l.length≤9223372036854775807∧(∀r∈l,ABg9 r∧16≤r.2.length)∧16≤x.2.length)∧
   ∃z:Row,z=l.foldl redR x∧R (rowA z.1 z.2) b):=by kernel_rfl
theorem pc34 (l:List Row) (m:Int) (p:List Int) (h0:l.length≤9223372036854775807) (h1:∀r∈l,ABg9 r∧16≤r.2.length) (h2:16≤p.length):PCall prog 178 [.d (.sl 2 (rowsR l)),rowA m p] (rowA (l.foldl redR (m,p)).1 (l.foldl redR (m,p)).2):=by
 refine Zcd (n:=100) (u:=false) (fun _=>wl34) mixed BXc9 Zac (fun Ev=>BYq9) func178 (by rfl) (by rfl) fun Ev bb=> ?_
 show wpFn _ _ _ _ [_, .agg [.d (i64 m), .d (.sl 1 (AAa9 p))]] _ _
 rw [CJh9]
 exact ⟨l,(m,p),rfl,rfl,rfl,⟨h0,h1,h2⟩,_,rfl,rfl⟩
def c34 (args:List AV) (K:AV→Prop):Prop:=∃(l:List Row) (m:Int) (p:List Int) (z:Row),args= [.d (.sl 2 (rowsR l)),rowA m p]∧(l.length≤9223372036854775807∧(∀r∈l,ABg9 r∧16≤r.2.length)∧16≤p.length)∧z=l.foldl redR (m,p)∧K (rowA z.1 z.2)
theorem CKk9:∀args K,c34 args K→∃x,PCall prog 178 args x∧K x:=by
 rintro _ K ⟨l,m,p,_,rfl,⟨h0,h1,h2⟩,rfl,h⟩;exact ⟨_,pc34 l m p h0 h1 h2,h⟩
theorem BSd9 {x r:Row} (h:r.2.length=16):redR x r=red x r:=by unfold redR red;rw [pad16 h]
theorem AWv9:∀ {l:List Row} {x:Row},(∀r∈l,r.2.length=16)→l.foldl redR x=l.foldl red x
 | [],_,_=>rfl
 | r::l,x,h=>by
   rw [Zbv,Zbv,BSd9 (h r (Zay ..))]
   exact AWv9 fun s hs=>h s (Zaw _ hs)
theorem BUt9 {l:List Row} {x:Row} (h:x.2.length=16):(l.foldl red x).2.length=16:=by
 induction l generalizing x with
 |nil=>exact h
 | cons r l ih=>
   rw [Zbv]
   refine ih ?_
   unfold red;split
   · exact AKy9 _ _
   · exact h
noncomputable def lp13:Code:=sub [1,1,1,1,1,1,1,1,0,1,2,3] (code f129)
def T13:List (Nat×(List AV→(AV→Prop)→Prop)):= [(144,c37),(139,c25),(81,c21),(143,c24),(178,c34),(179,c35)]
theorem BNh9:AAf9 prog T13:=Zaf BWh9 (Zaf BWi9 (Zaf BWj9 (Zaf CEj9 (Zaf CKk9 (Zaf CKj9 Zah)))))
def S13:List (Nat×(List AV→List Blk→(AV→List Blk→Prop)→Prop)):= [(180,s36)]
theorem BNj9:AAk9 prog S13:=by
 intro k f h args hp K hf
 simp only [S13,List.lookup_cons,List.lookup_nil] at h
 split at h
 · rename_i he
   cases h;rw [eq_of_beq he];exact CFw9 args hp K hf
 · cases h
def tm13 (acc rows:AV) (ld:Int) (dn:Bool) (i:Int):List AV:= [.bad, .bad, .bad, .bad, .bad, .bad, .bad, .ptr 1 0, .d (i64 ld),acc, .d (bo dn),rows, .d (i64 i)]++Zag 89 .bad
def gB (v:Nat) (cs:List AV):Blk:=⟨cs,false,true,v⟩
def part2 (ds:List (List Dv)) (cs:List AV) (i m ld:Int) (n v:Nat) (B:Blk) (xs:List (List Dv)) (dn:Bool):Prop:=
 v =v∧BIf (decide (0≤i)&&decide (i<(n:Int))) (v=v∧v=v∧∃x2,List.take 1 (List.drop (Zam i*2+0) cs)= [Zae (i64 x2)]∧BIf (and64 x2 ld !=0)
   (v=v∧BIf (decide (0≤i)&&decide (i<(n:Int))) (v=v∧v=v∧∃x3,List.take 1 (List.drop (Zam i*2+0) cs)= [Zae (i64 x3)]∧v=v∧BIf (decide (0≤i)&&decide (i<(n:Int))) (v=v∧v=v∧∃xs4,List.take 1 (List.drop (Zam i*2+1) cs)= [Zae (Zai 1 xs4)]∧
     ∃ p5 q6 r7, [Zae (Zai 1 xs4),Zae (Zai 1 ds)]= [Zae (Zai 1 (AAa9 p5)),Zae (Zai 1 (AAa9 q6))]∧(16≤p5.length∧16≤q6.length)∧r7=xorL p5 q6∧v=v∧BIf (decide (0≤i)&&decide (i<(n:Int))) (v=v∧BIf (decide (Zam i*2+2≤cs.length))
       (v=v∧BIf (decide (0≤i)&&decide (i<(n:Int))) (v=v∧∃x8 xs9,List.take 2 (List.drop (Zam i*2) (List.take (Zam i*2) cs++ [Zae (i64 (xor64 x3 m)),Zae (Zai 1 (AAa9 r7))]++List.drop (Zam i*2+2) cs))= [Zae (i64 x8),Zae (Zai 1 xs9)]∧
         BIf (true&&decide ((xs.length+1)*32≤140737488355328)) (K Zeb (tm13 (.own 71 2 (xs++ [[i64 x8,Zai 1 xs9]])) (.gref 2 v n 2) ld dn (Zaa Zap (i+1))) [B,rowB2 m ds,gB v (List.take (Zam i*2) cs++ [Zae (i64 (xor64 x3 m)),Zae (Zai 1 (AAa9 r7))]++List.drop (Zam i*2+2) cs)] b) False) False) False) False) False) False)
   (v=v∧BIf (decide (0≤i)&&decide (i<(n:Int))) (v=v∧∃x11 xs12,List.take 2 (List.drop (Zam i*2) cs)= [Zae (i64 x11),Zae (Zai 1 xs12)]∧
     BIf (true&&decide ((xs.length+1)*32≤140737488355328)) (K Zeb (tm13 (.own 71 2 (xs++ [[i64 x11,Zai 1 xs12]])) (.gref 2 v n 2) ld dn (Zaa Zap (i+1))) [B,rowB2 m ds,gB v cs] b) False) False)) False
theorem AXk9 (xs ds:List (List Dv)) (cs:List AV) (i m ld:Int) (dn:Bool) (n v:Nat) (B:Blk):wpc prog ⟨T13,S13,wl,y,false⟩ 100 lp13 (tm13 (.own 71 2 xs) (.gref 2 v n 2) ld dn i) [B,rowB2 m ds,gB v cs] b (maskT [7,8,9,10,11,12] K)=(
 v = v∧BIf (decide (i<(n:Int))) (BIf (!dn) (v=v∧BIf (decide (0≤i)&&decide (i<(n:Int))) (v=v∧v=v∧∃x0,List.take 1 (List.drop (Zam i*2+0) cs)= [Zae (i64 x0)]∧∃m1, [Zae (i64 x0)]= [Zae (i64 m1)]∧(1≤m1∧m1<4611686018427387904)∧BIf (decide (lead m1<ld))
     (BIf (true&&decide ((xs.length+1)*32≤140737488355328)) (part2 b K ds cs i m ld n v B (xs++ [[i64 m, .sl 1 ds]]) true) False) (part2 b K ds cs i m ld n v B xs dn)) False)
   (part2 b K ds cs i m ld n v B xs dn)) (K (Zcy 0) (tm13 (.own 71 2 xs) (.gref 2 v n 2) ld dn i) [B,rowB2 m ds,gB v cs] b)):=by kernel_rfl
theorem BEw9 (l:List Row):(flatA (rowsR l)).length=l.length*2:=by
 induction l with
 |nil=>rfl
 | cons r l ih=>
   have:rowsR (r::l)=rowD r::rowsR l:=rfl
   rw [this,AIn9,Zdh,ih];simp [rowD];omega
theorem AGs9 {rs:List Row} {k:Nat} {r:Row} (h:rs[k]? =some r):flatA (rowsR rs)=flatA (rowsR (rs.take k))++([Zae (i64 r.1),Zae (.sl 1 (AAa9 r.2))]++flatA (rowsR (rs.drop (k+1))))∧(flatA (rowsR (rs.take k))).length=k*2:=by
 have hk:=(Zad.1 h).1
 constructor
 · have e:rs=rs.take k++r::rs.drop (k+1):=by
     rw [←(Zad.1 h).2,←List.drop_eq_getElem_cons hk,List.take_append_drop]
   conv=>lhs;rw [e]
   simp [flatA,rowsR,rowD]
 · rw [BEw9,List.length_take,Nat.min_eq_left (by omega)]
theorem BEu9 {rs:List Row} {k:Nat} {r:Row} (h:rs[k]? =some r):List.take 2 (List.drop (k*2) (flatA (rowsR rs)))= [Zae (i64 r.1),Zae (.sl 1 (AAa9 r.2))]:=by
 obtain ⟨h1,h2⟩:=AGs9 h
 rw [h1,List.drop_left' h2];rfl
theorem BEv9 {rs:List Row} {k:Nat} {r:Row} (h:rs[k]? =some r):List.take 1 (List.drop (k*2+0) (flatA (rowsR rs)))= [Zae (i64 r.1)]:=by
 obtain ⟨h1,h2⟩:=AGs9 h
 rw [h1,Nat.add_zero,List.drop_left' h2];rfl
theorem BUu9 {rs:List Row} {k:Nat} {r:Row} (h:rs[k]? =some r):List.take 1 (List.drop (k*2+1) (flatA (rowsR rs)))= [Zae (.sl 1 (AAa9 r.2))]:=by
 obtain ⟨h1,h2⟩:=AGs9 h
 rw [h1,←List.drop_drop,List.drop_left' h2];rfl
theorem BUv9 {rs:List Row} {k:Nat} (hk:k<rs.length) (m:Int) (p:List Int):List.take (k*2) (flatA (rowsR rs))++ [Zae (i64 m),Zae (.sl 1 (AAa9 p))]++List.drop (k*2+2) (flatA (rowsR rs))=flatA (rowsR (rs.set k (m,p))):=by
 have hr:rs[k]? =some rs[k]:=Zbk hk
 obtain ⟨h1,h2⟩:=AGs9 hr
 have hs:(rs.set k (m,p))[k]? =some (m,p):=by rw [List.getElem?_set_self hk]
 obtain ⟨h3,h4⟩:=AGs9 hs
 rw [h3,h1,List.take_left' h2,←List.drop_drop,List.drop_left' h2]
 have e1:(rs.set k (m,p)).take k=rs.take k:=by rw [List.take_set_of_le (Nat.le_refl _)]
 have e2:(rs.set k (m,p)).drop (k+1)=rs.drop (k+1):=by rw [List.drop_set_of_lt (by omega)]
 rw [e1,e2]
 simp
theorem BZg9 {y r:Row} (hr:r.2.length=16):upd y r=if and64 r.1 (lead y.1) !=0 then (xor64 r.1 y.1,xorL r.2 y.2) else r:=by
 unfold upd
 rw [pad16 hr,BWn9,AUz9 hr]
theorem BTs9 {β:Type} {b:β} {K:Exit→List AV→List Blk→β→Prop} {y:Row} {n v:Nat} {B:Blk} {out rs:List Row} {dn:Bool} {k:Nat} {r:Row} (hy:y.2.length=16) (hr:rs[k]? =some r) (hr16:r.2.length=16) (hn:rs.length=n) (hnb:n≤1000) (ho:out.length≤100000)
   (hK:∀rs':List Row,rs'.length=n→rs'.drop (k+1)=rs.drop (k+1)→K .normal (tm13 (.own 71 2 (rowsR (out++ [upd y r]))) (.gref 2 v n 2) (lead y.1) dn ((k+1:Nat):Int)) [B,rowB2 y.1 (AAa9 y.2),gB v (flatA (rowsR rs'))] b):
   part2 b K (AAa9 y.2) (flatA (rowsR rs)) k y.1 (lead y.1) n v B (rowsR out) dn:=by
 have hk:k<n:=hn▸(Zad.1 hr).1
 have hi:(decide ((0:Int)≤(k:Int))&&decide ((k:Int)<(n:Int)))=true:=by simp;omega
 have hw:∀(r0:Row),rowsR out++ [[i64 r0.1, .sl 1 (AAa9 r0.2)]]=rowsR (out++ [r0]):=fun r0=>by simp [rowsR,rowD]
 have hfit:(true&&decide (((rowsR out).length+1)*32≤140737488355328))=true:=by simp [rowsR];omega
 unfold part2
 rw [Zas,BEv9 hr,BUu9 hr,BEu9 hr,BEw9,AAu9 hk (by omega)]
 refine ⟨rfl,Zbf hi ⟨rfl,rfl,_,rfl,Zaj (fun h=> ?_) fun h=> ?_⟩⟩
 · refine ⟨rfl,Zbf hi ⟨rfl,rfl,_,rfl,rfl,Zbf hi ⟨rfl,rfl,_,rfl,r.2,y.2,_,rfl,⟨by omega,by omega⟩,rfl,rfl,Zbf hi ⟨rfl,Zbf (by simp;omega) ⟨rfl,Zbf hi ⟨rfl, ?_⟩⟩⟩⟩⟩⟩
   rw [BUv9 (by omega)]
   have hset:(rs.set k (xor64 r.1 y.1,xorL r.2 y.2))[k]? =some (xor64 r.1 y.1,xorL r.2 y.2):=by rw [List.getElem?_set_self (by omega)]
   refine ⟨_,_,BEu9 hset,Zbf hfit ?_⟩
   have e:upd y r=(xor64 r.1 y.1,xorL r.2 y.2):=by rw [BZg9 hr16,if_pos h]
   rw [hw (xor64 r.1 y.1,xorL r.2 y.2),←e]
   rw [e]
   have:=hK (rs.set k (xor64 r.1 y.1,xorL r.2 y.2)) (by simp [hn]) (List.drop_set_of_lt (by omega))
   rwa [e] at this
 · refine ⟨rfl,Zbf hi ⟨rfl,_,_,rfl,Zbf hfit ?_⟩⟩
   have e:upd y r=r:=by rw [BZg9 hr16,if_neg (by rw [h];simp)]
   rw [hw r]
   have:=hK rs hn rfl
   rwa [e] at this
theorem BRe9 (y:Row) (out:List Row) (dn:Bool) (r:Row) (hy:y.2.length=16):stepB y (out,dn) r=((if !dn&&decide (lead r.1<lead y.1) then out++ [y] else out)++ [upd y r],dn||decide (lead r.1<lead y.1)):=by
 unfold stepB upd
 rw [AUz9 hy]
theorem wr13 {Ev:Env prog} {b:Ev.β} {Q:Exit→St Ev.β→Prop} (l:List Row) (hl:l.length≤1000) (hok:∀r∈l,ABg9 r∧r.2.length=16) (y:Row) (hy:y.2.length=16) (B:Blk) (v:Nat):∀(rest:List Row) (k:Nat) (out rs:List Row) (dn:Bool),l.drop k=rest→rs.drop k=rest→rs.length=l.length→out.length≤2*k→
   (∀cs,Q (.exit 0) ⟨tm13 (.own 71 2 (rowsR (rest.foldl (stepB y) (out,dn)).1)) (.gref 2 v l.length 2) (lead y.1) (rest.foldl (stepB y) (out,dn)).2 l.length, [B,rowB2 y.1 (AAa9 y.2),gB v cs],b⟩)→k≤l.length→
   WR Ev lp13 (rest.length+1) ⟨tm13 (.own 71 2 (rowsR out)) (.gref 2 v l.length 2) (lead y.1) dn k, [B,rowB2 y.1 (AAa9 y.2),gB v (flatA (rowsR rs))],b⟩ Q
 | [],k,out,rs,dn,hd,hd2,hrl,ho,hQ,hk=>by
   refine Zbw [7,8,9,10,11,12] mixed (CX.Ok.of (u:=false) BNh9 BNj9) (k:=100) ?_
   rw [AXk9]
   have:=ABm9 hd
   obtain rfl:k=l.length:=by omega
   exact ⟨rfl,Zct (by simp) (hQ _)⟩
 | r::rest,k,out,rs,dn,hd,hd2,hrl,ho,hQ,hk=>by
   refine Zbw [7,8,9,10,11,12] mixed (CX.Ok.of (u:=false) BNh9 BNj9) (k:=100) ?_
   rw [AXk9]
   obtain ⟨hk,hr,hd'⟩:=AAw9 hd
   obtain ⟨_,hr2,hd2'⟩:=AAw9 hd2
   obtain ⟨hm,h16⟩:=hok r (Zbh hr)
   have hi:(decide ((0:Int)≤(k:Int))&&decide ((k:Int)<(l.length:Int)))=true:=by simp;omega
   rw [Zbv,BRe9 y out dn r hy] at hQ
   have hgo:∀(out':List Row) (dn':Bool),out'.length≤2*k+1→(out'++ [upd y r],dn')=((if !dn&&decide (lead r.1<lead y.1) then out++ [y] else out)++ [upd y r],dn||decide (lead r.1<lead y.1))→
       part2 b (thenK (fun tm hp b=>WR Ev lp13 (rest.length+1) ⟨tm,hp,b⟩ Q) fun e tm hp b=>Q e ⟨tm,hp,b⟩) (AAa9 y.2) (flatA (rowsR rs)) k y.1 (lead y.1) l.length v B (rowsR out') dn':=by
     intro out' dn' hlo he
     rw [←he] at hQ
     refine BTs9 hy hr2 h16 hrl hl (by omega) fun rs' h1 h2=> ?_
     exact wr13 l hl hok y hy B v rest (k+1) _ rs' dn' hd' (h2.trans hd2') h1 (by simp;omega) hQ hk
   refine ⟨rfl,Zbf (by simpa using hk) (Zaj (fun h1=> ?_) fun h1=> ?_)⟩
   · have h1:dn=false:=by simpa using h1
     subst h1
     rw [Zas,BEv9 hr2]
     refine ⟨rfl,Zbf hi ⟨rfl,rfl,_,rfl,r.1,rfl,⟨hm.1,by have:=hm.2;omega⟩,Zaj (fun h2=>Zbf (by simp [rowsR];omega) ?_) fun h2=> ?_⟩⟩
     · have hw:rowsR out++ [[i64 y.1, .sl 1 (AAa9 y.2)]]=rowsR (out++ [y]):=by simp [rowsR,rowD]
       rw [hw]
       exact hgo (out++ [y]) true (by simp;omega) (by rw [h2];simp)
     · exact hgo out false (by omega) (by rw [h2];simp)
   · have h1:dn=true:=by simpa using h1
     subst h1
     exact hgo out true (by omega) (by simp)
def wl13 {β:Type}:WLT β:=fun c tm hp b K=>match tm.getD 11 .bad with
 | .gref .. =>∃(l:List Row) (y:Row) (B:Blk) (z:List Row×Bool),c= .loop lp13∧ABb9 [7,8,9,10,11,12] 0 tm=tm13 nilA (.gref 2 (l.length - 1) l.length 2) (lead y.1) false 0∧hp= [B,rowB2 y.1 (AAa9 y.2),gB (l.length - 1) (flatA (rowsR l))]∧
     (l.length≤1000∧(∀r∈l,ABg9 r∧r.2.length=16)∧y.2.length=16)∧z=l.foldl (stepB y) ([],false)∧
     ∀cs,K (.exit 0) (tm13 (.own 71 2 (rowsR z.1)) (.gref 2 (l.length - 1) l.length 2) (lead y.1) z.2 l.length) [B,rowB2 y.1 (AAa9 y.2),gB (l.length - 1) cs] b
 |_=>∃(y:Row) (B:Blk),c= .loop lp13∧ABb9 [7,8,9,10,11,12] 0 tm=tm13 nilA nilA (lead y.1) false 0∧hp= [B,rowB2 y.1 (AAa9 y.2)]∧K (.exit 0) (tm13 nilA nilA (lead y.1) false 0) [B,rowB2 y.1 (AAa9 y.2)] b
theorem BFe9 {β:Type} (wl:WLT β) (y:ABr9 β) (b:β) (K:Exit→List AV→List Blk→β→Prop) (ld:Int) (hp:List Blk):wpc prog ⟨T13,S13,wl,y,false⟩ 100 lp13 (tm13 nilA nilA ld false 0) hp b (maskT [7,8,9,10,11,12] K)=K (.exit 0) (tm13 nilA nilA ld false 0) hp b:=by kernel_rfl
theorem BYy9 {Ev:Env prog} (c:Code) (tm:List AV) (hp:List Blk) (b:Ev.β) (K:Exit→List AV→List Blk→Ev.β→Prop) (h:wl13 c tm hp b K):W Ev c ⟨tm,hp,b⟩ (fun e s=>K e s.tm s.hp s.b):=by
 unfold wl13 at h
 split at h
 · obtain ⟨l,y,B,_,rfl,htm,rfl,⟨h0,h1,h2⟩,rfl,hK⟩:=h
   refine W.cast (htm▸AAg9 _ tm 0) (Zbt _) ?_
   refine W.cast (tm':=tm13 (.own 71 2 (rowsR [])) (.gref 2 (l.length - 1) l.length 2) (lead y.1) false 0) (LeL.at [_,_,_,_,_,_,_,_,_] _ (LeA.nilOwn rfl)) (Zbt _) ?_
   exact W.rounds (wr13 (Q:=fun e s=>K e s.tm s.hp s.b) l h0 h1 y h2 B _ l 0 [] l false rfl rfl rfl (by simp) hK (Zdb _))
 · obtain ⟨y,B,rfl,htm,rfl,hK⟩:=h
   refine W.cast (htm▸AAg9 _ tm 0) (Zbt _) ?_
   refine W.rounds (m:=1) (Zbw [7,8,9,10,11,12] mixed (CX.Ok.of (u:=false) BNh9 BNj9) (k:=100) ?_)
   rw [BFe9];exact hK
def tup3 (a:AV) (n:Bool) (e:Int):AV:= .tup [a, .d (bo n), .d (i64 e)]
theorem CJq9 {β:Type} (y:ABr9 β) (b:β) (R:AV→β→Prop) (xs ds:List (List Dv)) (m:Int):wpFn prog ⟨T13,S13,wl13,y,false⟩ 100 f129 [.d (.sl 2 xs), .agg [.d (i64 m), .d (.sl 1 ds)]] b R=(
 ∃l0:List Row, [Zae (Zai 2 xs)]= [Zae (Zai 2 (rowsR l0))]∧l0.length≤9223372036854775807∧BIf (!AHh9 l0) (R (tup3 nilA false 1) b) (∃m1 p2, [AV.agg [Zae (i64 m),Zae (Zai 1 ds)]]= [rowA m1 p2]∧BIf (!ACt9 m1 p2) (R (tup3 nilA false 1) b)
 (∃(l3:List Row) (m4:Int) (p5:List Int) (z6:Row), [Zae (Zai 2 xs),AV.agg [Zae (i64 m),Zae (Zai 1 ds)]]= [Zae (Zai 2 (rowsR l3)),rowA m4 p5]∧(l3.length≤9223372036854775807∧(∀r∈l3,ABg9 r∧16≤r.2.length)∧16≤p5.length)∧z6=l3.foldl redR (m4,p5)∧
   BIf (z6.1==0) (∃p7 r8, [Zae (Zai 1 (AAa9 z6.2))]= [Zae (Zai 1 (AAa9 p7))]∧p7.length≤9223372036854775807∧r8=zeroL p7∧BIf (!r8) (R (tup3 nilA false 12) b)
     (∃l9:List Row, [Zae (Zai 2 xs)]= [Zae (Zai 2 (rowsR l9))]∧ACf9 l9∧BIf (decide (l9.length=0)) (R (tup3 nilA false 0) b) (l9.length - 1=l9.length - 1∧∃xs10,flatA (rowsR l9)=flatA xs10∧xs10.length=l9.length∧(∀r∈xs10,r.length=2)∧R (tup3 (Zae (Zai 2 xs10)) false 0) b)))
   (∃m11, [Zae (i64 z6.1)]= [Zae (i64 m11)]∧(1≤m11∧m11<4611686018427387904)∧∃l12:List Row, [Zae (Zai 2 xs)]= [Zae (Zai 2 (rowsR l12))]∧ACf9 l12∧BIf (decide (l12.length=0))
     (∃(y13:Row) (B14:Blk),Zax lp13=Zax lp13∧tm13 nilA nilA (lead m11) false 0=tm13 nilA nilA (lead y13.1) false 0∧ [rowB2 m ds,rowB2 z6.1 (AAa9 z6.2)]= [B14,rowB2 y13.1 (AAa9 y13.2)]∧R (tup3 (Zae (Zai 2 [[i64 y13.1,Zai 1 (AAa9 y13.2)]])) true 0) b)
     (∃(l15:List Row) (y16:Row) (B17:Blk) (z18:List Row×Bool),Zax lp13=Zax lp13∧tm13 nilA (.gref 2 (l12.length - 1) l12.length 2) (lead m11) false 0=tm13 nilA (.gref 2 (l15.length - 1) l15.length 2) (lead y16.1) false 0∧
       [rowB2 m ds,rowB2 z6.1 (AAa9 z6.2),gB (l12.length - 1) (flatA (rowsR l12))]= [B17,rowB2 y16.1 (AAa9 y16.2),gB (l15.length - 1) (flatA (rowsR l15))]∧(l15.length≤1000∧(∀r∈l15,ABg9 r∧r.2.length=16)∧y16.2.length=16)∧z18=l15.foldl (stepB y16) ([],false)∧
       ∀cs:List AV,BIf (!z18.2) (BIf (true&&decide (((rowsR z18.1).length+1)*32≤140737488355328)) (R (tup3 (Zae (Zai 2 (rowsR z18.1++ [[i64 y16.1,Zai 1 (AAa9 y16.2)]]))) true 0) b) False) (R (tup3 (Zae (Zai 2 (rowsR z18.1))) true 0) b)))))):=by kernel_rfl
theorem ATm9 {p:List Int} (h:p.length=16):zeroL p=AHs9 p:=by
 rw [Bool.eq_iff_iff]
 unfold zeroL AHs9
 rw [Zbm,Zbm]
 constructor
 · intro hh i hi
   have hi:i<p.length:=by rw [h];simpa using hi
   have e:nth p i=p[i]:=by simp [nth,List.getD,hi]
   rw [e];exact hh _ (List.getElem_mem hi)
 · intro hh x hx
   obtain ⟨i,hi,rfl⟩:=List.mem_iff_getElem.1 hx
   have:=hh i (by simpa [h] using hi)
   simpa [nth,List.getD,hi] using this
theorem pc13 (l:List Row) (m:Int) (p:List Int) (hs:ACf9 l):PCall prog 129 [.d (.sl 2 (rowsR l)),rowA m p] (addR (addS l m p)):=by
 have hl:l.length≤9223372036854775807:=by have:=hs.1;omega
 refine PCall.ofFnL (n:=100) (u:=false) (fun _=>wl13) mixed BNh9 BNj9 (fun Ev=>BYy9) func129 (by rfl) (by rfl) fun Ev bb=> ?_
 show wpFn _ _ _ _ [_, .agg [.d (i64 m), .d (.sl 1 (AAa9 p))]] _ _
 rw [CJq9]
 have hbad:(!ADy9 l|| !fine m p)=true→LeT (tup3 nilA false 1) (addR (addS l m p)):=by
   intro h
   unfold addS
   rw [if_pos h]
   exact ANa9 _ _
 refine ⟨l,rfl,hl,Zaj (fun hv=>hbad ?_) fun hv=>⟨m,p,rfl,Zaj (fun hf=>hbad ?_) fun hf=> ?_⟩⟩
 · rw [←AKg9 l,hv];rfl
 · rw [AEm9,hf];simp
 have hv:AHh9 l=true:=by simpa using hv
 have hf:ACt9 m p=true:=by simpa using hf
 have hg:=(AEg9 l).1 hv
 have hf':=hf
 simp only [ACt9,Zan,decide_eq_true_eq] at hf'
 have h16:=hf'.2.2
 have ea:addS l m p=(if (l.foldl red (m,p)).1==0&&AHs9 (l.foldl red (m,p)).2 then (l.map keepR,false,0) else if (l.foldl red (m,p)).1==0 then ([],false,12) else
     (if !(l.foldl (stepB (l.foldl red (m,p))) ([],false)).2 then (l.foldl (stepB (l.foldl red (m,p))) ([],false)).1++ [((l.foldl red (m,p)).1,b16 (l.foldl red (m,p)).2)] else (l.foldl (stepB (l.foldl red (m,p))) ([],false)).1,true,0)):=by
   unfold addS
   rw [←AKg9 l,hv,AEm9,hf,pad16 h16]
   rfl
 rw [ea]
 have hx16:(l.foldl red (m,p)).2.length=16:=BUt9 h16
 have hbd:=ACc9 (x:=(m,p)) ⟨by simp only;omega,hf'.2.1⟩ hg.mask
 refine ⟨l,m,p,_,rfl,⟨hl,fun r hr=>⟨hg.mask r hr,by rw [hg.len16 r hr];exact Nat.le_refl _⟩,by omega⟩,rfl, ?_⟩
 rw [AWv9 hg.len16]
 generalize l.foldl red (m,p)=x at hx16 hbd
 have hsmall:ACf9 l:=hs
 refine Zaj (fun h0=>⟨x.2,_,rfl,by omega,rfl,Zaj (fun hz=> ?_) fun hz=>⟨l,rfl,hsmall,Zaj (fun hn=> ?_) fun hn=>⟨rfl,rowsR l,rfl,by simp [rowsR], ?_, ?_⟩⟩⟩) fun h0=> ?_
 · have hz:AHs9 x.2=false:=by rw [←ATm9 hx16];simpa using hz
   rw [h0,hz]
   exact ANa9 _ _
 · have hz:AHs9 x.2=true:=by rw [←ATm9 hx16];simpa using hz
   have hn:l= []:=List.length_eq_zero_iff.1 (by simpa using hn)
   rw [h0,hz,hn]
   exact ANa9 _ _
 · intro r hr
   obtain ⟨r',_,rfl⟩:=Zbo.1 hr
   rfl
 · have hz:AHs9 x.2=true:=by rw [←ATm9 hx16];simpa using hz
   rw [h0,hz,BOp9 hg]
   exact .rfl
 · have hx0:x.1≠0:=by simpa using h0
   rw [h0]
   refine ⟨x.1,rfl,⟨by omega,by omega⟩,l,rfl,hsmall,Zaj (fun hn=>⟨x,_,rfl,rfl,rfl, ?_⟩) fun hn=>⟨l,x,_,_,rfl,rfl,rfl,⟨hsmall.1,fun r hr=>⟨hg.mask r hr,hg.len16 r hr⟩,hx16⟩,rfl,fun cs=> ?_⟩⟩
   · have hn:l= []:=List.length_eq_zero_iff.1 (by simpa using hn)
     subst hn
     simp only [List.foldl_nil,AUz9 hx16]
     exact .rfl
   · have hlen:(l.foldl (stepB x) ([],false)).1.length≤0+l.length+1:=(ALg9 x l ([],false)).1
     have h1000:=hsmall.1
     refine Zaj (fun h1=>Zbf (by simp [rowsR];omega) ?_) fun h1=> ?_
     · have e:rowsR (l.foldl (stepB x) ([],false)).1++ [[i64 x.1, .sl 1 (AAa9 x.2)]]=rowsR ((l.foldl (stepB x) ([],false)).1++ [(x.1,b16 x.2)]):=by simp [rowsR,rowD,AUz9 hx16]
       rw [e,h1]
       exact .rfl
     · rw [h1];exact .rfl
def c13 (args:List AV) (K:AV→Prop):Prop:=∃(l:List Row) (m:Int) (b:List Int) (x:List Row×Bool×Int),args= [.d (.sl 2 (rowsR l)),rowA m b]∧ACf9 l∧x=addS l m b∧K (addR x)
theorem CKo9:∀args K,c13 args K→∃x,PCall prog 129 args x∧K x:=by
 rintro _ K ⟨l,m,b,_,rfl,h1,rfl,h⟩;exact ⟨_,pc13 l m b h1,h⟩
def TEr:List (Nat×(List AV→(AV→Prop)→Prop)):= [(104,cSeed),(130,cSetR),(139,c25)]
theorem BNf9:AAf9 prog TEr:=Zaf AKr9 (Zaf BFz9 (Zaf BWi9 Zah))
noncomputable def lpEr:Code:=sub [1,1,1,1,1,0,1,2,3] (code f67)
def tmEr (ps:List (List Dv)) (n s:Int) (d:AV) (v i:Int):List AV:= [.d (.sl 1 ps), .d (i64 n), .d (i64 s), .bad, .bad, .bad, .ptr 0 0, .bad, .bad,d, .d (i64 v), .d (i64 i)]++Zag 43 .bad
def zeros:List Int:= [0,0,0,0,0,0,0,0,0,0,0,0,0,0,0,0]
def zeroB (f:Bool):Blk:=⟨[.d (u8 0), .d (u8 0), .d (u8 0), .d (u8 0), .d (u8 0), .d (u8 0), .d (u8 0), .d (u8 0), .d (u8 0), .d (u8 0), .d (u8 0), .d (u8 0), .d (u8 0), .d (u8 0), .d (u8 0), .d (u8 0)],f,false,0⟩
def refD:AV:= .ref 1 0 16 16 1
def lo16 (i:Int):Int:=Zaa .i64 (16*i)
def hi16 (i:Int):Int:=Zaa .i64 (Zaa .i64 (16*i)+16)
def cut16 (ps:List (List Dv)) (i:Int):List (List Dv):=List.take (Zam (hi16 i) - Zam (lo16 i)) (List.drop (Zam (lo16 i)) ps)
def okCut (ps:List (List Dv)) (i:Int):Prop:=0≤lo16 i∧lo16 i≤hi16 i∧hi16 i≤(ps.length:Int)∧(ps.length:Int)≤(ps.length:Int)
instance (ps : List (List Dv)) (i : Int) : Decidable (okCut ps i) := inferInstanceAs (Decidable (_ ∧ _))
theorem rA (ps:List (List Dv)) (n s v i:Int):wpc prog ⟨TEr, [],wl,y,false⟩ 100 lpEr (tmEr ps n s refD v i) [resE,zeroB false] b (maskT [0,1,2,6,9,10,11] K)=(
 BIf (decide (i<16)) (BIf (Int.tmod v 2==1) (BIf (true&&decide (okCut ps i)) (∃(p0 q1 r2:List Int), [Zae (.sl 1 (AAa9 zeros)), .d (.sl 1 (cut16 ps i))]= [.d (.sl 1 (AAa9 p0)), .d (.sl 1 (AAa9 q1))]∧(16≤p0.length∧16≤q1.length)∧r2=xorL p0 q1∧
     K .normal (tmEr ps n s (.d (.sl 1 (AAa9 r2))) (Zaa .i64 (Int.tdiv v 2)) (Zaa .i64 (i+1))) [resE,zeroB true] b) False)
   (K .normal (tmEr ps n s refD (Zaa .i64 (Int.tdiv v 2)) (Zaa .i64 (i+1))) [resE,zeroB false] b)) (K (.exit 0) (tmEr ps n s refD v i) [resE,zeroB false] b)):=by kernel_rfl
theorem rB (ps xs:List (List Dv)) (n s v i:Int):wpc prog ⟨TEr, [],wl,y,false⟩ 100 lpEr (tmEr ps n s (.d (.sl 1 xs)) v i) [resE,zeroB true] b (maskT [0,1,2,6,9,10,11] K)=(
 BIf (decide (i<16)) (BIf (Int.tmod v 2==1) (BIf (true&&decide (okCut ps i)) (∃(p0 q1 r2:List Int), [Zae (.sl 1 xs), .d (.sl 1 (cut16 ps i))]= [.d (.sl 1 (AAa9 p0)), .d (.sl 1 (AAa9 q1))]∧(16≤p0.length∧16≤q1.length)∧r2=xorL p0 q1∧
     K .normal (tmEr ps n s (.d (.sl 1 (AAa9 r2))) (Zaa .i64 (Int.tdiv v 2)) (Zaa .i64 (i+1))) [resE,zeroB true] b) False)
   (K .normal (tmEr ps n s (.d (.sl 1 xs)) (Zaa .i64 (Int.tdiv v 2)) (Zaa .i64 (i+1))) [resE,zeroB true] b)) (K (.exit 0) (tmEr ps n s (.d (.sl 1 xs)) v i) [resE,zeroB true] b)):=by kernel_rfl
theorem BDx9 {k:Nat} (h:k<16):lo16 (k:Int)=((16*k:Nat):Int):=by unfold lo16;rw [AAl9 (by omega) (by omega)];omega
theorem BOs9 {k:Nat} (h:k<16):hi16 (k:Int)=((16*k+16:Nat):Int):=by
 have:=BDx9 h
 unfold lo16 at this
 unfold hi16;rw [this,AAl9 (by omega) (by omega)];omega
theorem BFn9 {p:List Int} {k:Nat} (h:k<16):cut16 (AAa9 p) k=AAa9 (blkS p k):=by
 unfold cut16
 rw [BDx9 h,BOs9 h]
 simp only [Zas,AJn9,AEo9]
 unfold blkS
 rw [show 16*k+16 - 16*k=16 by omega]
theorem BDp9 {p:List Int} (hp:p.length=256) {k:Nat} (h:k<16):decide (okCut (AAa9 p) k)=true:=by
 refine decide_eq_true ?_
 unfold okCut
 rw [BDx9 h,BOs9 h,AAh9,hp]
 omega
theorem BHj9 {p:List Int} (hp:p.length=256) {k:Nat} (h:k<16):(blkS p k).length=16:=by simp [blkS];omega
theorem BFk9 {S k:Nat} (hS:S<65536):Zaa .i64 (Int.tdiv ((S / 2 ^ k:Nat):Int) 2)=((S / 2 ^ (k+1):Nat):Int):=by
 have e:Int.tdiv ((S / 2 ^ k:Nat):Int) 2=((S / 2 ^ k / 2:Nat):Int):=rfl
 have e2:S / 2 ^ k / 2=S / 2 ^ (k+1):=by rw [Nat.div_div_eq_div_mul,Nat.pow_succ]
 rw [e,e2]
 have:S / 2 ^ (k+1)≤S:=Nat.div_le_self _ _
 generalize S / 2 ^ (k+1)=q at this ⊢
 exact AAl9 (by omega) (by omega)
theorem BOk9 {S k:Nat}:(Int.tmod ((S / 2 ^ k:Nat):Int) 2==1)=S.testBit k:=by
 have e:Int.tmod ((S / 2 ^ k:Nat):Int) 2=((S / 2 ^ k % 2:Nat):Int):=rfl
 rw [e,Nat.testBit_eq_decide_div_mod_eq,Bool.eq_iff_iff]
 generalize S / 2 ^ k % 2=q
 rw [beq_iff_eq,decide_eq_true_eq]
 omega
theorem BBl9 {p:List Int} {S k:Nat} (hS:S<65536) (o:List Int):stepM p (S:Int) o k=if S.testBit k then xorL o (blkS p k) else o:=by
 unfold stepM
 rw [AHz9 (by omega) (by omega),APy9 (fun i _=>rfl) fun i hi=>(BDq9 p hi).trans (ALu9 hi).symm];rfl
section
variable {Ev:Env prog} {b:Ev.β} {Q:Exit→St Ev.β→Prop} (p:List Int) (n s:Int) (S:Nat) (hp:p.length=256) (hS:S<65536)
include hp hS
theorem wrEB:∀(m k:Nat) (o:List Int),k+m=16→16≤o.length→(∀v:Int,Q (.exit 0) ⟨tmEr (AAa9 p) n s (.d (.sl 1 (AAa9 ((Zch k m).foldl (stepM p (S:Int)) o)))) v 16, [resE,zeroB true],b⟩)→
   WR Ev lpEr (m+1) ⟨tmEr (AAa9 p) n s (.d (.sl 1 (AAa9 o))) ((S / 2 ^ k:Nat):Int) k, [resE,zeroB true],b⟩ Q
 | 0,k,o,hk,ho,hQ=>by
   refine Zbw [0,1,2,6,9,10,11] mixed (CX.Ok.of (u:=false) BNf9 Zac) (k:=100) ?_
   rw [rB]
   obtain rfl:k=16:=by omega
   exact Zct (by simp) (hQ _)
 | m+1,k,o,hk,ho,hQ=>by
   refine Zbw [0,1,2,6,9,10,11] mixed (CX.Ok.of (u:=false) BNf9 Zac) (k:=100) ?_
   have h16:k<16:=by omega
   rw [rB,BOk9,BFn9 h16,BFk9 hS]
   rw [Zdq,Zbv,BBl9 hS] at hQ
   have hbl:=BHj9 hp h16
   rw [AAu9 (n:=16) h16 (by omega)]
   refine Zbf (decide_eq_true (by omega)) (Zaj (fun hb=>Zbf (by rw [BDp9 hp h16];rfl) ⟨o,blkS p k,_,rfl,⟨ho,by omega⟩,rfl, ?_⟩) fun hb=> ?_)
   · rw [hb,if_pos rfl] at hQ
     exact wrEB m (k+1) _ (by omega) (by rw [AKy9];omega) hQ
   · rw [hb,if_neg (by simp)] at hQ
     exact wrEB m (k+1) _ (by omega) ho hQ
theorem wrEA (hS1:1≤S):∀(m k:Nat),k+m=16→S % 2 ^ k=0→(∀v:Int,Q (.exit 0) ⟨tmEr (AAa9 p) n s (.d (.sl 1 (AAa9 ((Zch k m).foldl (stepM p (S:Int)) zeros)))) v 16, [resE,zeroB true],b⟩)→
   WR Ev lpEr (m+1) ⟨tmEr (AAa9 p) n s refD ((S / 2 ^ k:Nat):Int) k, [resE,zeroB false],b⟩ Q
 | 0,k,hk,h0,hQ=>by
   obtain rfl:k=16:=by omega
   rw [Nat.mod_eq_of_lt (by omega)] at h0
   omega
 | m+1,k,hk,h0,hQ=>by
   refine Zbw [0,1,2,6,9,10,11] mixed (CX.Ok.of (u:=false) BNf9 Zac) (k:=100) ?_
   have h16:k<16:=by omega
   rw [rA,BOk9,BFn9 h16,BFk9 hS]
   rw [Zdq,Zbv,BBl9 hS] at hQ
   have hbl:=BHj9 hp h16
   rw [AAu9 (n:=16) h16 (by omega)]
   refine Zbf (decide_eq_true (by omega)) (Zaj (fun hb=>Zbf (by rw [BDp9 hp h16];rfl) ⟨zeros,blkS p k,_,rfl,⟨by decide,by omega⟩,rfl, ?_⟩) fun hb=> ?_)
   · rw [hb,if_pos rfl] at hQ
     exact wrEB p n s S hp hS m (k+1) _ (by omega) (by rw [AKy9];omega) hQ
   · rw [hb,if_neg (by simp)] at hQ
     refine wrEA hS1 m (k+1) (by omega) ?_ hQ
     rw [Nat.testBit_eq_decide_div_mod_eq,decide_eq_false_iff_not] at hb
     have h2:S / 2 ^ k % 2=0:=by omega
     rw [Nat.pow_succ,Nat.mod_mul,h0,h2];rfl
end
def wlEr {β:Type}:WLT β:=fun c tm hp b K=>∃(p:List Int) (n s v:Int) (q:List Int),c= .loop lpEr∧ABb9 [0,1,2,6,9,10,11] 0 tm=tmEr (AAa9 p) n s refD v 0∧hp= [resE,zeroB false]∧(p.length=256∧1≤v∧v<65536∧q=sumB p v)∧
 ∀v:Int,K (.exit 0) (tmEr (AAa9 p) n s (.d (.sl 1 (AAa9 q))) v 16) [resE,zeroB true] b
theorem BXy9 {Ev:Env prog} (c:Code) (tm:List AV) (hp:List Blk) (b:Ev.β) (K:Exit→List AV→List Blk→Ev.β→Prop) (h:wlEr c tm hp b K):W Ev c ⟨tm,hp,b⟩ (fun e s=>K e s.tm s.hp s.b):=by
 obtain ⟨p,n,s,v,q,rfl,htm,rfl,⟨h1,h2,h3,rfl⟩,hK⟩:=h
 refine W.cast (htm▸AAg9 _ tm 0) (Zbt _) ?_
 obtain ⟨S,rfl⟩:∃S:Nat,v=S:=⟨v.toNat,by omega⟩
 have:=wrEA (Q:=fun e s=>K e s.tm s.hp s.b) (b:=b) p n s S h1 (by omega) (by omega) 16 0 rfl (Nat.mod_one _) (fun v=>by
   have e:(Zch 0 16).foldl (stepM p (S:Int)) zeros=sumB p (S:Int):=by unfold sumB;rw [List.range_eq_range'];rfl
   rw [e];exact hK v)
 rw [Nat.pow_zero,Nat.div_one] at this
 exact W.rounds this
abbrev Qz7:List AV:= [Zae (i64 0),Zae (i64 0),Zae (Dv.s (.slice none 0 0)),Zae (Dv.s (.slice none 0 0))]
abbrev Qz19:= [Blk.mk Qz7 false false 0,Blk.mk [Zae (u8 0),Zae (u8 0),Zae (u8 0),Zae (u8 0),Zae (u8 0),Zae (u8 0),Zae (u8 0),Zae (u8 0),Zae (u8 0),Zae (u8 0),Zae (u8 0),Zae (u8 0),Zae (u8 0),Zae (u8 0),Zae (u8 0),Zae (u8 0)] false false 0]
abbrev Qz21 (v0:Int) (v1:Int) (v2:List Int):List AV:= [Zae (i64 v0),Zae (i64 v1),Zae (Zai 1 (AAa9 v2)),Zae (Dv.s (.slice none 0 0))]
def bds:Nat→List AV→List AV|0,l=>l|n+1,l=>AV.bad::bds n l
abbrev Qz43 (v0:Int):=AV.ptr 0 0::AV.bad::AV.bad::AV.ref 1 0 16 16 1::Zae (i64 v0)::Zae (i64 0)::bds 43 []
theorem CCz9 (ps:List (List Dv)) (n s:Int):wpFn prog ⟨TEr, [],wlEr,y,false⟩ 100 f67 [.d (.sl 1 ps), .d (i64 n), .d (i64 s)] b R=(∃(x0:Int), [Zae (i64 s)]= [Zae (i64 x0)]∧BIf (!seedS x0) (R (.tup [AV.agg Qz7,Zae (i64 1)]) b) (BIf (↑(Zab ps) !=(256:Int)) (R (.tup [AV.agg Qz7,Zae (i64 1)]) b) (BIf (decide (n<(0:Int))) (R (.tup [AV.agg Qz7,Zae (i64 1)]) b) (BIf (decide (n>(15:Int))) (R (.tup [AV.agg Qz7,Zae (i64 1)]) b) (∃(x1:Int) (z2:Int), [Zae (i64 s)]= [Zae (i64 x1)]∧z2=setS x1∧∃(p3:List Int) (n4:Int) (s5:Int) (v6:Int) (q7:List Int),Zax lpEr=Zax lpEr∧(Zae (Zai 1 ps)::Zae (i64 n)::Zae (i64 s)::bds 3 (Qz43 z2))=(Zae (Zai 1 (AAa9 p3))::Zae (i64 n4)::Zae (i64 s5)::bds 3 (Qz43 v6))∧Qz19=Qz19∧(Zab p3=256∧(1:Int)≤v6∧v6<(65536:Int)∧q7=sumB p3 v6)∧∀(v:Int),R (.tup [AV.agg (Qz21 n4 s5 q7),Zae (i64 0)]) b))))):=by kernel_rfl
theorem BZe9 (n s:Int) (d pr:List (List Dv)):wpFn prog ⟨[(104,cSeed)], [],wl,y,false⟩ 100 f54 [recA n s d pr] b R=(∃(x0:Int), [Zae (i64 s)]= [Zae (i64 x0)]∧BIf (seedS x0) (BIf (decide (n≥(0:Int))) (BIf (decide (n<(16:Int))) (R (.d (bo (↑(Zab d)==(16:Int)))) b) (R (.d (bo false)) b)) (R (.d (bo false)) b)) (R (.d (bo false)) b)):=by kernel_rfl
def valS (n s:Int) (k:Nat):Bool:=pageS n&&seedS s&&decide (k=16)
theorem BDd9 (n s:Int) (d pr:List (List Dv)):PCall prog 54 [recA n s d pr] (.d (bo (valS n s d.length))):=by
 refine Zaz (n:=100) (u:=false) mixed (T:= [(104,cSeed)]) (Zaf AKr9 Zah) Zac func54 (by rfl) (by rfl) fun Ev bb=> ?_
 rw [BZe9]
 refine ⟨s,rfl,Zaj (fun h1=>Zaj (fun h2=>Zaj (fun h3=> ?_) fun h3=> ?_) fun h2=> ?_) fun h1=> ?_⟩
 · have e:((d.length:Int)==16)=decide (d.length=16):=by rw [Bool.eq_iff_iff,beq_iff_eq,decide_eq_true_eq];omega
   have e2:pageS n=true:=by simp at h2 h3;simp [pageS];omega
   rw [e,valS,h1,e2];simp
 · have e2:pageS n=false:=by simp at h2 h3;simp [pageS];omega
   rw [valS,e2];simp
 · have e2:pageS n=false:=by simp at h2;simp [pageS];omega
   rw [valS,e2];simp
 · rw [valS,h1];simp
def BOx9 (args:List AV) (K:AV→Prop):Prop:=∃(n s:Int) (d pr:List (List Dv)) (z:Bool),args= [recA n s d pr]∧z=valS n s d.length∧K (.d (bo z))
theorem BFt9:∀args K,BOx9 args K→∃x,PCall prog 54 args x∧K x:=by
 rintro _ K ⟨n,s,d,pr,_,rfl,rfl,h⟩;exact ⟨_,BDd9 n s d pr,h⟩
def TRr:List (Nat×(List AV→(AV→Prop)→Prop)):= [(54,BOx9),(130,cSetR),(129,c13)]
theorem CKz9:AAf9 prog TRr:=Zaf BFt9 (Zaf BFz9 (Zaf CKo9 Zah))
theorem BZy9 (xs ys pr:List (List Dv)) (n s:Int):wpFn prog ⟨TRr, [],wl,y,false⟩ 100 f57 [.d (.sl 2 xs),recA n s ys pr] b R=(∃(n0:Int) (s1:Int) (d2:List (List Dv)) (pr3:List (List Dv)) (z4:Bool), [AV.agg [Zae (i64 n),Zae (i64 s),Zae (Zai 1 ys),Zae (Zai 1 pr)]]= [AV.agg [Zae (i64 n0),Zae (i64 s1),Zae (Zai 1 d2),Zae (Zai 1 pr3)]]∧z4=valS n0 s1 (Zab d2)∧BIf (!z4) (R (.tup [Zae (Dv.s (.slice none 0 0)),Zae (bo false),Zae (i64 1)]) b) (∃(x5:Int) (z6:Int), [Zae (i64 s)]= [Zae (i64 x5)]∧z6=setS x5∧∃(l7:List Row) (m8:Int) (b9:List Int) (x10:List Row×Bool×Int), [Zae (Zai 2 xs),AV.agg [Zae (i64 z6),Zae (Zai 1 ys)]]= [Zae (Zai 2 (rowsR l7)),AV.agg [Zae (i64 m8),Zae (Zai 1 (AAa9 b9))]]∧(Zab l7≤1000∧∀(r:Row),r∈l7→Zab (Prod.snd r)≤1000)∧x10=addS l7 m8 b9∧R (.tup [Zae (Zai 2 (rowsR (Prod.fst x10))),Zae (bo (Prod.fst (Prod.snd x10))),Zae (i64 (Prod.snd (Prod.snd x10)))]) b)):=by kernel_rfl
theorem BDg9 (l:List Row) (n s:Int) (d:List Int) (pr:List (List Dv)) (hl:ACf9 l):PCall prog 57 [.d (.sl 2 (rowsR l)),recA n s (AAa9 d) pr] (addR (recS l n s d)):=by
 refine PCall.ofFnL (n:=100) (u:=false) (fun _=>fun _ _ _ _ _=>False) mixed CKz9 Zac (fun Ev _ _ _ _ _ h=>h.elim) func57 (by rfl) (by rfl) fun Ev bb=> ?_
 rw [BZy9]
 refine ⟨n,s,_,pr,_,rfl,rfl,Zaj (fun h1=> ?_) fun h1=> ?_⟩
 · rw [recS,if_neg (by rw [AAh9] at h1;rw [show recOk n s d=valS n s d.length from rfl];simpa using h1)];exact ANa9 _ _
 · rw [recS,if_pos (by rw [AAh9] at h1;rw [show recOk n s d=valS n s d.length from rfl];simpa using h1)]
   exact ⟨s,_,rfl,rfl,l,_,d,_,rfl,hl,rfl, .rfl⟩
noncomputable def lpPr:Code:=sub [1,1,1,1,0,1,2,3] (code f59)
def tmPr (l:List (List Dv)) (acc:AV) (i:Int):List AV:= [.d (.sl 2 l), .bad, .bad, .bad, .bad,acc, .d (i64 i)]++Zag 21 .bad
def TPr:List (Nat×(List AV→(AV→Prop)→Prop)):= [(81,c21)]
theorem BWx9:AAf9 prog TPr:=Zaf BWj9 Zah
theorem rPr (l xs:List (List Dv)) (i:Int):wpc prog ⟨TPr, [],wl,y,false⟩ 100 lpPr (tmPr l (.own 5 1 xs) i) [] b (maskK 0 [0,5,6] K)=(
 BIf (decide (i≥0)) (BIf (true&&decide (0≤i)) (∃(x0:Int) (xs1:List (List Dv)),l[Zam i]? =some [i64 x0, .sl 1 xs1]∧BIf (true&&decide ((xs.length+xs1.length)*1≤140737488355328)) (K .normal (tmPr l (.own 5 1 (xs++xs1)) (Zaa .i64 (i - 1))) [] b) False) False)
   (K (.exit 0) (tmPr l (.own 5 1 xs) i) [] b)):=by kernel_rfl
theorem BQz9 {l:List Row} {k:Nat} (h:k<l.length):l.take (k+1)=l.take k++ [l[k]]:=by rw [List.take_add_one];simp [h]
theorem wrPr {Ev:Env prog} {b:Ev.β} {Q:Exit→St Ev.β→Prop} (l:List Row) (hl:l.length=16) (hr:∀r∈l,r.2.length=16):∀(k:Nat) (q:List Int),k≤16→q.length+16*k≤1000→
   Q (.exit 0) ⟨tmPr (rowsR l) (.own 5 1 (AAa9 (q++(l.take k).reverse.flatMap (·.2)))) (-1), [],b⟩→WR Ev lpPr (k+1) ⟨tmPr (rowsR l) (.own 5 1 (AAa9 q)) ((k:Int) - 1), [],b⟩ Q
 | 0,q,hk,hq,hQ=>by
   refine Zcn [0,5,6] mixed (CX.Ok.of (u:=false) BWx9 Zac) (k:=100) ?_
   show wpc _ _ _ _ _ _ _ (maskK 0 _ _)
   rw [rPr]
   refine Zct (by simp) ?_
   rw [List.take_zero,List.reverse_nil,List.flatMap_nil,Zef] at hQ
   exact hQ
 | k+1,q,hk,hq,hQ=>by
   refine Zcn [0,5,6] mixed (CX.Ok.of (u:=false) BWx9 Zac) (k:=100) ?_
   show wpc _ _ _ _ _ _ _ (maskK 0 _ _)
   rw [rPr]
   have e:((k+1:Nat):Int) - 1=(k:Int):=by omega
   have hk':k<l.length:=by omega
   have hlen:=hr l[k] (List.getElem_mem hk')
   rw [e,AAl9 (by omega) (by omega)]
   refine Zbf (by simp) (Zbf (by simp) ⟨(l[k]).1,AAa9 (l[k]).2,by simp [rowsR,hk'];rfl,Zbf (by simp [AAh9];omega) ?_⟩)
   rw [←ATf9]
   refine wrPr l hl hr k _ (by omega) (by simp;omega) ?_
   have e2:(q++(l[k]).2)++(l.take k).reverse.flatMap (·.2)=q++(l.take (k+1)).reverse.flatMap (·.2):=by rw [BQz9 hk',List.reverse_append];simp [List.flatMap_cons,List.append_assoc]
   rw [e2];exact hQ
def wlPr {β:Type}:WLT β:=fun c tm hp b K=>∃(l:List Row) (q:List Int),c= .loop lpPr∧ABb9 [0,5,6] 0 tm=tmPr (rowsR l) (.d (.s (.slice none 0 0))) 15∧hp= []∧(l.length=16∧(∀r∈l,r.2.length=16)∧q=l.reverse.flatMap (·.2))∧K (.exit 0) (tmPr (rowsR l) (.own 5 1 (AAa9 q)) (-1)) [] b
theorem BXt9 {Ev:Env prog} (c:Code) (tm:List AV) (hp:List Blk) (b:Ev.β) (K:Exit→List AV→List Blk→Ev.β→Prop) (h:wlPr c tm hp b K):W Ev c ⟨tm,hp,b⟩ (fun e s=>K e s.tm s.hp s.b):=by
 obtain ⟨l,q,rfl,htm,rfl,⟨h1,h2,rfl⟩,hK⟩:=h
 refine W.cast (htm▸AAg9 _ tm 0) (Zbt _) ?_
 refine W.cast (tm':=tmPr (rowsR l) (.own 5 1 (AAa9 [])) 15) (LeL.at [_,_,_,_,_] _ (LeA.nilOwn rfl)) (Zbt _) ?_
 refine W.rounds (wrPr (Q:=fun e s=>K e s.tm s.hp s.b) l h1 h2 16 [] (Nat.le_refl _) (by decide) ?_)
 rw [List.take_of_length_le (by omega)];exact hK
abbrev Qz40:List AV:= [Zae (Dv.s (.slice none 0 0)),Zae (bo false)]
theorem BTv9 (l:List (List Dv)):wpFn prog ⟨TPr, [],wlPr,y,false⟩ 100 f59 [.d (.sl 2 l)] b R=(∃(l0:List Row), [Zae (Zai 2 l)]= [Zae (Zai 2 (rowsR l0))]∧Zab l0≤9223372036854775807∧BIf (!AHh9 l0) (R (.tup Qz40) b) (BIf (↑(Zab l) !=(16:Int)) (R (.tup Qz40) b) (∃(l1:List Row) (q2:List Int),Zax lpPr=Zax lpPr∧(Zae (Zai 2 l)::bds 4 (Zae (Dv.s (.slice none 0 0))::Zae (i64 15)::bds 21 []))=(Zae (Zai 2 (rowsR l1))::bds 4 (Zae (Dv.s (.slice none 0 0))::Zae (i64 15)::bds 21 []))∧([]:List Blk)= []∧(Zab l1=16∧(∀(r:Row),r∈l1→Zab (Prod.snd r)=16)∧q2=List.flatMap (fun (x3:Row)=>Prod.snd x3) (List.reverse l1))∧R (.tup [Zae (Zai 1 (AAa9 q2)),Zae (bo true)]) b))):=by kernel_rfl
theorem BFa9:∀ {l:List Row} {n:Nat},(l.Pairwise fun a b=>top b.1<top a.1)→(∀r∈l,top r.1<n)→l.length=n→∀(j:Nat) (r:Row),l[j]? =some r→top r.1+j+1=n
 | [],n,_,_,_,j,r,h=>by simp at h
 | a::l,n,hp,hn,hl,j,r,h=>by
   obtain ⟨h1,h2⟩:=Zca.1 hp
   have h3:=(AKo9 (l:=l) (n:=top a.1) h2 fun s hs=>h1 s hs).1
   have h4:=hn a (Zay ..)
   simp only [List.length_cons] at hl
   have h5:top a.1+1=n:=by omega
   cases j with
   |zero=>simp at h;subst h;omega
   | succ j=>
     have:=BFa9 (n:=top a.1) h2 (fun s hs=>h1 s hs) (by omega) j r (by simpa using h)
     omega
theorem AWw9 (f:Nat→List Int):∀(m:List Row) (k:Nat),(∀(i:Nat) (r:Row),m[i]? =some r→r.2=f (k+i))→m.flatMap (·.2)=(Zch k m.length).flatMap f
 | [],k,_=>rfl
 | r::m,k,h=>by
   rw [List.flatMap_cons,List.length_cons,Zdq,List.flatMap_cons,AWw9 f m (k+1) fun i s hs=>by rw [h (i+1) s (by simpa using hs)];congr 1;omega]
   rw [h 0 r rfl,Nat.add_zero]
theorem BIn9 {l:List Row} (hg:Good l) (hl:l.length=16) {j:Nat} {r:Row} (h:l[j]? =some r):AAy9 l ((15 - j:Nat):Int)=(r.2,true):=by
 have hm:=Zbh h
 have ht:=BFa9 hg.falls (fun r hr=>BQy9 (hg.mask r hr).1 (hg.mask r hr).2) hl j r h
 have hi:15 - j<16:=by omega
 have hv:=(ABy9 l).2 hg
 obtain ⟨r',hr',he⟩:=hg.full hl hi
 have hrr:r=r':=hg.uniq hm hr' (by rw [he,AVo9];omega)
 subst hrr
 unfold AAy9
 rw [decide_eq_false (by omega),decide_eq_false (by omega),hv,AIp9 hg hm hi he]
 have h16:=hg.len16 r hm
 have:AGh9 l ((15 - j:Nat):Int)=r.2:=by
   unfold AGh9
   rw [AIp9 hg hm hi he]
   show b16 (pad r.2)=r.2
   rw [pad16 h16,AUz9 h16]
 rw [this];rfl
theorem ARe9 {l:List Row} (hg:Good l) (hl:l.length=16):ACi9 l=(l.reverse.flatMap (·.2),true):=by
 have key:∀(i:Nat) (r:Row),l.reverse[i]? =some r→AAy9 l ((i:Nat):Int)=(r.2,true):=by
   intro i r h
   have hi:i<16:=by have:=(Zad.1 h).1;simp at this;omega
   rw [List.getElem?_reverse (by omega)] at h
   have:=BIn9 hg hl h
   rw [show 15 - (l.length - 1 - i)=i by omega] at this
   exact this
 have hall:∀i:Nat,i<16→(AAy9 l (i:Int)).2=true:=fun i hi=>by
   have:i<l.reverse.length:=by simp;omega
   rw [key i _ (Zbk this)]
 rw [AKl9,if_pos (Zbm.2 fun i hi=>hall i (by simp [Zdo] at hi;omega))]
 have:=AWw9 (fun i:Nat=>(AAy9 l (i:Int)).1) l.reverse 0 fun i r h=>by rw [Nat.zero_add,key i r h]
 rw [this]
 simp [hl]
theorem APe9 {l:List Row} (h:¬(Good l∧l.length=16)):ACi9 l=([],false):=by
 rw [AKl9,if_neg]
 intro hh
 have hall:∀i:Nat,i<16→(AAy9 l (i:Int)).2=true:=fun i hi=>Zbm.1 hh i (by simp [Zdo];omega)
 have hg:Good l:=by
   rw [←ABy9]
   cases hv:ADy9 l with
   |true=>rfl
   | false=>
     have:=hall 0 (by omega)
     unfold AAy9 at this
     rw [hv] at this
     simp at this
 have h1:=AIr9 16 hg.falls fun i hi=>ALi9 i hi (hall i hi)
 have h2:=hg.len
 exact h ⟨hg,by omega⟩
theorem CBa9 (l:List Row) (hl:l.length≤9223372036854775807):PCall prog 59 [.d (.sl 2 (rowsR l))] (BMu9 (ACi9 l)):=by
 refine PCall.ofFnL (n:=100) (u:=false) (fun _=>wlPr) mixed BWx9 Zac (fun Ev=>BXt9) func59 (by rfl) (by rfl) fun Ev bb=> ?_
 rw [BTv9]
 have hlen:(rowsR l).length=l.length:=by simp [rowsR]
 rw [hlen]
 refine ⟨l,rfl,hl,Zaj (fun h1=> ?_) fun h1=>Zaj (fun h2=> ?_) fun h2=> ?_⟩
 · rw [APe9 fun hh=>by rw [(AEg9 l).2 hh.1] at h1;cases h1];exact AJt9 _
 · rw [APe9 fun hh=>by rw [hh.2] at h2;simp at h2];exact AJt9 _
 · have hg:Good l:=(AEg9 l).1 (by simpa using h1)
   have h16:l.length=16:=by simp at h2;omega
   refine ⟨l,_,rfl,rfl,rfl,⟨h16,hg.len16,rfl⟩, ?_⟩
   rw [ARe9 hg h16];exact .rfl
def stepS (n w:Int):Int:=Zaa .u64 (Zaa .u64 ((Zar 64 n ^^^ Zar 64 w).toNat:Int)*1099511628211)
theorem BZm9 (n w:Int):wpFn prog ⟨[], [],wl,y,false⟩ 100 f213 [.d (u64 n), .d (u64 w)] b R=R (.d (u64 (stepS n w))) b:=by kernel_rfl
theorem BQm9 (xs:List (List Dv)):wpFn prog ⟨[], [],wl,y,false⟩ 100 f212 [.full 1 xs] b R=R (.fn (.func 229) [] [.rptr [.sl 1 xs]]) b:=by kernel_rfl
theorem CGd9 (n w:Int):PCall prog 213 [.d (u64 n), .d (u64 w)] (.d (u64 (stepS n w))):=by
 refine Zaz (n:=100) (u:=false) mixed Zah Zac func213 (by rfl) (by rfl) fun Ev bb=> ?_
 rw [BZm9]
def cStep (args:List AV) (K:AV→Prop):Prop:=∃(n w z:Int),args= [.d (u64 n), .d (u64 w)]∧z=stepS n w∧K (.d (u64 z))
theorem BFx9:∀args K,cStep args K→∃x,PCall prog 213 args x∧K x:=by
 rintro _ K ⟨n,w,_,rfl,rfl,h⟩;exact ⟨_,CGd9 n w,h⟩
theorem CAf9 (xs:List (List Dv)):PCall prog 212 [.full 1 xs] (.fn (.func 229) [] [.rptr [.sl 1 xs]]):=by
 refine Zaz (n:=100) (u:=false) mixed Zah Zac func212 (by rfl) (by rfl) fun Ev bb=> ?_
 rw [BQm9]
def CDd9 (args:List AV) (K:AV→Prop):Prop:=∃(p:List (List Dv)),args= [.full 1 [[.sl 1 p]]]∧K (.fn (.func 229) [] [.rptr [.sl 1 [[.sl 1 p]]]])
theorem BLt9:∀args K,CDd9 args K→∃x,PCall prog 212 args x∧K x:=by
 rintro _ K ⟨p,rfl,h⟩;exact ⟨_,CAf9 _,h⟩
def itemW (c:Int):List AV:= [.d (u64 (Zaa .u64 c))]
noncomputable def lpWb:Code:=sub [1,2,3,1,1,0,2,1,1,2,3] (code f229)
def tmWb (n:Int) (i:Int) (p:List (List Dv)) (m k:Int) (rows:List (List Dv)):List AV:= [.yl, .bad, .bad, .bad, .bad, .bad, .bad, .d (.sl 1 rows), .d (i64 n), .d (i64 i), .bad, .bad, .bad, .d (.sl 1 p), .d (i64 m), .d (i64 k)]++Zag 10 .bad
noncomputable def lpWa:Code:=sub [1,2,3] (code f229)
def tmWa (n:Int) (i:Int) (rows:List (List Dv)):List AV:= [.yl, .bad, .bad, .bad, .bad, .bad, .bad, .d (.sl 1 rows), .d (i64 n), .d (i64 i)]++Zag 16 .bad
theorem BAy9 (n i m k:Int) (p rows:List (List Dv)):wpc prog ⟨[], [],wl,y,false⟩ 100 lpWb (tmWb n i p m k rows) [] b (maskT [0,7,8,9,13,14,15] K)=(
 BIf (decide (k<m)) (BIf (true&&decide (0≤k)) (∃(x0:Int),p[Zam k]? =some [u8 x0]∧y b (itemW x0) fun (c:Bool) (b4:β)=>BIf (!c) (K .ret (tmWb n i p m k rows) [] b4) (K .normal (tmWb n i p m (Zaa .i64 (k+1)) rows) [] b4)) False) (K (.exit 2) (tmWb n i p m k rows) [] b)):=by kernel_rfl
def wlWb {β:Type} (y:ABr9 β):WLT β:=fun c tm hp b K=>∃(n i:Int) (p:List Int) (rows:List (List Dv)),c= .loop lpWb∧ABb9 [0,7,8,9,13,14,15] 0 tm=tmWb n i (AAa9 p) (AAa9 p).length 0 rows∧hp= []∧p.length≤9223372036854775807∧
 YList y (p.map itemW) b fun b'=>∀k:Int,K (.exit 2) (tmWb n i (AAa9 p) (AAa9 p).length k rows) [] b'∧K .ret (tmWb n i (AAa9 p) (AAa9 p).length k rows) [] b'
theorem wrWb {Ev:Env prog} {Q:Exit→St Ev.β→Prop} (n i:Int) (p:List Int) (rows:List (List Dv)) (hl:p.length≤9223372036854775807):∀(rest:List Int) (k:Nat) (b:Ev.β),p.drop k=rest→k≤p.length→
   (YList Ev.Y (rest.map itemW) b fun b'=>∀k:Int,Q (.exit 2) ⟨tmWb n i (AAa9 p) (AAa9 p).length k rows, [],b'⟩∧Q .ret ⟨tmWb n i (AAa9 p) (AAa9 p).length k rows, [],b'⟩)→WR Ev lpWb (rest.length+1) ⟨tmWb n i (AAa9 p) (AAa9 p).length k rows, [],b⟩ Q
 | [],k,b,hd,hk,h=>by
   refine Zbw [0,7,8,9,13,14,15] mixed (CX.Ok.of (u:=false) Zah Zac) (k:=100) ?_
   rw [BAy9]
   have:=ABm9 hd
   exact Zct (by simp [AAh9];omega) (h _).1
 | z::rest,k,b,hd,hk,h=>by
   refine Zbw [0,7,8,9,13,14,15] mixed (CX.Ok.of (u:=false) Zah Zac) (k:=100) ?_
   rw [BAy9]
   obtain ⟨hk',hr,hd'⟩:=AAw9 hd
   refine Zbf (by simp [AAh9];omega) (Zbf (by simp) ⟨z,by simp [AAa9,hr], ?_⟩)
   rw [Zcz] at h
   refine Ev.Ymono h fun c b' h=> ?_
   cases c with
   | true=>
     refine Zct rfl ?_
     rw [AAu9 hk' hl]
     exact wrWb n i p rows hl rest (k+1) b' hd' hk' h
   |false=>exact Zbf rfl (h _).2
theorem BNp9 {Ev:Env prog} (c:Code) (tm:List AV) (hp:List Blk) (b:Ev.β) (K:Exit→List AV→List Blk→Ev.β→Prop) (h:wlWb Ev.Y c tm hp b K):W Ev c ⟨tm,hp,b⟩ (fun e s=>K e s.tm s.hp s.b):=by
 obtain ⟨n,i,p,rows,rfl,htm,rfl,hl,hK⟩:=h
 refine W.cast (htm▸AAg9 _ tm 0) (Zbt _) ?_
 exact W.rounds (wrWb (Q:=fun e s=>K e s.tm s.hp s.b) n i p rows hl p 0 b rfl (Zdb _) hK)
section
variable {β:Type} (y:ABr9 β) (b:β) (K:Exit→List AV→List Blk→β→Prop)
theorem BAz9 (n i:Int) (rows:List (List Dv)):wpc prog ⟨[], [],wlWb y,y,false⟩ 100 lpWa (tmWa n i rows) [] b (maskT [0,7,8,9] K)=(
 BIf (decide (i<n)) (BIf (true&&decide (0≤i)) (∃(xs0:List (List Dv)),rows[Zam i]? =some [Zai 1 xs0]∧∃(n' i':Int) (p:List Int) (rows':List (List Dv)),Zax lpWb= .loop lpWb∧tmWb n i xs0 xs0.length 0 rows=tmWb n' i' (AAa9 p) (AAa9 p).length 0 rows'∧([]:List Blk)= []∧p.length≤9223372036854775807∧
   YList y (p.map itemW) b fun b'=>∀k:Int,K .normal (tmWa n' (Zaa .i64 (i'+1)) rows') [] b'∧K .ret (tmWa n' i' rows') [] b') False)
  (K (.exit 0) (tmWa n i rows) [] b)):=by kernel_rfl
def wlWa {β:Type} (y:ABr9 β):WLT β:=fun c tm hp b K=>∃(p:List Int),c= .loop lpWa∧ABb9 [0,7,8,9] 0 tm=tmWa 1 0 [[.sl 1 (AAa9 p)]]∧hp= []∧p.length≤9223372036854775807∧
 YList y (p.map itemW) b fun b'=>∀i:Int,K (.exit 0) (tmWa 1 i [[.sl 1 (AAa9 p)]]) [] b'∧K .ret (tmWa 1 i [[.sl 1 (AAa9 p)]]) [] b'
end
set_option maxRecDepth 100000 in
theorem BXk9 {Ev:Env prog} (c:Code) (tm:List AV) (hp:List Blk) (b:Ev.β) (K:Exit→List AV→List Blk→Ev.β→Prop) (h:wlWa Ev.Y c tm hp b K):W Ev c ⟨tm,hp,b⟩ (fun e s=>K e s.tm s.hp s.b):=by
 obtain ⟨p,rfl,htm,rfl,hl,hK⟩:=h
 refine W.cast (htm▸AAg9 _ tm 0) (Zbt _) ?_
 refine W.rounds (m:=2) ?_
 refine Zbw [0,7,8,9] mixed (CX.Ok.ofWl (u:=false) Zah Zac BNp9) (k:=100) ?_
 rw [BAz9]
 refine Zbf (by decide) (Zbf (by decide) ⟨AAa9 p,rfl,1,0,p, [[.sl 1 (AAa9 p)]],rfl,rfl,rfl,hl, ?_⟩)
 refine YList.mono (fun b' h k=>⟨?_,(h _).2⟩) _ _ hK
 show WR Ev lpWa 1 _ _
 refine Zbw [0,7,8,9] mixed (CX.Ok.ofWl (u:=false) Zah Zac BNp9) (k:=100) ?_
 rw [BAz9]
 exact Zct (by decide) (h _).1
theorem CIn9 (xs:List (List Dv)):wpc prog ⟨[], [],wlWa y,y,false⟩ 100 (code f229) (ABc9 f229 [.yl, .rptr [.sl 1 xs]]) [] b (fnK prog f229 fun _ b=>Q b)=(
 ∃p:List Int,Zax lpWa= .loop lpWa∧tmWa xs.length 0 xs=tmWa 1 0 [[.sl 1 (AAa9 p)]]∧([]:List Blk)= []∧p.length≤9223372036854775807∧YList y (p.map itemW) b fun b'=>∀_:Int,Q b'∧Q b'):=by kernel_rfl
set_option maxRecDepth 100000 in
theorem ic94 (p:List Int) (hl:p.length≤9223372036854775807):ICall prog 229 [.yl, .rptr [.sl 1 [[.sl 1 (AAa9 p)]]]] (fun Y b Q=>YList Y (p.map itemW) b Q):=by
 refine ICall.ofW (c:=code f229) func229 rfl rfl fun Ev b Q h=> ?_
 have h1:wpc prog ⟨[], [],wlWa Ev.Y,Ev.Y,false⟩ 100 (code f229) (ABc9 f229 [.yl, .rptr [.sl 1 [[.sl 1 (AAa9 p)]]]]) [] b (fnK prog f229 fun _ b=>Q b):=by
   rw [CIn9]
   exact ⟨p,rfl,rfl,rfl,hl,YList.mono (fun b h _=>⟨h,h⟩) _ _ h⟩
 refine AAr9 mixed (CX.Ok.ofWl (wl:=wlWa Ev.Y) (u:=false) Zah Zac BXk9) h1 fun e tm hp b hK=> ?_
 obtain ⟨g1,ys,g2,z,g3,g4⟩:=ACu9 hK
 exact ⟨g1,ys,g2,g4⟩
def addB (s:Int) (p:List Int):Int:=p.foldl (fun s c=>stepS s (Zaa .u64 c)) s
def TAdd:List (Nat×(List AV→(AV→Prop)→Prop)):= [(213,cStep),(212,CDd9)]
theorem BQa9:AAf9 prog TAdd:=Zaf BFx9 (Zaf BLt9 Zah)
noncomputable def rf87:Code:=sub [1,1,0,1,2] (code f174)
theorem BBz9:rf87= .rangeFunc (.tmp 10) #[11] (AAq9 rf87) (ABu9 rf87):=by kernel_rfl
def cellQ (x:Int):Blk:=⟨[.d (u64 x)],false,false,0⟩
def tmAd (p:List (List Dv)):List AV:= [.bad, .bad, .bad, .bad, .bad, .ptr 0 0, .bad, .bad, .bad, .bad, .fn (.func 229) [] [.rptr [.sl 1 [[.sl 1 p]]]], .bad, .bad, .bad, .bad, .bad]
theorem BWs9 (p:List (List Dv)) (w s:Int):wpcY prog ⟨TAdd, [],wl,y,false⟩ 100 #[11] (AAq9 rf87) (ABu9 rf87) (tmAd p) [.d (u64 w)] [cellQ s] b (takeK 1 Kh)=(
 ∃(n0 w1 z2:Int), [Zae (u64 s), .d (u64 w)]= [.d (u64 n0), .d (u64 w1)]∧z2=stepS n0 w1∧Kh .normal [cellQ z2] b):=by kernel_rfl
theorem BOd9 {Ev:Env prog} {b:Ev.β} {Q:Exit→St Ev.β→Prop} (p:List (List Dv)):∀(l:List Int) (s:Int),Q .normal ⟨tmAd p, [cellQ (addB s l)],b⟩→
   YList (YBody Ev (tmAd p) #[11] (AAq9 rf87) (ABu9 rf87) 1) (l.map itemW) ([cellQ s],b,none) (ADt9 (tmAd p) Q)
 | [],s,h=>h
 | c::l,s,h=>by
   refine YList.step (X:=⟨TAdd, [],wlW Ev,Ev.Y,false⟩) (k:=100) mixed (CX.Ok.of BQa9 Zac) rfl ?_
   show wpcY _ _ _ _ _ _ _ [.d (u64 _)] [cellQ _] b (takeK 1 _)
   rw [BWs9]
   exact ⟨s,_,_,rfl,rfl,BOd9 p l _ h⟩
def wlAd {β:Type}:WLT β:=fun c tm hp b K=>∃(p:List Int) (s z:Int),c=rf87∧ABb9 [5,10] 0 tm=tmAd (AAa9 p)∧hp= [cellQ s]∧(p.length≤9223372036854775807∧z=addB s p)∧K .normal (tmAd (AAa9 p)) [cellQ z] b
theorem BYb9 {Ev:Env prog} (c:Code) (tm:List AV) (hp:List Blk) (b:Ev.β) (K:Exit→List AV→List Blk→Ev.β→Prop) (h:wlAd c tm hp b K):W Ev c ⟨tm,hp,b⟩ (fun e s=>K e s.tm s.hp s.b):=by
 obtain ⟨p,s,z,rfl,htm,rfl,⟨hl,rfl⟩,hK⟩:=h
 refine W.cast (htm▸AAg9 _ tm 0) (Zbt _) ?_
 rw [BBz9]
 exact W.range (s:=⟨tmAd (AAa9 p),_,b⟩) (k:=229) (first:= []) (caps:= [.rptr [.sl 1 [[.sl 1 (AAa9 p)]]]]) rfl rfl rfl (ic94 p hl) (BOd9 (AAa9 p) p s hK)
theorem CKr9 (s:Int) (xs:List (List Dv)):wpFn prog ⟨TAdd, [],wlAd,y,false⟩ 100 f174 [.d (u64 s), .d (.sl 1 xs)] b R=(
 ∃(p0:List (List Dv)), [AV.full 1 [[.sl 1 xs]]]= [.full 1 [[.sl 1 p0]]]∧∃(p:List Int) (s1 z:Int),rf87=rf87∧tmAd p0=tmAd (AAa9 p)∧ [cellQ s]= [cellQ s1]∧(p.length≤9223372036854775807∧z=addB s1 p)∧R (.d (u64 z)) b):=by kernel_rfl
theorem pcAdd (s:Int) (p:List Int) (hl:p.length≤9223372036854775807):PCall prog 174 [.d (u64 s), .d (.sl 1 (AAa9 p))] (.d (u64 (addB s p))):=by
 refine Zcd (n:=100) (u:=false) (fun _=>wlAd) mixed BQa9 Zac (fun Ev=>BYb9) func174 (by rfl) (by rfl) fun Ev bb=> ?_
 rw [CKr9]
 exact ⟨_,rfl,p,s,_,rfl,rfl,rfl,⟨hl,rfl⟩,rfl⟩
def cAdd (args:List AV) (K:AV→Prop):Prop:=∃(s:Int) (p:List Int) (z:Int),args= [.d (u64 s), .d (.sl 1 (AAa9 p))]∧(p.length≤9223372036854775807∧z=addB s p)∧K (.d (u64 z))
theorem BPt9:∀args K,cAdd args K→∃x,PCall prog 174 args x∧K x:=by
 rintro _ K ⟨s,p,_,rfl,⟨hl,rfl⟩,h⟩;exact ⟨_,pcAdd s p hl,h⟩
def cAddF (args:List AV) (K:AV→Prop):Prop:=match args with
 | [_, .full _ _]=>∃(s:Int) (p:List Int) (z:Int),args= [.d (u64 s), .full 1 (AAa9 p)]∧(p.length≤9223372036854775807∧z=addB s p)∧K (.d (u64 z))
 |_=>cAdd args K
theorem BWg9:∀args K,cAddF args K→∃x,PCall prog 174 args x∧K x:=by
 intro args K h
 unfold cAddF at h
 split at h
 · obtain ⟨s,p,_,e,⟨hl,rfl⟩,h⟩:=h
   rw [e]
   exact ⟨_,PCall.leArgsV (.cons .rfl (.cons .full .nil)) (pcAdd s p hl),h⟩
 · exact BPt9 _ _ h
def AUy9:Int:=14695981039346656037
def TSum:List (Nat×(List AV→(AV→Prop)→Prop)):= [(174,cAddF),(213,cStep)]
theorem BPx9:AAf9 prog TSum:=Zaf BWg9 (Zaf BFx9 Zah)
theorem CFs9 (xs:List (List Dv)):wpFn prog ⟨TSum, [],wl,y,false⟩ 100 f175 [.full 1 xs] b R=(∃(s0:Int) (p1:List Int) (z2:Int), [Zae (u64 14695981039346656037),AV.full 1 xs]= [Zae (u64 s0),AV.full 1 (AAa9 p1)]∧(Zab p1≤9223372036854775807∧z2=addB s0 p1)∧R (.d (u64 z2)) b):=by kernel_rfl
theorem CBo9 (s w:Int):wpFn prog ⟨TSum, [],wl,y,false⟩ 100 f194 [.d (u64 s), .d (u64 w)] b R=(∃(n0:Int) (w1:Int) (z2:Int), [Zae (u64 3750763034362895578),Zae (u64 s)]= [Zae (u64 n0),Zae (u64 w1)]∧z2=stepS n0 w1∧∃(n3:Int) (w4:Int) (z5:Int), [Zae (u64 z2),Zae (u64 w)]= [Zae (u64 n3),Zae (u64 w4)]∧z5=stepS n3 w4∧R (.d (u64 z5)) b):=by kernel_rfl
theorem pcSum (p:List Int) (hl:p.length≤9223372036854775807):PCall prog 175 [.full 1 (AAa9 p)] (.d (u64 (addB AUy9 p))):=by
 refine Zaz (n:=100) (u:=false) mixed BPx9 Zac func175 (by rfl) (by rfl) fun Ev bb=> ?_
 rw [CFs9]
 exact ⟨_,p,_,rfl,⟨hl,rfl⟩,rfl⟩
def cSum (args:List AV) (K:AV→Prop):Prop:=∃(p:List Int) (z:Int),args= [.full 1 (AAa9 p)]∧(p.length≤9223372036854775807∧z=addB AUy9 p)∧K (.d (u64 z))
theorem CDg9:∀args K,cSum args K→∃x,PCall prog 175 args x∧K x:=by
 rintro _ K ⟨p,_,rfl,⟨hl,rfl⟩,h⟩;exact ⟨_,pcSum p hl,h⟩
def pairS (a b:Int):Int:=stepS (stepS 3750763034362895578 a) b
theorem CGn9 (a c:Int):PCall prog 194 [.d (u64 a), .d (u64 c)] (.d (u64 (pairS a c))):=by
 refine Zaz (n:=100) (u:=false) mixed BPx9 Zac func194 (by rfl) (by rfl) fun Ev bb=> ?_
 rw [CBo9]
 exact ⟨_,_,_,rfl,rfl,_,_,_,rfl,rfl,rfl⟩
def cPair (args:List AV) (K:AV→Prop):Prop:=∃(a c z:Int),args= [.d (u64 a), .d (u64 c)]∧z=pairS a c∧K (.d (u64 z))
theorem BVu9:∀args K,cPair args K→∃x,PCall prog 194 args x∧K x:=by
 rintro _ K ⟨a,c,_,rfl,rfl,h⟩;exact ⟨_,CGn9 a c,h⟩
def leafS (p:List Int):Int:=addB (addB AUy9 [0]) p
def TLeaf:List (Nat×(List AV→(AV→Prop)→Prop)):= [(175,cSum),(174,cAdd)]
theorem BXa9:AAf9 prog TLeaf:=Zaf CDg9 (Zaf BPt9 Zah)
theorem CCb9 (xs:List (List Dv)):wpFn prog ⟨TLeaf, [],wl,y,true⟩ 100 f192 [.full 1 [[.sl 1 xs]]] b R=(∃(p0:List Int) (z1:Int), [AV.full 1 [[u8 0]]]= [AV.full 1 (AAa9 p0)]∧(Zab p0≤9223372036854775807∧z1=addB (14695981039346656037:Int) p0)∧∃(xs2:List (List Dv)),some [Zai 1 xs]=some [Zai 1 xs2]∧∃(s3:Int) (p4:List Int) (z5:Int), [Zae (u64 z1),Zae (Zai 1 xs2)]= [Zae (u64 s3),Zae (Zai 1 (AAa9 p4))]∧(Zab p4≤9223372036854775807∧z5=addB s3 p4)∧R (.d (u64 z5)) b):=by kernel_rfl
theorem CGq9 (p:List Int) (hl:p.length≤9223372036854775807):PCall prog 192 [.full 1 [[.sl 1 (AAa9 p)]]] (.d (u64 (leafS p))):=by
 refine Zaz (n:=100) (u:=true) mixed BXa9 Zac func192 (by rfl) (by rfl) fun Ev bb=> ?_
 rw [CCb9]
 exact ⟨[0],_,rfl,⟨by decide,rfl⟩,_,rfl,_,p,_,rfl,⟨hl,rfl⟩,rfl⟩
def cLeaf (args:List AV) (K:AV→Prop):Prop:=∃(p:List Int) (z:Int),args= [.full 1 [[.sl 1 (AAa9 p)]]]∧(p.length≤9223372036854775807∧z=leafS p)∧K (.d (u64 z))
theorem BVy9:∀args K,cLeaf args K→∃x,PCall prog 192 args x∧K x:=by
 rintro _ K ⟨p,_,rfl,⟨hl,rfl⟩,h⟩;exact ⟨_,CGq9 p hl,h⟩
def AAc9 (ps:List (List Int)):List (List Dv):=ps.map fun p=> [.sl 1 (AAa9 p)]
theorem AAd9 (ps:List (List Int)):(AAc9 ps).length=ps.length:=by simp [AAc9]
theorem CIr9 (xs:List (List Dv)):wpFn prog ⟨[], [],wl,y,false⟩ 100 f190 [.d (.sl 1 xs)] b R=R (.d (bo (decide ((xs.length:Int)>256)))) b:=by kernel_rfl
theorem CIx9 (xs:List (List Dv)):wpFn prog ⟨[], [],wl,y,false⟩ 100 f195 [.d (.sl 1 xs)] b R=R (.d (bo ((xs.length:Int) !=256))) b:=by kernel_rfl
def c75 (args:List AV) (K:AV→Prop):Prop:=∃(xs:List (List Dv)),args= [.d (.sl 1 xs)]∧K (.d (bo (decide ((xs.length:Int)>256))))
theorem CKe9:∀args K,c75 args K→∃x,PCall prog 190 args x∧K x:=by
 rintro _ K ⟨xs,rfl,h⟩
 refine ⟨_,Zaz (n:=100) (u:=false) mixed Zah Zac func190 (by rfl) (by rfl) fun Ev bb=> ?_,h⟩
 rw [CIr9]
def c59 (args:List AV) (K:AV→Prop):Prop:=∃(xs:List (List Dv)),args= [.d (.sl 1 xs)]∧K (.d (bo ((xs.length:Int) !=256)))
theorem CKg9:∀args K,c59 args K→∃x,PCall prog 195 args x∧K x:=by
 rintro _ K ⟨xs,rfl,h⟩
 refine ⟨_,Zaz (n:=100) (u:=false) mixed Zah Zac func195 (by rfl) (by rfl) fun Ev bb=> ?_,h⟩
 rw [CIx9]
def TIx:List (Nat×(List AV→(AV→Prop)→Prop)):= [(190,c75),(195,c59)]
theorem BNe9:AAf9 prog TIx:=Zaf CKe9 (Zaf CKg9 Zah)
noncomputable def lpIx:Code:=sub [1,0,1,2,3] (code f219)
def tmIx (k:Nat) (xs:List (List Dv)) (n i:Int):List AV:= [.d (.sl 1 xs), .fn (.func k) [] [], .bad, .bad, .bad, .bad, .bad, .d (i64 n), .d (i64 i)]++Zag 10 .bad
def ixR {β:Type} (K:Exit→List AV→List Blk→β→Prop) (b:β) (P:Int→Bool) (f:Nat) (xs:List (List Dv)) (n i:Int):Prop:=
 BIf (decide (i<n)) (BIf (true&&decide (0≤i)) (∃(xs0:List (List Dv)),xs[Zam i]? =some [Zai 1 xs0]∧∃(xs1:List (List Dv)), [Zae (.sl 1 xs0)]= [Zae (.sl 1 xs1)]∧
   BIf (P xs1.length) (K .ret ((tmIx f xs n i).set 4 (.d (i64 i))) [] b) (K .normal (tmIx f xs n (Zaa .i64 (i+1))) [] b)) False) (K (.exit 0) (tmIx f xs n i) [] b)
theorem ix75 (xs:List (List Dv)) (n i:Int):wpc prog ⟨TIx, [],wl,y,false⟩ 100 lpIx (tmIx 190 xs n i) [] b (maskK 0 [0,1,4,7,8] K)=ixR K b (fun n=>decide (n>256)) 190 xs n i:=by kernel_rfl
theorem ix59 (xs:List (List Dv)) (n i:Int):wpc prog ⟨TIx, [],wl,y,false⟩ 100 lpIx (tmIx 195 xs n i) [] b (maskK 0 [0,1,4,7,8] K)=ixR K b (fun n=>n !=256) 195 xs n i:=by kernel_rfl
def ixP (P:Int→Bool):List (List Int)→Nat→Int
 | [],_=> -1
 |p::ps,k=>if P p.length then k else ixP P ps (k+1)
theorem BUm9 (P:Int→Bool):∀(ps:List (List Int)) (k:Nat),decide (ixP P ps k≥0)=ps.any fun p=>P p.length
 | [],k=>by simp [ixP]
 | p::ps,k=>by
   unfold ixP
   rw [List.any_cons]
   cases h:P p.length with
   |true=>simp
   |false=>simpa using BUm9 P ps (k+1)
def IxOk (P:Int→Bool) (f:Nat):Prop:=∀ {β:Type} (wl:WLT β) (y:ABr9 β) (b:β) (K:Exit→List AV→List Blk→β→Prop) (xs:List (List Dv)) (n i:Int),
 wpc prog ⟨TIx, [],wl,y,false⟩ 100 lpIx (tmIx f xs n i) [] b (maskK 0 [0,1,4,7,8] K)=ixR K b P f xs n i
theorem wrIx {P:Int→Bool} {f:Nat} (hP:IxOk P f) {Ev:Env prog} {b:Ev.β} {Q:Exit→St Ev.β→Prop} (ps:List (List Int)) (hl:ps.length≤9223372036854775807):∀(rest:List (List Int)) (k:Nat),ps.drop k=rest→k≤ps.length→
   (∀i:Nat,ixP P rest k=i→Q .ret ⟨(tmIx f (AAc9 ps) ps.length i).set 4 (.d (i64 i)), [],b⟩)→(ixP P rest k= -1→Q (.exit 0) ⟨tmIx f (AAc9 ps) ps.length ps.length, [],b⟩)→WR Ev lpIx (rest.length+1) ⟨tmIx f (AAc9 ps) ps.length k, [],b⟩ Q
 | [],k,hd,hk,h1,h2=>by
   refine Zcn [0,1,4,7,8] mixed (CX.Ok.of (u:=false) BNe9 Zac) (k:=100) ?_
   show wpc _ _ _ _ _ _ _ (maskK 0 _ _)
   rw [hP]
   have:=ABm9 hd
   obtain rfl:k=ps.length:=by omega
   exact Zct (by simp) (h2 rfl)
 | p::rest,k,hd,hk,h1,h2=>by
   refine Zcn [0,1,4,7,8] mixed (CX.Ok.of (u:=false) BNe9 Zac) (k:=100) ?_
   show wpc _ _ _ _ _ _ _ (maskK 0 _ _)
   rw [hP]
   obtain ⟨hk',hr,hd'⟩:=AAw9 hd
   refine Zbf (by simp;omega) (Zbf (by simp) ⟨AAa9 p,by simp [AAc9,hr],AAa9 p,rfl,Zaj (fun hz=> ?_) fun hz=> ?_⟩)
   · exact h1 k (by rw [AAh9] at hz;simp [ixP,hz])
   · rw [AAu9 hk' hl]
     have e:ixP P (p::rest) k=ixP P rest (k+1):=by rw [AAh9] at hz;simp [ixP,hz]
     rw [e] at h1 h2
     exact wrIx hP ps hl rest (k+1) hd' hk' h1 h2
def wlIx {β:Type} (P:Int→Bool) (f:Nat):WLT β:=fun c tm hp b K=>∃(ps:List (List Int)),c= .loop lpIx∧ABb9 [0,1,7,8] 0 tm=tmIx f (AAc9 ps) (AAc9 ps).length 0∧hp= []∧ps.length≤9223372036854775807∧
 (∀i:Nat,ixP P ps 0=i→K .ret ((tmIx f (AAc9 ps) (AAc9 ps).length i).set 4 (.d (i64 i))) [] b)∧(ixP P ps 0= -1→K (.exit 0) (tmIx f (AAc9 ps) (AAc9 ps).length (AAc9 ps).length) [] b)
theorem BNr9 {P:Int→Bool} {f:Nat} (hP:IxOk P f) {Ev:Env prog} (c:Code) (tm:List AV) (hp:List Blk) (b:Ev.β) (K:Exit→List AV→List Blk→Ev.β→Prop) (h:wlIx P f c tm hp b K):W Ev c ⟨tm,hp,b⟩ (fun e s=>K e s.tm s.hp s.b):=by
 obtain ⟨ps,rfl,htm,rfl,hl,h1,h2⟩:=h
 rw [AAd9] at htm h1 h2
 refine W.cast (htm▸AAg9 _ tm 0) (Zbt _) ?_
 exact W.rounds (wrIx (Q:=fun e s=>K e s.tm s.hp s.b) hP ps hl ps 0 rfl (Zdb _) h1 h2)
def ixF {β:Type} (R:AV→β→Prop) (b:β) (P:Int→Bool) (f:Nat) (xs:List (List Dv)):Prop:=∃(ps:List (List Int)),Zax lpIx= .loop lpIx∧tmIx f xs xs.length 0=tmIx f (AAc9 ps) (AAc9 ps).length 0∧([]:List Blk)= []∧ps.length≤9223372036854775807∧
 (∀i:Nat,ixP P ps 0=i→R (.d (i64 i)) b)∧(ixP P ps 0= -1→R (.d (i64 (-1))) b)
theorem ixF75 (P:Int→Bool) (xs:List (List Dv)):wpFn prog ⟨TIx, [],wlIx P 190,y,false⟩ 100 f219 [.d (.sl 1 xs), .fn (.func 190) [] []] b R=ixF R b P 190 xs:=by kernel_rfl
theorem ixF59 (P:Int→Bool) (xs:List (List Dv)):wpFn prog ⟨TIx, [],wlIx P 195,y,false⟩ 100 f219 [.d (.sl 1 xs), .fn (.func 195) [] []] b R=ixF R b P 195 xs:=by kernel_rfl
theorem CGt9 (ps:List (List Int)) (hl:ps.length≤9223372036854775807):PCall prog 219 [.d (.sl 1 (AAc9 ps)), .fn (.func 190) [] []] (.d (i64 (ixP (fun n=>decide (n>256)) ps 0))):=by
 refine Zcd (n:=100) (u:=false) (fun _=>wlIx (fun n=>decide (n>256)) 190) mixed BNe9 Zac (fun Ev=>BNr9 (fun wl y b K xs n i=>ix75 wl y b K xs n i)) func219 (by rfl) (by rfl) fun Ev bb=> ?_
 rw [ixF75]
 exact ⟨ps,rfl,rfl,rfl,hl,fun i h=>by rw [h],fun h=>by rw [h]⟩
theorem CGu9 (ps:List (List Int)) (hl:ps.length≤9223372036854775807):PCall prog 219 [.d (.sl 1 (AAc9 ps)), .fn (.func 195) [] []] (.d (i64 (ixP (fun n=>n !=256) ps 0))):=by
 refine Zcd (n:=100) (u:=false) (fun _=>wlIx (fun n=>n !=256) 195) mixed BNe9 Zac (fun Ev=>BNr9 (fun wl y b K xs n i=>ix59 wl y b K xs n i)) func219 (by rfl) (by rfl) fun Ev bb=> ?_
 rw [ixF59]
 exact ⟨ps,rfl,rfl,rfl,hl,fun i h=>by rw [h],fun h=>by rw [h]⟩
def cIx (args:List AV) (K:AV→Prop):Prop:=match args with
 | [_, .fn (.func 190) _ _]=>∃(ps:List (List Int)) (z:Int),args= [.d (.sl 1 (AAc9 ps)), .fn (.func 190) [] []]∧(ps.length≤9223372036854775807∧z=ixP (fun n=>decide (n>256)) ps 0)∧K (.d (i64 z))
 |_=>∃(ps:List (List Int)) (z:Int),args= [.d (.sl 1 (AAc9 ps)), .fn (.func 195) [] []]∧(ps.length≤9223372036854775807∧z=ixP (fun n=>n !=256) ps 0)∧K (.d (i64 z))
theorem CKc9:∀args K,cIx args K→∃x,PCall prog 219 args x∧K x:=by
 intro args K h
 unfold cIx at h
 split at h
 · obtain ⟨ps,_,e,⟨hl,rfl⟩,h⟩:=h;rw [e];exact ⟨_,CGt9 ps hl,h⟩
 · obtain ⟨ps,_,e,⟨hl,rfl⟩,h⟩:=h;rw [e];exact ⟨_,CGu9 ps hl,h⟩
def TCf:List (Nat×(List AV→(AV→Prop)→Prop)):= [(219,cIx)]
theorem CFe9:AAf9 prog TCf:=Zaf CKc9 Zah
theorem CDb9 (xs:List (List Dv)):wpFn prog ⟨TCf, [],wl,y,false⟩ 100 f189 [.d (.sl 1 xs), .fn (.func 190) [] []] b R=(∃(ps0:List (List Int)) (z1:Int), [Zae (Zai 1 xs),AV.fn (Fn.func 190) [] []]= [Zae (Zai 1 (AAc9 ps0)),AV.fn (Fn.func 190) [] []]∧(Zab ps0≤9223372036854775807∧z1=ixP (fun (n2:Int)=>decide (n2>(256:Int))) ps0 0)∧R (.d (bo (decide (z1≥(0:Int))))) b):=by kernel_rfl
theorem CDc9 (xs:List (List Dv)):wpFn prog ⟨TCf, [],wl,y,false⟩ 100 f189 [.d (.sl 1 xs), .fn (.func 195) [] []] b R=(∃(ps0:List (List Int)) (z1:Int), [Zae (Zai 1 xs),AV.fn (Fn.func 195) [] []]= [Zae (Zai 1 (AAc9 ps0)),AV.fn (Fn.func 195) [] []]∧(Zab ps0≤9223372036854775807∧z1=ixP (fun (n2:Int)=>n2 !=(256:Int)) ps0 0)∧R (.d (bo (decide (z1≥(0:Int))))) b):=by kernel_rfl
def AOi9 (ps:List (List Int)):Bool:=ps.any fun p=>decide ((p.length:Int)>256)
def AAx9 (ps:List (List Int)):Bool:=ps.any fun p=>(p.length:Int) !=256
def cCf (args:List AV) (K:AV→Prop):Prop:=match args with
 | [_, .fn (.func 190) _ _]=>∃(ps:List (List Int)) (z:Bool),args= [.d (.sl 1 (AAc9 ps)), .fn (.func 190) [] []]∧(ps.length≤9223372036854775807∧z=AOi9 ps)∧K (.d (bo z))
 |_=>∃(ps:List (List Int)) (z:Bool),args= [.d (.sl 1 (AAc9 ps)), .fn (.func 195) [] []]∧(ps.length≤9223372036854775807∧z=AAx9 ps)∧K (.d (bo z))
theorem CKd9:∀args K,cCf args K→∃x,PCall prog 189 args x∧K x:=by
 intro args K h
 unfold cCf at h
 split at h
 · obtain ⟨ps,_,e,⟨hl,rfl⟩,h⟩:=h
   rw [e]
   refine ⟨_,Zaz (n:=100) (u:=false) mixed CFe9 Zac func189 (by rfl) (by rfl) fun Ev bb=> ?_,h⟩
   rw [CDb9]
   exact ⟨ps,_,rfl,⟨hl,rfl⟩,by rw [BUm9];rfl⟩
 · obtain ⟨ps,_,e,⟨hl,rfl⟩,h⟩:=h
   rw [e]
   refine ⟨_,Zaz (n:=100) (u:=false) mixed CFe9 Zac func189 (by rfl) (by rfl) fun Ev bb=> ?_,h⟩
   rw [CDc9]
   exact ⟨ps,_,rfl,⟨hl,rfl⟩,by rw [BUm9];rfl⟩
def TPgI:List (Nat×(List AV→(AV→Prop)→Prop)):= [(189,cCf)]
theorem BPy9:AAf9 prog TPgI:=Zaf CKd9 Zah
theorem BAc9 (xs:List (List Dv)):wpFn prog ⟨TPgI, [],wl,y,false⟩ 100 f145 [.d (.sl 1 xs)] b R=(BIf (decide (↑(Zab xs)>(0:Int))) (BIf (decide (↑(Zab xs)≤(16:Int))) (∃(ps0:List (List Int)) (z1:Bool), [Zae (Zai 1 xs),AV.fn (Fn.func 190) [] []]= [Zae (Zai 1 (AAc9 ps0)),AV.fn (Fn.func 190) [] []]∧(Zab ps0≤9223372036854775807∧z1=AOi9 ps0)∧R (.d (bo !z1)) b) (R (.d (bo false)) b)) (R (.d (bo false)) b)):=by kernel_rfl
theorem BTt9 (xs:List (List Dv)):wpFn prog ⟨TPgI, [],wl,y,false⟩ 100 f148 [.d (.sl 1 xs)] b R=(∃(ps0:List (List Int)) (z1:Bool), [Zae (Zai 1 xs),AV.fn (Fn.func 195) [] []]= [Zae (Zai 1 (AAc9 ps0)),AV.fn (Fn.func 195) [] []]∧(Zab ps0≤9223372036854775807∧z1=AAx9 ps0)∧R (.d (bo !z1)) b):=by kernel_rfl
def areS (ps:List (List Int)):Bool:=decide ((ps.length:Int)>0)&&(decide ((ps.length:Int)≤16)&& !AOi9 ps)
theorem BDi9 (ps:List (List Int)):PCall prog 145 [.d (.sl 1 (AAc9 ps))] (.d (bo (areS ps))):=by
 refine Zaz (n:=100) (u:=false) mixed BPy9 Zac func145 (by rfl) (by rfl) fun Ev bb=> ?_
 rw [BAc9,AAd9]
 refine Zaj (fun h1=>Zaj (fun h2=>⟨ps,_,rfl,⟨by simp at h2;omega,rfl⟩, ?_⟩) fun h2=> ?_) fun h1=> ?_
 · rw [areS,h1,h2];rfl
 · rw [areS,h1,h2];rfl
 · rw [areS,h1];rfl
def AYa9 (args:List AV) (K:AV→Prop):Prop:=∃(ps:List (List Int)) (z:Bool),args= [.d (.sl 1 (AAc9 ps))]∧z=areS ps∧K (.d (bo z))
theorem AUu9:∀args K,AYa9 args K→∃x,PCall prog 145 args x∧K x:=by
 rintro _ K ⟨ps,_,rfl,rfl,h⟩;exact ⟨_,BDi9 ps,h⟩
theorem CAz9 (ps:List (List Int)) (hl:ps.length≤9223372036854775807):PCall prog 148 [.d (.sl 1 (AAc9 ps))] (.d (bo (!AAx9 ps))):=by
 refine Zaz (n:=100) (u:=false) mixed BPy9 Zac func148 (by rfl) (by rfl) fun Ev bb=> ?_
 rw [BTt9]
 exact ⟨ps,_,rfl,⟨hl,rfl⟩,rfl⟩
def BVv9 (args:List AV) (K:AV→Prop):Prop:=∃(ps:List (List Int)) (z:Bool),args= [.d (.sl 1 (AAc9 ps))]∧(ps.length≤9223372036854775807∧z= !AAx9 ps)∧K (.d (bo z))
theorem AXv9:∀args K,BVv9 args K→∃x,PCall prog 148 args x∧K x:=by
 rintro _ K ⟨ps,_,rfl,⟨hl,rfl⟩,h⟩;exact ⟨_,CAz9 ps hl,h⟩
noncomputable def lpCh:Code:=sub [1,2,3] (code f220)
def tmCh (xs:List (List Dv)) (m i:Int):List AV:= [.yl, .rptr [.sl 1 xs], .rptr [i64 m], .bad, .d (i64 i)]++Zag 26 .bad
noncomputable def lpCb:Code:=sub [1,2,3] (code f147)
def ANk9 (xs:List (List Dv)) (i:Int):Int:=((List.take (Zam (xs.length:Int) - Zam i) (List.drop (Zam i) xs)).length:Int)
def BFr9 (xs:List (List Dv)) (i z:Int):List (List Dv):=List.take (Zam (Zaa .i64 (i+z)) - Zam i) (List.drop (Zam i) xs)
def chOk1 (xs:List (List Dv)) (i:Int):Prop:=0≤i∧i≤(xs.length:Int)∧(xs.length:Int)≤(xs.length:Int)∧(xs.length:Int)≤(xs.length:Int)
def chOk2 (xs:List (List Dv)) (i z:Int):Prop:=0≤i∧i≤Zaa .i64 (i+z)∧Zaa .i64 (i+z)≤Zaa .i64 (i+z)∧Zaa .i64 (i+z)≤(xs.length:Int)
instance (xs : List (List Dv)) (i : Int) : Decidable (chOk1 xs i) := inferInstanceAs (Decidable (_ ∧ _))
instance (xs : List (List Dv)) (i z : Int) : Decidable (chOk2 xs i z) := inferInstanceAs (Decidable (_ ∧ _))
def chR {β:Type} (y:ABr9 β) (b:β) (K:Exit→List AV→List Blk→β→Prop) (xs:List (List Dv)) (m i:Int):Prop:=
 BIf (decide (i<xs.length)) (BIf (true&&decide (chOk1 xs i)) (∃(z:Int),(z=if ANk9 xs i<m then ANk9 xs i else m)∧BIf (true&&decide (chOk2 xs i z)) (BIf (true&&Zam (Zaa .i64 (i+z))==Zam (Zaa .i64 (i+z)))
     (y b [.full 1 (BFr9 xs i z)] fun (c:Bool) (b1:β)=>BIf (!c) (K .ret (tmCh xs m i) [] b1) (K .normal (tmCh xs m (Zaa .i64 (i+m))) [] b1))
     (y b [.d (.sl 1 (BFr9 xs i z))] fun (c:Bool) (b1:β)=>BIf (!c) (K .ret (tmCh xs m i) [] b1) (K .normal (tmCh xs m (Zaa .i64 (i+m))) [] b1))) False) False)
   (K (.exit 0) (tmCh xs m i) [] b)
def ChOk (lp:Code):Prop:=∀ {β:Type} (wl:WLT β) (y:ABr9 β) (b:β) (K:Exit→List AV→List Blk→β→Prop) (xs:List (List Dv)) (m i:Int),
 wpc prog ⟨[], [],wl,y,false⟩ 100 lp (tmCh xs m i) [] b (maskT [0,1,2,4] K)=chR y b K xs m i
theorem ch88 (xs:List (List Dv)) (m i:Int):wpc prog ⟨[], [],wl,y,false⟩ 100 lpCh (tmCh xs m i) [] b (maskT [0,1,2,4] K)=chR y b K xs m i:=by kernel_rfl
theorem ch57 (xs:List (List Dv)) (m i:Int):wpc prog ⟨[], [],wl,y,false⟩ 100 lpCb (tmCh xs m i) [] b (maskT [0,1,2,4] K)=chR y b K xs m i:=by kernel_rfl
def ADd9 {α:Type} (m:Nat):Nat→List α→List (List α)
 |0,_=> []
 |n+1,xs=>if xs.isEmpty then [] else xs.take m::ADd9 m n (xs.drop m)
def itemC (c:List (List Dv)):List AV:= [.full 1 c]
theorem BLp9 {xs:List (List Dv)} {m i:Nat} (hi:i<xs.length) (hm:1≤m) (hb:xs.length+2*m<9223372036854775807):
   ∃z:Int,z=(if ANk9 xs i<(m:Int) then ANk9 xs i else m)∧BFr9 xs i z=(xs.drop i).take m∧chOk2 xs i z:=by
 have e1:ANk9 xs (i:Int)=((xs.length - i:Nat):Int):=by unfold ANk9;simp
 rw [e1]
 by_cases h:((xs.length - i:Nat):Int)<(m:Int)
 · refine ⟨_,rfl, ?_, ?_⟩<;>rw [if_pos h]
   · unfold BFr9
     rw [AAl9 (by omega) (by omega)]
     have e2:((i:Int)+((xs.length - i:Nat):Int)).toNat - (i:Int).toNat=xs.length - i:=by omega
     rw [e2,Zas,List.take_of_length_le (by simp),List.take_of_length_le (by simp;omega)]
   · unfold chOk2;rw [AAl9 (by omega) (by omega)];omega
 · refine ⟨_,rfl, ?_, ?_⟩<;>rw [if_neg h]
   · unfold BFr9
     rw [AAl9 (by omega) (by omega)]
     have e2:((i:Int)+(m:Int)).toNat - (i:Int).toNat=m:=by omega
     rw [e2,Zas]
   · unfold chOk2;rw [AAl9 (by omega) (by omega)];omega
theorem wrCh {lp:Code} (hP:ChOk lp) {Ev:Env prog} {Q:Exit→St Ev.β→Prop} (xs:List (List Dv)) (m:Nat) (hm:1≤m) (hb:xs.length+2*m<9223372036854775807):∀(n i:Nat) (b:Ev.β),(xs.drop i).length≤n→i≤xs.length+m→
   (YList Ev.Y ((ADd9 m n (xs.drop i)).map itemC) b fun b'=>∀i:Int,Q (.exit 0) ⟨tmCh xs m i, [],b'⟩∧Q .ret ⟨tmCh xs m i, [],b'⟩)→WR Ev lp (n+1) ⟨tmCh xs m i, [],b⟩ Q
 | 0,i,b,hn,hi,h=>by
   refine Zbw [0,1,2,4] mixed (CX.Ok.of (u:=false) Zah Zac) (k:=100) ?_
   rw [hP]
   exact Zct (by simp at hn ⊢;omega) (h _).1
 | n+1,i,b,hn,hi,h=>by
   refine Zbw [0,1,2,4] mixed (CX.Ok.of (u:=false) Zah Zac) (k:=100) ?_
   rw [hP]
   by_cases hlt:i<xs.length
   · have e0:(xs.drop i).isEmpty=false:=by
       cases hx:xs.drop i with
       |nil=>have:=ABm9 hx;omega
       |cons=>rfl
     rw [ADd9,if_neg (by rw [e0];simp),Zcz] at h
     obtain ⟨z,hz,hp,hk⟩:=BLp9 hlt hm hb
     refine Zbf (by simp;omega) (Zbf (by rw [show decide (chOk1 xs i)=true from decide_eq_true (by unfold chOk1;omega)];rfl) ⟨z,hz,Zbf (by rw [decide_eq_true hk];rfl) (Zbf (by simp) ?_)⟩)
     rw [hp]
     refine Ev.Ymono h fun c b' h=> ?_
     cases c with
     | true=>
       refine Zct rfl ?_
       rw [AAl9 (by omega) (by omega),show (i:Int)+(m:Int)=((i+m:Nat):Int) by omega]
       rw [List.drop_drop] at h
       exact wrCh hP xs m hm hb n (i+m) b' (by simp at hn ⊢;omega) (by omega) h
     |false=>exact Zbf rfl (h _).2
   · have e0:xs.drop i= []:=List.drop_eq_nil_of_le (by omega)
     rw [e0,ADd9,if_pos (show ([]:List (List Dv)).isEmpty=true from rfl)] at h
     exact Zct (by simp;omega) (h _).1
def wlCh {β:Type} (lp:Code) (y:ABr9 β):WLT β:=fun c tm hp b K=>∃(xs:List (List Dv)) (m:Nat),c= .loop lp∧ABb9 [0,1,2,4] 0 tm=tmCh xs m 0∧hp= []∧(1≤m∧xs.length+2*m<9223372036854775807)∧
 YList y ((ADd9 m xs.length xs).map itemC) b fun b'=>∀i:Int,K (.exit 0) (tmCh xs m i) [] b'∧K .ret (tmCh xs m i) [] b'
theorem BNs9 {lp:Code} (hP:ChOk lp) {Ev:Env prog} (c:Code) (tm:List AV) (hp:List Blk) (b:Ev.β) (K:Exit→List AV→List Blk→Ev.β→Prop) (h:wlCh lp Ev.Y c tm hp b K):W Ev c ⟨tm,hp,b⟩ (fun e s=>K e s.tm s.hp s.b):=by
 obtain ⟨xs,m,rfl,htm,rfl,⟨hm,hb⟩,hK⟩:=h
 refine W.cast (htm▸AAg9 _ tm 0) (Zbt _) ?_
 exact W.rounds (wrCh (Q:=fun e s=>K e s.tm s.hp s.b) hP xs m hm hb xs.length 0 b (by simp) (by omega) (by simpa using hK))
theorem CIp9 (xs:List (List Dv)) (m:Int):wpc prog ⟨[], [],wlCh lpCh y,y,false⟩ 100 (code f220) (ABc9 f220 [.yl, .rptr [.sl 1 xs], .rptr [i64 m]]) [] b (fnK prog f220 fun _ b=>Q b)=(
 ∃(xs':List (List Dv)) (m':Nat),Zax lpCh= .loop lpCh∧tmCh xs m 0=tmCh xs' m' 0∧([]:List Blk)= []∧(1≤m'∧xs'.length+2*m'<9223372036854775807)∧YList y ((ADd9 m' xs'.length xs').map itemC) b fun b'=>∀_:Int,Q b'∧Q b'):=by kernel_rfl
theorem CCo9 (xs:List (List Dv)) (m:Int):wpc prog ⟨[], [],wlCh lpCb y,y,false⟩ 100 (code f147) (ABc9 f147 [.yl, .rptr [.sl 1 xs], .rptr [i64 m]]) [] b (fnK prog f147 fun _ b=>Q b)=(
 ∃(xs':List (List Dv)) (m':Nat),Zax lpCb= .loop lpCb∧tmCh xs m 0=tmCh xs' m' 0∧([]:List Blk)= []∧(1≤m'∧xs'.length+2*m'<9223372036854775807)∧YList y ((ADd9 m' xs'.length xs').map itemC) b fun b'=>∀_:Int,Q b'∧Q b'):=by kernel_rfl
set_option maxRecDepth 100000 in
theorem ic88 (xs:List (List Dv)) (m:Nat) (hm:1≤m) (hb:xs.length+2*m<9223372036854775807):ICall prog 220 [.yl, .rptr [.sl 1 xs], .rptr [i64 m]] (fun Y b Q=>YList Y ((ADd9 m xs.length xs).map itemC) b Q):=by
 refine ICall.ofW (c:=code f220) func220 rfl rfl fun Ev b Q h=> ?_
 have h1:wpc prog ⟨[], [],wlCh lpCh Ev.Y,Ev.Y,false⟩ 100 (code f220) (ABc9 f220 [.yl, .rptr [.sl 1 xs], .rptr [i64 m]]) [] b (fnK prog f220 fun _ b=>Q b):=by
   rw [CIp9]
   exact ⟨xs,m,rfl,rfl,rfl,⟨hm,hb⟩,YList.mono (fun b h _=>⟨h,h⟩) _ _ h⟩
 refine AAr9 mixed (CX.Ok.ofWl (wl:=wlCh lpCh Ev.Y) (u:=false) Zah Zac (BNs9 fun wl y b K xs m i=>ch88 wl y b K xs m i)) h1 fun e tm hp b hK=> ?_
 obtain ⟨g1,ys,g2,z,g3,g4⟩:=ACu9 hK
 exact ⟨g1,ys,g2,g4⟩
set_option maxRecDepth 100000 in
theorem ic57 (xs:List (List Dv)) (m:Nat) (hm:1≤m) (hb:xs.length+2*m<9223372036854775807):ICall prog 147 [.yl, .rptr [.sl 1 xs], .rptr [i64 m]] (fun Y b Q=>YList Y ((ADd9 m xs.length xs).map itemC) b Q):=by
 refine ICall.ofW (c:=code f147) func147 rfl rfl fun Ev b Q h=> ?_
 have h1:wpc prog ⟨[], [],wlCh lpCb Ev.Y,Ev.Y,false⟩ 100 (code f147) (ABc9 f147 [.yl, .rptr [.sl 1 xs], .rptr [i64 m]]) [] b (fnK prog f147 fun _ b=>Q b):=by
   rw [CCo9]
   exact ⟨xs,m,rfl,rfl,rfl,⟨hm,hb⟩,YList.mono (fun b h _=>⟨h,h⟩) _ _ h⟩
 refine AAr9 mixed (CX.Ok.ofWl (wl:=wlCh lpCb Ev.Y) (u:=false) Zah Zac (BNs9 fun wl y b K xs m i=>ch57 wl y b K xs m i)) h1 fun e tm hp b hK=> ?_
 obtain ⟨g1,ys,g2,z,g3,g4⟩:=ACu9 hK
 exact ⟨g1,ys,g2,g4⟩
theorem BVg9 {β:Type} (wl:WLT β) (y:ABr9 β) (b:β) (R:AV→β→Prop) (xs:List (List Dv)):wpFn prog ⟨[], [],wl,y,false⟩ 100 f193 [.d (.sl 1 xs), .d (i64 2)] b R=R (.fn (.func 220) [] [.rptr [.sl 1 xs], .rptr [i64 2]]) b:=by kernel_rfl
def BPr9 (args:List AV) (K:AV→Prop):Prop:=∃(xs:List (List Dv)),args= [.d (.sl 1 xs), .d (i64 2)]∧K (.fn (.func 220) [] [.rptr [.sl 1 xs], .rptr [i64 2]])
theorem BHf9:∀args K,BPr9 args K→∃x,PCall prog 193 args x∧K x:=by
 rintro _ K ⟨xs,rfl,h⟩
 refine ⟨_,Zaz (n:=100) (u:=false) mixed Zah Zac func193 (by rfl) (by rfl) fun Ev bb=> ?_,h⟩
 rw [BVg9]
def TLv:List (Nat×(List AV→(AV→Prop)→Prop)):= [(192,cLeaf),(193,BPr9),(194,cPair)]
theorem ANc9:AAf9 prog TLv:=Zaf BVy9 (Zaf BHf9 (Zaf BVu9 Zah))
noncomputable def lpLa:Code:=sub [1,0,1,2,3] (code f191)
noncomputable def lpLb:Code:=sub [1,1,2,3] (code f191)
noncomputable def rfLv:Code:=sub [1,1,2,3,1,2,1,0,1,2] (code f191)
theorem BBx9:rfLv= .rangeFunc (.tmp 30) #[31] (AAq9 rfLv) (ABu9 rfLv):=by kernel_rfl
def tmLa (acc:AV) (ps:List (List Dv)) (n i:Int):List AV:= [.yl, .rptr [.sl 1 ps], .bad,acc, .bad, .bad, .bad, .bad, .d (.sl 1 ps), .d (i64 n), .d (i64 i)]++Zag 41 .bad
def tmLb (now:AV):List AV:= [.yl, .bad, .bad,now]++Zag 48 .bad
def tmLr (now:List (List Dv)):List AV:= [.yl, .bad, .bad, .d (.sl 1 now), .bad, .bad, .ptr 0 0]++Zag 23 .bad++ [.fn (.func 220) [] [.rptr [.sl 1 now], .rptr [i64 2]]]++Zag 21 .bad
theorem BEi9 (ps xs:List (List Dv)) (n i:Int):wpc prog ⟨TLv, [],wl,y,false⟩ 100 lpLa (tmLa (.own 22 1 xs) ps n i) [] b (maskK 0 [0,1,3,8,9,10] K)=(
 BIf (decide (i<n)) (BIf (true&&decide (0≤i)) (∃(xs0:List (List Dv)),ps[Zam i]? =some [Zai 1 xs0]∧∃(p3:List Int) (z4:Int), [AV.full 1 [[Zai 1 xs0]]]= [.full 1 [[.sl 1 (AAa9 p3)]]]∧(p3.length≤9223372036854775807∧z4=leafS p3)∧
   BIf (true&&decide ((xs.length+1)*8≤140737488355328)) (K .normal (tmLa (.own 22 1 (xs++ [[u64 z4]])) ps n (Zaa .i64 (i+1))) [] b) False) False) (K (.exit 0) (tmLa (.own 22 1 xs) ps n i) [] b)):=by kernel_rfl
theorem BDv9 (now xs x:List (List Dv)):wpcY prog ⟨TLv, [],wl,y,false⟩ 100 #[31] (AAq9 rfLv) (ABu9 rfLv) (tmLr now) [.full 1 x] [cellV (.own 22 1 xs)] b (takeK 1 Kh)=(
 BIf ((x.length:Int)==2) (∃(x0:Int),x[0]? =some [u64 x0]∧∃(x3:Int),x[1]? =some [u64 x3]∧∃(a6 c7 z8:Int), [Zae (u64 x0), .d (u64 x3)]= [.d (u64 a6), .d (u64 c7)]∧z8=pairS a6 c7∧BIf (true&&decide ((xs.length+1)*8≤140737488355328)) (Kh .normal [cellV (.own 22 1 (xs++ [[u64 z8]]))] b) False)
   (∃(x9:Int),x[0]? =some [u64 x9]∧BIf (true&&decide ((xs.length+1)*8≤140737488355328)) (Kh .normal [cellV (.own 22 1 (xs++ [[u64 x9]]))] b) False)):=by kernel_rfl
def nextL:List Int→List Int
 | []=> []
 | [a]=> [a]
 |a::c::l=>pairS a c::nextL l
theorem AWi9:∀l:List Int,(nextL l).length≤l.length∧(1<l.length→(nextL l).length<l.length)
 | []=>by simp [nextL]
 | [a]=>by simp [nextL]
 |a::c::l=>by have:=(AWi9 l).1;simp only [nextL,List.length_cons];omega
theorem BCn9 {Ev:Env prog} {b:Ev.β} {Q:Exit→St Ev.β→Prop} (now:List (List Dv)):∀(n:Nat) (l acc:List Int),l.length≤n→acc.length+l.length≤1000→Q .normal ⟨tmLr now, [cellV (.own 22 1 (digR (acc++nextL l)))],b⟩→
   YList (YBody Ev (tmLr now) #[31] (AAq9 rfLv) (ABu9 rfLv) 1) ((ADd9 2 n (digR l)).map itemC) ([cellV (.own 22 1 (digR acc))],b,none) (ADt9 (tmLr now) Q)
 | 0,l,acc,hn,hb,h=>by
   have:l= []:=List.length_eq_zero_iff.1 (by omega)
   subst this
   rw [show nextL []= [] from rfl,Zef] at h;exact h
 | n+1, [],acc,hn,hb,h=>by
   have e:ADd9 2 (n+1) (digR [])= []:=rfl
   rw [e]
   rw [show nextL []= [] from rfl,Zef] at h;exact h
 | n+1, [a],acc,hn,hb,h=>by
   have e:ADd9 2 (n+1) (digR [a])= [[u64 a]]::ADd9 2 n (digR []):=rfl
   rw [e,Zcz]
   refine YList.step (X:=⟨TLv, [],wlW Ev,Ev.Y,false⟩) (k:=100) mixed (CX.Ok.of ANc9 Zac) rfl ?_
   show wpcY _ _ _ _ _ _ _ [.full 1 [[u64 a]]] [cellV _] b (takeK 1 _)
   rw [BDv9]
   refine Zct (by simp) ⟨a,rfl,Zbf (by simp [AAn9] at hb ⊢;omega) ?_⟩
   rw [APp9]
   refine BCn9 now n [] (acc++ [a]) (by simp) (by simp at hb ⊢;omega) ?_
   simpa [nextL] using h
 | n+1,a::c::l,acc,hn,hb,h=>by
   have e:ADd9 2 (n+1) (digR (a::c::l))= [[u64 a], [u64 c]]::ADd9 2 n (digR l):=rfl
   rw [e,Zcz]
   refine YList.step (X:=⟨TLv, [],wlW Ev,Ev.Y,false⟩) (k:=100) mixed (CX.Ok.of ANc9 Zac) rfl ?_
   show wpcY _ _ _ _ _ _ _ [.full 1 [[u64 a], [u64 c]]] [cellV _] b (takeK 1 _)
   rw [BDv9]
   refine Zbf (by simp) ⟨a,rfl,c,rfl,a,c,_,rfl,rfl,Zbf (by simp [AAn9] at hb ⊢;omega) ?_⟩
   rw [APp9]
   refine BCn9 now n l (acc++ [pairS a c]) (by simp at hn;omega) (by simp at hb ⊢;omega) ?_
   have e2:(acc++ [pairS a c])++nextL l=acc++nextL (a::c::l):=by simp [nextL]
   rw [e2];exact h
def wlLr {β:Type}:WLT β:=fun c tm hp b K=>∃(now q:List Int),c=rfLv∧ABb9 [0,3,6,30] 0 tm=tmLr (digR now)∧hp= [cellV (.d (.s (.slice none 0 0)))]∧(now.length≤1000∧q=nextL now)∧K .normal (tmLr (digR now)) [cellV (.own 22 1 (digR q))] b
theorem BNq9 {Ev:Env prog} (c:Code) (tm:List AV) (hp:List Blk) (b:Ev.β) (K:Exit→List AV→List Blk→Ev.β→Prop) (h:wlLr c tm hp b K):W Ev c ⟨tm,hp,b⟩ (fun e s=>K e s.tm s.hp s.b):=by
 obtain ⟨now,q,rfl,htm,rfl,⟨hl,rfl⟩,hK⟩:=h
 refine W.cast (htm▸AAg9 _ tm 0) (hp':= [cellV (.own 22 1 (digR []))]) (.cons (.cons (LeA.nilOwn rfl) .nil) .nil) ?_
 rw [BBx9]
 exact W.range (s:=⟨tmLr (digR now),_,b⟩) (k:=220) (first:= []) (caps:= [.rptr [.sl 1 (digR now)], .rptr [i64 2]]) rfl rfl rfl (ic88 (digR now) 2 (by omega) (by rw [AAn9];omega)) (BCn9 (digR now) _ now [] (by rw [AAn9];exact Nat.le_refl _) (by simpa using hl) (by simpa using hK))
end Go.Proofs.YtibhflogmbfpcaaGreatDoor.Am
