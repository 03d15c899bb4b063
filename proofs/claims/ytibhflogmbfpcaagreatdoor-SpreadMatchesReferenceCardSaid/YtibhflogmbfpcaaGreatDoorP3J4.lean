import Derived.Test.YtibhflogmbfpcaaGreatDoorP3J3
import Derived.Test.YtibhflogmbfpcaaGreatDoorP3J2
set_option linter.unusedSimpArgs false
set_option linter.unusedVariables false
namespace Go.Proofs.YtibhflogmbfpcaaGreatDoor.Am
open Go Go.RowKit Go.Proofs Tryz
open AV renaming agg → Zbc, bad → Zaq, d → Zae, ptr → Zbe, rptr → Zcj
open BIf renaming f → Zct, of → Zaj, t → Zbf
open BitVec renaming ofInt → Zar
open Bool renaming and_eq_true → Zan, and_false → Zdk, eq_false_iff → Zez
open AAf9 renaming cons → Zaf, nil → Zah
open Go.Code renaming loop → Zax
open Dv renaming s → Zfa, sl → Zai
open Go.Exit renaming exit → Zcy
open Int renaming eq_ofNat_of_zero_le → Zcb, tdiv → Zbq, tdiv_eq_ediv_of_nonneg → Zdf, tmod → Zdv, toNat → Zam, toNat_natCast → Zas
open Go.IntKind renaming i64 → Zap, wrap → Zaa
open LeH renaming refl → Zbt
open LeVs renaming refl → Zen
open List renaming all_eq_true → Zbm, append_assoc → Zcg, append_nil → Zef, dropWhile_cons → Zdu, dropWhile_sublist → Zfb, getElem?_eq_getElem → Zbk, isEmpty → Zed, length → Zab, length_append → Zdh, length_eq_zero_iff → Zeg, map_cons → Zcz, mem_append → Zcl, mem_cons → Zcw, mem_cons_of_mem → Zaw, mem_cons_self → Zay, mem_map → Zbo, mem_of_getElem? → Zbh, range → Zbn, replicate → Zag
open Nat renaming add_comm → Zfe, le_refl → Zbb, le_trans → Zbz, mod_two_eq_zero_or_one → Zdw, testBit_zero → Zet, zero_le → Zdb
open PCall renaming ofFn → Zaz, ofFnV → Zck, ofFnW → Zcd
open AAk9 renaming cons → Zci, nil → Zac
open Go.Value renaming slice → Zbp
open WR renaming ofMask → Zcn, ofMaskT → Zbw
variable {β:Type} (wl:WLT β) (y:ABr9 β) (b:β) (R:AV→β→Prop) (RS:AV→List Blk→β→Prop) (K:Exit→List AV→List Blk→β→Prop) (Kh:Exit→List Blk→β→Prop) (Q:β→Prop)
open AV (bad)
set_option linter.unusedVariables false
set_option maxRecDepth 20000
set_option maxRecDepth 10000 in
theorem wrLa {Ev:Env prog} {b:Ev.β} {Q:Exit→St Ev.β→Prop} (ps:List (List Int)) (hl:ps.length≤1000) (hp:∀p∈ps,p.length≤9223372036854775807):∀(rest:List (List Int)) (k:Nat) (acc:List Int),ps.drop k=rest→k≤ps.length→acc.length≤k→
   Q (.exit 0) ⟨tmLa (.own 22 1 (digR (acc++rest.map leafS))) (AAc9 ps) ps.length ps.length, [],b⟩→WR Ev lpLa (rest.length+1) ⟨tmLa (.own 22 1 (digR acc)) (AAc9 ps) ps.length k, [],b⟩ Q
 | [],k,acc,hd,hk,ha,h=>by
   refine Zcn [0,1,3,8,9,10] mixed (CX.Ok.of (u:=false) ANc9 Zac) (k:=100) ?_
   show wpc _ _ _ _ _ _ _ (maskK 0 _ _)
   rw [BEi9]
   have:=ABm9 hd
   obtain rfl:k=ps.length:=by omega
   rw [List.map_nil,Zef] at h
   exact Zct (by simp) h
 | p::rest,k,acc,hd,hk,ha,h=>by
   refine Zcn [0,1,3,8,9,10] mixed (CX.Ok.of (u:=false) ANc9 Zac) (k:=100) ?_
   show wpc _ _ _ _ _ _ _ (maskK 0 _ _)
   rw [BEi9]
   obtain ⟨hk',hr,hd'⟩:=AAw9 hd
   refine Zbf (by simp;omega) (Zbf (by simp) ⟨AAa9 p,by simp [AAc9,hr],p,_,rfl,⟨hp p (Zbh hr),rfl⟩,Zbf (by simp [AAn9];omega) ?_⟩)
   rw [APp9,AAu9 hk' (by omega)]
   refine wrLa ps hl hp rest (k+1) (acc++ [leafS p]) hd' hk' (by simp;omega) ?_
   rw [Zcz] at h
   rw [Zcg];exact h
def ADa9:Nat→List Int→List (List Int)
 |0,now=> [now]
 |n+1,now=>if 1<now.length then now::ADa9 n (nextL now) else [now]
def itemL (l:List Int):List AV:= [.d (.sl 1 (digR l))]
theorem BEd9 (now:List (List Dv)):wpc prog ⟨TLv, [],wlLr,y,false⟩ 100 lpLb (tmLb (.d (.sl 1 now))) [] b (maskK 0 [0,3] K)=(
 y b [.d (.sl 1 now)] fun (c:Bool) (b1:β)=>BIf c (BIf (decide ((now.length:Int)>1)) (∃(xs2:List (List Dv)), [Zae (.sl 1 now),Zae (i64 2)]= [.d (.sl 1 xs2), .d (i64 2)]∧∃(now3 q4:List Int),rfLv=rfLv∧
     [.yl, .bad, .bad,Zae (.sl 1 now), .bad, .bad, .ptr 0 0]++Zag 23 .bad++ [.fn (.func 220) [] [.rptr [.sl 1 xs2], .rptr [i64 2]]]++Zag 21 .bad=tmLr (digR now3)∧
     [cellV (.d (.s (.slice none 0 0)))]= [cellV (.d (.s (.slice none 0 0)))]∧(now3.length≤1000∧q4=nextL now3)∧K .normal (tmLb (.d (.sl 1 (digR q4)))) [] b1)
   (K (.exit 2) (tmLb (.d (.sl 1 now))) [] b1)) (K (.exit 2) (tmLb (.d (.sl 1 now))) [] b1)):=by kernel_rfl
set_option maxRecDepth 10000 in
theorem wrLb {Ev:Env prog} {Q:Exit→St Ev.β→Prop}:∀(n:Nat) (now:List Int) (b:Ev.β),now.length≤n+1→now.length≤1000→
   (YList Ev.Y ((ADa9 n now).map itemL) b fun b'=>∀z:List (List Dv),Q (.exit 2) ⟨tmLb (.d (.sl 1 z)), [],b'⟩)→WR Ev lpLb (n+1) ⟨tmLb (.d (.sl 1 (digR now))), [],b⟩ Q
 | 0,now,b,hn,hl,h=>by
   refine Zcn [0,3] mixed (CX.Ok.ofWl (wl:=wlLr) (u:=false) ANc9 Zac BNq9) (k:=100) ?_
   show wpc _ _ _ _ _ _ _ (maskK 0 _ _)
   rw [BEd9]
   refine Ev.Ymono h fun c b' h=> ?_
   have h':∀z:List (List Dv),Q (.exit 2) ⟨tmLb (.d (.sl 1 z)), [],b'⟩:=by cases c<;>exact h
   cases c with
   |true=>exact Zbf rfl (Zct (by simp [AAn9];omega) (h' _))
   |false=>exact Zct rfl (h' _)
 | n+1,now,b,hn,hl,h=>by
   refine Zcn [0,3] mixed (CX.Ok.ofWl (wl:=wlLr) (u:=false) ANc9 Zac BNq9) (k:=100) ?_
   show wpc _ _ _ _ _ _ _ (maskK 0 _ _)
   rw [BEd9]
   by_cases h1:1<now.length
   · rw [ADa9,if_pos h1,Zcz] at h
     refine Ev.Ymono h fun c b' h=> ?_
     cases c with
     | true=>
       have:=(AWi9 now).2 h1
       exact Zbf rfl (Zbf (by simp [AAn9];omega) ⟨_,rfl,now,_,rfl,rfl,rfl,⟨hl,rfl⟩,wrLb n (nextL now) b' (by omega) (by omega) h⟩)
     |false=>exact Zct rfl (h _)
   · rw [ADa9,if_neg h1] at h
     refine Ev.Ymono h fun c b' h=> ?_
     have h':∀z:List (List Dv),Q (.exit 2) ⟨tmLb (.d (.sl 1 z)), [],b'⟩:=by cases c<;>exact h
     cases c with
     |true=>exact Zbf rfl (Zct (by simp [AAn9];omega) (h' _))
     |false=>exact Zct rfl (h' _)
def wl76 {β:Type} (y:ABr9 β):WLT β:=fun c tm hp b K=>match cidO c with
 |3=>∃(ps:List (List Int)) (q:List Int),c= .loop lpLa∧ABb9 [0,1,3,8,9,10] 0 tm=tmLa nilV (AAc9 ps) (AAc9 ps).length 0∧hp= []∧((ps.length≤1000∧∀p∈ps,p.length≤9223372036854775807)∧q=ps.map leafS)∧K (.exit 0) (tmLa (.own 22 1 (digR q)) (AAc9 ps) (AAc9 ps).length (AAc9 ps).length) [] b
 |7=>∃(now:List Int),c= .loop lpLb∧ABb9 [0,3] 0 (tm.map AV.view)=tmLb (.d (.sl 1 (digR now)))∧hp= []∧now.length≤1000∧YList y ((ADa9 now.length now).map itemL) b fun b'=>∀z:List (List Dv),K (.exit 2) (tmLb (.d (.sl 1 z))) [] b'
 |_=>False
theorem ANx9:∀l:List AV,LeL l (l.map AV.view)
 | []=> .nil
 |x::l=> .cons LeA.view (ANx9 l)
theorem BYc9 {Ev:Env prog} (c:Code) (tm:List AV) (hp:List Blk) (b:Ev.β) (K:Exit→List AV→List Blk→Ev.β→Prop) (h:wl76 Ev.Y c tm hp b K):W Ev c ⟨tm,hp,b⟩ (fun e s=>K e s.tm s.hp s.b):=by
 unfold wl76 at h
 split at h
 · obtain ⟨ps,q,rfl,htm,rfl,⟨⟨hl,hp⟩,rfl⟩,hK⟩:=h
   rw [AAd9] at htm hK
   refine W.cast (htm▸AAg9 _ tm 0) (Zbt _) ?_
   refine W.cast (tm':=tmLa (.own 22 1 (digR [])) (AAc9 ps) ps.length 0) (LeL.at [_,_,_] _ (LeA.nilOwn rfl)) (Zbt _) ?_
   exact W.rounds (wrLa (Q:=fun e s=>K e s.tm s.hp s.b) ps hl hp ps 0 [] rfl (Zdb _) (Zdb _) hK)
 · obtain ⟨now,rfl,htm,rfl,hl,hK⟩:=h
   refine W.cast (ANx9 _) (Zbt _) ?_
   refine W.cast (htm▸AAg9 _ _ 0) (Zbt _) ?_
   exact W.rounds (wrLb (Q:=fun e s=>K e s.tm s.hp s.b) now.length now b (by omega) hl hK)
 · exact h.elim
theorem CIq9 (ps:List (List Dv)):wpc prog ⟨TLv, [],wl76 y,y,false⟩ 100 (code f191) (ABc9 f191 [.yl, .rptr [.sl 1 ps]]) [] b (fnK prog f191 fun _ b=>Q b)=(
 ∃ (ps0:List (List Int)) (q1:List Int),Zax lpLa= .loop lpLa∧tmLa nilV ps ps.length 0=tmLa nilV (AAc9 ps0) (AAc9 ps0).length 0∧([]:List Blk)= []∧((ps0.length≤1000∧∀p∈ps0,p.length≤9223372036854775807)∧q1=ps0.map leafS)∧
   ∃(now2:List Int),Zax lpLb= .loop lpLb∧tmLb (.d (.sl 1 (digR q1)))=tmLb (.d (.sl 1 (digR now2)))∧([]:List Blk)= []∧now2.length≤1000∧YList y ((ADa9 now2.length now2).map itemL) b fun b'=>∀_:List (List Dv),Q b'):=by kernel_rfl
theorem BKh9 (ps:List (List Dv)):wpFn prog ⟨[], [],wl,y,false⟩ 100 f146 [.d (.sl 1 ps)] b R=R (.fn (.func 191) [] [.rptr [.sl 1 ps]]) b:=by kernel_rfl
def ADj9 (ps:List (List Int)):List (List Int):=ADa9 (ps.map leafS).length (ps.map leafS)
set_option maxRecDepth 100000 in
theorem ic76 (ps:List (List Int)) (hl:ps.length≤1000) (hp:∀p∈ps,p.length≤9223372036854775807):ICall prog 191 [.yl, .rptr [.sl 1 (AAc9 ps)]] (fun Y b Q=>YList Y ((ADj9 ps).map itemL) b Q):=by
 refine ICall.ofW (c:=code f191) func191 rfl rfl fun Ev b Q h=> ?_
 have h1:wpc prog ⟨TLv, [],wl76 Ev.Y,Ev.Y,false⟩ 100 (code f191) (ABc9 f191 [.yl, .rptr [.sl 1 (AAc9 ps)]]) [] b (fnK prog f191 fun _ b=>Q b):=by
   rw [CIq9]
   exact ⟨ps,_,rfl,rfl,rfl,⟨⟨hl,hp⟩,rfl⟩,_,rfl,rfl,rfl,by simpa using hl,YList.mono (fun b h _=>h) _ _ h⟩
 refine AAr9 mixed (CX.Ok.ofWl (wl:=wl76 Ev.Y) (u:=false) ANc9 Zac BYc9) h1 fun e tm hp b hK=> ?_
 obtain ⟨g1,ys,g2,z,g3,g4⟩:=ACu9 hK
 exact ⟨g1,ys,g2,g4⟩
def BPm9 (args:List AV) (K:AV→Prop):Prop:=∃(ps:List (List Dv)),args= [.d (.sl 1 ps)]∧K (.fn (.func 191) [] [.rptr [.sl 1 ps]])
theorem BGv9:∀args K,BPm9 args K→∃x,PCall prog 146 args x∧K x:=by
 rintro _ K ⟨ps,rfl,h⟩
 refine ⟨_,Zaz (n:=100) (u:=false) mixed Zah Zac func146 (by rfl) (by rfl) fun Ev bb=> ?_,h⟩
 rw [BKh9]
def TRt:List (Nat×(List AV→(AV→Prop)→Prop)):= [(145,AYa9),(146,BPm9)]
theorem CEv9:AAf9 prog TRt:=Zaf AUu9 (Zaf BGv9 Zah)
noncomputable def rfRt:Code:=sub [1,1,1,0,1,2] (code f84)
theorem BBv9:rfRt= .rangeFunc (.tmp 10) #[11] (AAq9 rfRt) (ABu9 rfRt):=by kernel_rfl
def tmRt (ps:List (List Dv)):List AV:= [.bad, .bad, .bad, .bad, .ptr 0 0]++Zag 5 .bad++ [.fn (.func 191) [] [.rptr [.sl 1 ps]]]++Zag 5 .bad
noncomputable def rfPr:Code:=sub [1,1,1,0,1,2] (code f87)
theorem BBw9:rfPr= .rangeFunc (.tmp 23) #[24] (AAq9 rfPr) (ABu9 rfPr):=by kernel_rfl
def tmPrI (ps:List (List Dv)):List AV:= [.bad, .bad, .bad, .ptr 0 0, .bad, .bad, .ptr 1 0]++Zag 16 .bad++ [.fn (.func 191) [] [.rptr [.sl 1 ps]]]++Zag 17 .bad
def sibB (v:Int):Int:=Zaa Zap ↑(BitVec.toNat (Zar 64 v ^^^ Zar 64 1))
theorem BRz9 (ps x:List (List Dv)) (v:Int):wpcY prog ⟨[], [],wl,y,false⟩ 100 #[11] (AAq9 rfRt) (ABu9 rfRt) (tmRt ps) [.d (.sl 1 x)] [cellV (.d (u64 v))] b (takeK 1 Kh)=(
 ∃(x0:Int),x[0]? =some [u64 x0]∧Kh .normal [cellV (.d (u64 x0))] b):=by kernel_rfl
theorem BSm9 (ps x xs:List (List Dv)) (v:Int):wpcY prog ⟨[], [],wl,y,false⟩ 100 #[24] (AAq9 rfPr) (ABu9 rfPr) (tmPrI ps) [.d (.sl 1 x)] [cellV (.d (i64 v)),cellV (.own 22 1 xs)] b (takeK 2 Kh)=(
 BIf (decide (sibB v<(x.length:Int))) (BIf (true&&decide (0≤sibB v)) (∃(x0:Int),x[Zam (sibB v)]? =some [u64 x0]∧BIf (true&&decide ((xs.length+1)*8≤140737488355328)) (Kh .normal [cellV (.d (i64 (Zaa .i64 (Zbq v 2)))),cellV (.own 22 1 (xs++ [[u64 x0]]))] b) False) False)
   (Kh .normal [cellV (.d (i64 (Zaa .i64 (Zbq v 2)))),cellV (.own 22 1 xs)] b)):=by kernel_rfl
def sibN (k:Nat):Nat:=if k % 2=0 then k+1 else k - 1
theorem BBm9 {k:Nat} (h:k<1000000):sibB (k:Int)=((sibN k:Nat):Int):=by
 have e1:(Zar 64 (k:Int) ^^^ Zar 64 1).toNat=k ^^^ 1:=by
   rw [BitVec.toNat_xor,show Zar 64 (k:Int)=BitVec.ofNat 64 k by simp,BitVec.toNat_ofNat,Nat.mod_eq_of_lt (by omega)];rfl
 have h1:(k ^^^ 1) / 2=k / 2:=by rw [Nat.xor_div_two];simp
 have e2:(k ^^^ 1).testBit 0=(k.testBit 0 ^^ (1:Nat).testBit 0):=Nat.testBit_xor ..
 rw [Zet,Zet,Zet] at e2
 have h2:(k ^^^ 1) % 2=(k+1) % 2:=by
   rcases Zdw k with h|h<;>rcases Zdw (k ^^^ 1) with h'|h'<;>simp [h,h'] at e2<;>omega
 have h3:k ^^^ 1=sibN k:=by unfold sibN;split<;>omega
 have h4:sibN k≤k+1:=by unfold sibN;split<;>omega
 rw [sibB,e1,h3,AAl9 (by omega) (by omega)]
theorem ANz9:∀(n:Nat) (now:List Int),(ADa9 n now).length≤n+1
 |0,now=>by simp [ADa9]
 | n+1,now=>by
   rw [ADa9];split
   · simp [ANz9 n (nextL now)]
   · simp
theorem AZj9 (ps:List (List Int)):(ADj9 ps).length≤ps.length+1:=by
 have:=ANz9 (ps.map leafS).length (ps.map leafS)
 rw [List.length_map] at this
 unfold ADj9;rw [List.length_map];exact this
theorem BUc9:∀ {l:List Int},l≠ []→nextL l≠ []
 | [],h=>(h rfl).elim
 | [a],h=>by simp [nextL]
 |a::c::l,h=>by simp [nextL]
theorem ARp9:∀(n:Nat) (now:List Int),now≠ []→∀l∈ADa9 n now,l≠ []
 |0,now,h=>by simpa [ADa9] using h
 | n+1,now,h=>by
   rw [ADa9];split
   · intro l hl
     rcases Zcw.1 hl with rfl|hl
     · exact h
     · exact ARp9 n _ (BUc9 h) l hl
   · simpa using h
theorem BDy9 {ps:List (List Int)} (h:ps≠ []):∀l∈ADj9 ps,l≠ []:=ARp9 _ _ (by simpa using h)
def lastS:List (List Int)→Int→Int
 | [],v=>v
 |l::ls,_=>lastS ls (nth l 0)
theorem BOc9 {Ev:Env prog} {b:Ev.β} {Q:Exit→St Ev.β→Prop} (ps:List (List Dv)):∀(ls:List (List Int)) (v:Int),(∀l∈ls,l≠ [])→Q .normal ⟨tmRt ps, [cellV (.d (u64 (lastS ls v)))],b⟩→
   YList (YBody Ev (tmRt ps) #[11] (AAq9 rfRt) (ABu9 rfRt) 1) (ls.map itemL) ([cellV (.d (u64 v))],b,none) (ADt9 (tmRt ps) Q)
 | [],v,hn,h=>h
 | l::ls,v,hn,h=>by
   rw [Zcz]
   refine YList.step (X:=⟨[], [],wlW Ev,Ev.Y,false⟩) (k:=100) mixed (CX.Ok.of Zah Zac) rfl ?_
   show wpcY _ _ _ _ _ _ _ [.d (.sl 1 (digR l))] [cellV _] b (takeK 1 _)
   rw [BRz9]
   have h0:0<l.length:=List.length_pos_iff.2 (hn l Zay)
   exact ⟨nth l 0,AHo9 h0,BOc9 ps ls (nth l 0) (fun l hl=>hn l (Zaw _ hl)) h⟩
def AFc9:List (List Int)→Nat→List Int
 | [],_=> []
 |l::ls,k=>(if sibN k<l.length then [nth l (sibN k)] else [])++AFc9 ls (k / 2)
theorem BCm9 {Ev:Env prog} {b:Ev.β} {Q:Exit→St Ev.β→Prop} (ps:List (List Dv)):∀(ls:List (List Int)) (k:Nat) (acc:List Int),k<1000000→acc.length+ls.length≤100000→
   (∀z:Int,Q .normal ⟨tmPrI ps, [cellV (.d (i64 z)),cellV (.own 22 1 (digR (acc++AFc9 ls k)))],b⟩)→
   YList (YBody Ev (tmPrI ps) #[24] (AAq9 rfPr) (ABu9 rfPr) 2) (ls.map itemL) ([cellV (.d (i64 k)),cellV (.own 22 1 (digR acc))],b,none) (ADt9 (tmPrI ps) Q)
 | [],k,acc,hk,hl,h=>by
   have h:=h k
   rw [AFc9,Zef] at h;exact h
 | l::ls,k,acc,hk,hl,h=>by
   rw [Zcz]
   refine YList.step (X:=⟨[], [],wlW Ev,Ev.Y,false⟩) (k:=100) mixed (CX.Ok.of Zah Zac) rfl ?_
   show wpcY _ _ _ _ _ _ _ [.d (.sl 1 (digR l))] [cellV _,cellV _] b (takeK 2 _)
   rw [BSm9,BBm9 hk,AAn9,show Zbq (k:Int) 2=((k / 2:Nat):Int) from rfl,AAl9 (by omega) (by omega)]
   simp only [List.length_cons] at hl
   refine Zaj (fun h1=> ?_) fun h1=> ?_
   · have h2:sibN k<l.length:=by simp at h1;omega
     refine Zbf (by simp) ⟨nth l (sibN k),by rw [Zas];exact AHo9 h2,Zbf (by simp [AAn9];omega) ?_⟩
     rw [APp9]
     refine BCm9 ps ls (k / 2) (acc++ [nth l (sibN k)]) (by omega) (by simp;omega) ?_
     rw [AFc9,if_pos h2] at h
     rw [Zcg];exact h
   · have h2:¬sibN k<l.length:=by simp at h1;omega
     refine BCm9 ps ls (k / 2) acc (by omega) (by omega) ?_
     rw [AFc9,if_neg h2,List.nil_append] at h
     exact h
def wlRt {β:Type}:WLT β:=fun c tm hp b K=>∃(ps:List (List Int)) (v q:Int),c=rfRt∧ABb9 [4,10] 0 tm=tmRt (AAc9 ps)∧hp= [cellV (.d (u64 v))]∧((ps.length≤1000∧ps≠ []∧∀p∈ps,p.length≤9223372036854775807)∧q=lastS (ADj9 ps) v)∧K .normal (tmRt (AAc9 ps)) [cellV (.d (u64 q))] b
theorem BXq9 {Ev:Env prog} (c:Code) (tm:List AV) (hp:List Blk) (b:Ev.β) (K:Exit→List AV→List Blk→Ev.β→Prop) (h:wlRt c tm hp b K):W Ev c ⟨tm,hp,b⟩ (fun e s=>K e s.tm s.hp s.b):=by
 obtain ⟨ps,v,q,rfl,htm,rfl,⟨⟨hl,h0,hp⟩,rfl⟩,hK⟩:=h
 refine W.cast (htm▸AAg9 _ tm 0) (Zbt _) ?_
 rw [BBv9]
 exact W.range (s:=⟨tmRt (AAc9 ps),_,b⟩) (k:=191) (first:= []) (caps:= [.rptr [.sl 1 (AAc9 ps)]]) rfl rfl rfl (ic76 ps hl hp) (BOc9 (AAc9 ps) (ADj9 ps) v (BDy9 h0) hK)
def wlPrI {β:Type}:WLT β:=fun c tm hp b K=>∃(ps:List (List Int)) (k:Nat) (q:List Int),c=rfPr∧ABb9 [3,6,23] 0 tm=tmPrI (AAc9 ps)∧hp= [cellV (.d (i64 k)),cellV nilV]∧((ps.length≤1000∧k<1000000∧∀p∈ps,p.length≤9223372036854775807)∧q=AFc9 (ADj9 ps) k)∧∀z:Int,K .normal (tmPrI (AAc9 ps)) [cellV (.d (i64 z)),cellV (.own 22 1 (digR q))] b
theorem BQn9 {Ev:Env prog} (c:Code) (tm:List AV) (hp:List Blk) (b:Ev.β) (K:Exit→List AV→List Blk→Ev.β→Prop) (h:wlPrI c tm hp b K):W Ev c ⟨tm,hp,b⟩ (fun e s=>K e s.tm s.hp s.b):=by
 obtain ⟨ps,k,q,rfl,htm,rfl,⟨⟨hl,h0,hp⟩,rfl⟩,hK⟩:=h
 refine W.cast (htm▸AAg9 _ tm 0) (hp':= [cellV (.d (i64 k)),cellV (.own 22 1 (digR []))]) (.cons (.cons LeA.rfl .nil) (.cons (.cons (LeA.nilOwn rfl) .nil) .nil)) ?_
 rw [BBw9]
 have:=AZj9 ps
 exact W.range (s:=⟨tmPrI (AAc9 ps),_,b⟩) (k:=191) (first:= []) (caps:= [.rptr [.sl 1 (AAc9 ps)]]) rfl rfl rfl (ic76 ps hl hp) (BCm9 (AAc9 ps) (ADj9 ps) k [] h0 (by simp;omega) hK)
def rootS (ps:List (List Int)):Int×Int:=if areS ps then (lastS (ADj9 ps) 0,0) else (0,1)
def AMz9 (ps:List (List Int)) (i:Int):List Int×Int:=if areS ps&& !decide (i<0)&& !decide (i≥ps.length) then (AFc9 (ADj9 ps) i.toNat,0) else ([],1)
theorem ATh9 {ps:List (List Int)} (h:areS ps=true):ps.length≤16∧ps≠ []∧∀p∈ps,p.length≤256:=by
 simp [areS,AOi9] at h
 obtain ⟨h1,h2,h3⟩:=h
 refine ⟨by omega,fun h=>by simp [h] at h1,fun p hp=> ?_⟩
 have:=h3 p hp
 omega
theorem BZu9 (ps:List (List Dv)):wpFn prog ⟨TRt, [],wlRt,y,false⟩ 100 f84 [.d (.sl 1 ps)] b R=(
 ∃ (ps0:List (List Int)) (z1:Bool), [Zae (.sl 1 ps)]= [.d (.sl 1 (AAc9 ps0))]∧z1=areS ps0∧BIf (!z1) (R (.tup [.d (u64 0), .d (i64 1)]) b) (∃(ps2:List (List Dv)), [Zae (.sl 1 ps)]= [.d (.sl 1 ps2)]∧∃(ps3:List (List Int)) (v4 q5:Int),rfRt=rfRt∧
   tmRt ps2=tmRt (AAc9 ps3)∧ [cellV (.d (u64 0))]= [cellV (.d (u64 v4))]∧((ps3.length≤1000∧ps3≠ []∧∀p∈ps3,p.length≤9223372036854775807)∧q5=lastS (ADj9 ps3) v4)∧R (.tup [.d (u64 q5), .d (i64 0)]) b)):=by kernel_rfl
theorem BSk9 (ps:List (List Dv)) (i:Int):wpFn prog ⟨TRt, [],wlPrI,y,false⟩ 100 f87 [.d (.sl 1 ps), .d (i64 i)] b R=(
 ∃ (ps0:List (List Int)) (z1:Bool), [Zae (.sl 1 ps)]= [.d (.sl 1 (AAc9 ps0))]∧z1=areS ps0∧BIf (!z1) (R (.tup [nilV, .d (i64 1)]) b) (BIf (decide (i<0)) (R (.tup [nilV, .d (i64 1)]) b) (BIf (decide (i≥(ps.length:Int))) (R (.tup [nilV, .d (i64 1)]) b)
   (∃(ps2:List (List Dv)), [Zae (.sl 1 ps)]= [.d (.sl 1 ps2)]∧∃(ps3:List (List Int)) (k4:Nat) (q5:List Int),rfPr=rfPr∧tmPrI ps2=tmPrI (AAc9 ps3)∧ [cellV (.d (i64 i)),cellV nilV]= [cellV (.d (i64 k4)),cellV nilV]∧
     ((ps3.length≤1000∧k4<1000000∧∀p∈ps3,p.length≤9223372036854775807)∧q5=AFc9 (ADj9 ps3) k4)∧∀_:Int,R (.tup [.d (.sl 1 (digR q5)), .d (i64 0)]) b)))):=by kernel_rfl
theorem CGg9 (ps:List (List Int)):PCall prog 84 [.d (.sl 1 (AAc9 ps))] (.tup [.d (u64 (rootS ps).1), .d (i64 (rootS ps).2)]):=by
 refine Zcd (n:=100) (u:=false) (fun _=>wlRt) mixed CEv9 Zac (fun Ev=>BXq9) func84 (by rfl) (by rfl) fun Ev bb=> ?_
 rw [BZu9]
 refine ⟨ps,_,rfl,rfl,Zaj (fun h=> ?_) fun h=> ?_⟩
 · have h:areS ps=false:=by simpa using h
   rw [rootS,if_neg (by rw [h];simp)]
 · have h:areS ps=true:=by simpa using h
   obtain ⟨h1,h2,h3⟩:=ATh9 h
   rw [rootS,if_pos h]
   exact ⟨_,rfl,ps,0,_,rfl,rfl,rfl,⟨⟨by omega,h2,fun p hp=>by have:=h3 p hp;omega⟩,rfl⟩,rfl⟩
def cRoot (args:List AV) (K:AV→Prop):Prop:=∃(ps:List (List Int)) (z:Int×Int),args= [.d (.sl 1 (AAc9 ps))]∧z=rootS ps∧K (.tup [.d (u64 z.1), .d (i64 z.2)])
theorem BVo9:∀args K,cRoot args K→∃x,PCall prog 84 args x∧K x:=by
 rintro _ K ⟨ps,_,rfl,rfl,h⟩;exact ⟨_,CGg9 ps,h⟩
theorem CAy9 (ps:List (List Int)) (i:Int):PCall prog 87 [.d (.sl 1 (AAc9 ps)), .d (i64 i)] (.tup [.d (.sl 1 (digR (AMz9 ps i).1)), .d (i64 (AMz9 ps i).2)]):=by
 refine Zck (n:=100) (u:=false) (fun _=>wlPrI) mixed CEv9 Zac (fun Ev=>BQn9) func87 (by rfl) (by rfl) fun Ev bb=> ?_
 rw [BSk9,AAd9]
 have hn:LeV (.tup [nilV, .d (i64 1)]) (.tup [.d (.sl 1 (digR [])), .d (i64 1)]):= .tups (.cons (.nil rfl) (.cons .rfl .nil))
 refine ⟨ps,_,rfl,rfl,Zaj (fun h=> ?_) fun h=>Zaj (fun g=> ?_) fun g=>Zaj (fun f=> ?_) fun f=> ?_⟩
 · have h:areS ps=false:=by simpa using h
   rw [AMz9,if_neg (by rw [h];simp)];exact hn
 · rw [AMz9,if_neg (by rw [g];simp)];exact hn
 · rw [AMz9,if_neg (by rw [f];simp)];exact hn
 · have h:areS ps=true:=by simpa using h
   obtain ⟨h1,h2,h3⟩:=ATh9 h
   rw [AMz9,if_pos (by rw [h,g,f];rfl)]
   simp at g f
   obtain ⟨k,rfl⟩:=Zcb g
   exact ⟨_,rfl,ps,k,_,rfl,rfl,rfl,⟨⟨by omega,by omega,fun p hp=>by have:=h3 p hp;omega⟩,rfl⟩,fun _=> .rfl⟩
def CDu9 (args:List AV) (K:AV→Prop):Prop:=∃(ps:List (List Int)) (i:Int) (z:List Int×Int),args= [.d (.sl 1 (AAc9 ps)), .d (i64 i)]∧z=AMz9 ps i∧K (.tup [.d (.sl 1 (digR z.1)), .d (i64 z.2)])
theorem BMj9:∀args K,CDu9 args K→∃x,PCall prog 87 args x∧K x:=by
 rintro _ K ⟨ps,i,_,rfl,rfl,h⟩;exact ⟨_,CAy9 ps i,h⟩
noncomputable def lpWk:Code:=sub [2,3] (code f230)
def tmWk:List AV:= [.yl, .ptr 0 0, .ptr 1 0]++Zag 18 .bad
def cellN (x:Int):Blk:=cellV (.d (i64 x))
section
variable {β:Type} (wl:WLT β) (y:ABr9 β) (b:β) (K:Exit→List AV→List Blk→β→Prop) (R:AV→List Blk→β→Prop)
theorem BAx9 (x k:Int):wpc prog ⟨[], [],wl,y,false⟩ 100 lpWk tmWk [cellN x,cellN k] b (maskT [0,1,2] K)=(
 BIf (decide (x>1)) (y b [.d (bo (decide (sibB k<x))), .d (bo (Zdv k 2==1))] fun (c:Bool) (b1:β)=>BIf (!c) (K .ret tmWk [cellN x,cellN k] b1)
   (K .normal tmWk [cellN (Zaa .i64 (Zbq (Zaa .i64 (x+1)) 2)),cellN (Zaa .i64 (Zbq k 2))] b1)) (K (.exit 0) tmWk [cellN x,cellN k] b)):=by kernel_rfl
theorem BZa9 (x k:Int):wpFnS prog ⟨[], [],wl,y,false⟩ 100 f214 [.d (i64 x), .d (i64 k)] b R=R (.fn (.func 230) [] [.ptr 0 0, .ptr 1 0]) [cellN x,cellN k] b:=by kernel_rfl
end
def walkP:Nat→Nat→Nat→List (Bool×Bool)
 |0,_,_=> []
 |n+1,w,k=>if 1<w then (decide (sibN k<w),k % 2==1)::walkP n ((w+1) / 2) (k / 2) else []
def walkS (w k:Nat):List (Bool×Bool):=walkP w w k
def itemK (p:Bool×Bool):List AV:= [.d (bo p.1), .d (bo p.2)]
theorem wrWk {Ev:Env prog} {Q:Exit→St Ev.β→Prop}:∀(n w k:Nat) (b:Ev.β),w≤n+1→w<1000000→k<1000000→
   (YList Ev.Y ((walkP n w k).map itemK) b fun b'=>∀z t:Int,Q (.exit 0) ⟨tmWk, [cellN z,cellN t],b'⟩∧Q .ret ⟨tmWk, [cellN z,cellN t],b'⟩)→WR Ev lpWk (n+1) ⟨tmWk, [cellN w,cellN k],b⟩ Q
 | 0,w,k,b,hn,hw,hk,h=>by
   refine Zbw [0,1,2] mixed (CX.Ok.of (u:=false) Zah Zac) (k:=100) ?_
   rw [BAx9]
   exact Zct (by simp;omega) (h _ _).1
 | n+1,w,k,b,hn,hw,hk,h=>by
   refine Zbw [0,1,2] mixed (CX.Ok.of (u:=false) Zah Zac) (k:=100) ?_
   rw [BAx9]
   by_cases h1:1<w
   · rw [walkP,if_pos h1,Zcz] at h
     refine Zbf (by simp;omega) ?_
     have e1:decide (sibB (k:Int)<(w:Int))=decide (sibN k<w):=by rw [BBm9 hk];simp
     have e2:(Zdv (k:Int) 2==1)=(k % 2==1):=by
       rw [show Zdv (k:Int) 2=((k % 2:Nat):Int) from rfl]
       rcases Zdw k with h|h<;>rw [h]<;>rfl
     rw [e1,e2]
     refine Ev.Ymono h fun c b' h=> ?_
     cases c with
     | true=>
       refine Zct rfl ?_
       rw [AAl9 (x:=(w:Int)+1) (by omega) (by omega),show Zbq ((w:Int)+1) 2=(((w+1) / 2:Nat):Int) from rfl,show Zbq (k:Int) 2=((k / 2:Nat):Int) from rfl,AAl9 (by omega) (by omega),AAl9 (by omega) (by omega)]
       exact wrWk n ((w+1) / 2) (k / 2) b' (by omega) (by omega) (by omega) h
     |false=>exact Zbf rfl (h _ _).2
   · rw [walkP,if_neg h1] at h
     exact Zct (by simp;omega) (h _ _).1
def wlWk {β:Type} (y:ABr9 β):WLT β:=fun c tm hp b K=>∃(w k:Nat),c= .loop lpWk∧ABb9 [0,1,2] 0 tm=tmWk∧hp= [cellN w,cellN k]∧(w<1000000∧k<1000000)∧YList y ((walkS w k).map itemK) b fun b'=>∀z t:Int,K (.exit 0) tmWk [cellN z,cellN t] b'∧K .ret tmWk [cellN z,cellN t] b'
theorem BXj9 {Ev:Env prog} (c:Code) (tm:List AV) (hp:List Blk) (b:Ev.β) (K:Exit→List AV→List Blk→Ev.β→Prop) (h:wlWk Ev.Y c tm hp b K):W Ev c ⟨tm,hp,b⟩ (fun e s=>K e s.tm s.hp s.b):=by
 obtain ⟨w,k,rfl,htm,rfl,⟨hw,hk⟩,hK⟩:=h
 refine W.cast (htm▸AAg9 _ tm 0) (Zbt _) ?_
 exact W.rounds (wrWk (Q:=fun e s=>K e s.tm s.hp s.b) w w k b (by omega) hw hk hK)
theorem CIo9 (x k:Int):wpc prog ⟨[], [],wlWk y,y,false⟩ 100 (code f230) (ABc9 f230 [.yl, .ptr 0 0, .ptr 1 0]) [cellN x,cellN k] b (fnK prog f230 fun _ b=>Q b)=(
 ∃(w' k':Nat),Zax lpWk= .loop lpWk∧tmWk=tmWk∧ [cellN x,cellN k]= [cellN w',cellN k']∧(w'<1000000∧k'<1000000)∧YList y ((walkS w' k').map itemK) b fun b'=>∀_ _:Int,Q b'∧Q b'):=by kernel_rfl
set_option maxRecDepth 100000 in
theorem ic92 (w k:Nat) (hw:w<1000000) (hk:k<1000000):ATl9 prog 230 (.yl::AGd9 0 2) [cellN w,cellN k] (fun Y b Q=>YList Y ((walkS w k).map itemK) b Q):=by
 refine ATl9.ofW (c:=code f230) func230 rfl rfl fun Ev b Q h=> ?_
 have h1:wpc prog ⟨[], [],wlWk Ev.Y,Ev.Y,false⟩ 100 (code f230) (ABc9 f230 [.yl, .ptr 0 0, .ptr 1 0]) [cellN w,cellN k] b (fnK prog f230 fun _ b=>Q b):=by
   rw [CIo9]
   exact ⟨w,k,rfl,rfl,rfl,⟨hw,hk⟩,YList.mono (fun b h _ _=>⟨h,h⟩) _ _ h⟩
 refine AAr9 mixed (CX.Ok.ofWl (wl:=wlWk Ev.Y) (u:=false) Zah Zac BXj9) h1 fun e tm hp b hK=> ?_
 obtain ⟨g1,ys,g2,z,g3,g4⟩:=ACu9 hK
 exact ⟨g1,ys,g2,g4⟩
theorem CIl9 (x k:Int):FCall prog 214 [.d (i64 x), .d (i64 k)] (.fn (.func 230) [] [.ptr 0 0, .ptr 1 0]) [cellN x,cellN k]:=by
 refine FCall.ofFnW (n:=100) (u:=false) (fun _=>fun _ _ _ _ _=>False) mixed Zah Zac (fun Ev _ _ _ _ _ h=>h.elim) func214 (by rfl) (by rfl) (by rfl) fun Ev bb=> ?_
 rw [BZa9]
 exact ⟨rfl,rfl⟩
def sWalk (args:List AV) (hp:List Blk) (K:AV→List Blk→Prop):Prop:=∃(x k:Int),args= [.d (i64 x), .d (i64 k)]∧K (.fn (.func 230) [] [.ptr hp.length 0, .ptr (hp.length+1) 0]) (hp++ [cellN x,cellN k])
theorem BRt9:∀args hp K,sWalk args hp K→∃x hp',SCall prog 214 args hp x hp'∧K x hp':=by
 rintro _ hp K ⟨x,k,rfl,h⟩
 exact ⟨_,_,(CIl9 x k).toS rfl hp,by simpa [shift,AKb9,AHt9,AQs9,cellN,cellV,Zfe] using h⟩
def SCk:List (Nat×(List AV→List Blk→(AV→List Blk→Prop)→Prop)):= [(214,sWalk)]
theorem CLw9:AAk9 prog SCk:=Zci BRt9 Zac
noncomputable def rfCk:Code:=sub [1,1,1,0,1,2] (code f177)
theorem BBy9:rfCk= .rangeFunc (.tmp 41) #[42,43] (AAq9 rfCk) (ABu9 rfCk):=by kernel_rfl
theorem BKz9:code f177= .seq (sub [0] (code f177)) (.seq (sub [1,0] (code f177)) (.seq (sub [1,1,0] (code f177)) (.seq (.seq (sub [1,1,1,0,0] (code f177)) (.block 0 rfCk)) (sub [1,1,1,1] (code f177))))):=by kernel_rfl
def tmCa (r n i:Int) (p q:List (List Dv)):List AV:= [.d (u64 r), .d (i64 n), .d (i64 i), .d (.sl 1 p), .d (.sl 1 q), .bad, .bad, .bad, .bad, .ptr 0 0, .ptr 1 0]++Zag 58 .bad
def tmCb (r n i:Int):List AV:= [.d (u64 r), .d (i64 n), .d (i64 i), .bad, .bad, .bad, .bad, .bad, .bad, .ptr 0 0, .ptr 1 0, .ptr 2 0]++Zag 57 .bad
def tmCc (r:Int):List AV:= [.d (u64 r), .bad, .bad, .bad, .bad, .bad, .bad, .bad, .bad, .ptr 0 0, .ptr 1 0, .ptr 2 0]++Zag 29 .bad++ [.fn (.func 230) [] [.ptr 3 0, .ptr 4 0]]++Zag 27 .bad
def ckH (q:List (List Dv)) (z:Bool) (s:Int):List Blk:= [cellV (.d (.sl 1 q)),cellV (.d (bo z)),cellV (.d (u64 s))]
def ckH2 (q:List (List Dv)):List Blk:= [cellV (.d (.sl 1 q)),cellV (.d (bo false))]
theorem ck_a (r n i:Int) (p q:List (List Dv)):wpc prog ⟨[], [],wl,y,false⟩ 100 (sub [0] (code f177)) (ABc9 f177 [.d (u64 r), .d (i64 n), .d (i64 i), .d (.sl 1 p), .d (.sl 1 q)]) [] b K=K .normal (tmCa r n i p q) (ckH2 q) b:=by kernel_rfl
theorem ck_b (r n i:Int) (p q:List (List Dv)):wpc prog ⟨[], [],wl,y,false⟩ 100 (sub [1,0] (code f177)) (tmCa r n i p q) (ckH2 q) b (maskT [0,1,2,3,4,9,10] K)=(
 BIf (decide (n<1)) (K .ret (tmCa r n i p q) (ckH2 q) b) (BIf (decide (n>16)) (K .ret (tmCa r n i p q) (ckH2 q) b) (BIf (decide (i<0)) (K .ret (tmCa r n i p q) (ckH2 q) b) (BIf (decide (i≥n)) (K .ret (tmCa r n i p q) (ckH2 q) b)
   (BIf (decide ((p.length:Int)>256)) (K .ret (tmCa r n i p q) (ckH2 q) b) (K .normal (tmCa r n i p q) (ckH2 q) b)))))):=by kernel_rfl
theorem ck_c (r n i:Int) (p q:List (List Dv)):wpc prog ⟨TLv, [],wl,y,false⟩ 100 (sub [1,1,0] (code f177)) (tmCa r n i p q) (ckH2 q) b (maskT [0,1,2,9,10,11] K)=(
 ∃(p0:List Int) (z1:Int), [AV.full 1 [[.sl 1 p]]]= [.full 1 [[.sl 1 (AAa9 p0)]]]∧(p0.length≤9223372036854775807∧z1=leafS p0)∧K .normal (tmCb r n i) (ckH q false z1) b):=by kernel_rfl
theorem ck_d (r n i s:Int) (q:List (List Dv)):wpc prog ⟨TLv,SCk,wl,y,false⟩ 100 (sub [1,1,1,0,0] (code f177)) (tmCb r n i) (ckH q false s) b (maskT [0,9,10,11,41] K)=(
 ∃(x0 k1:Int), [Zae (i64 n), .d (i64 i)]= [.d (i64 x0), .d (i64 k1)]∧K .normal (tmCc r) (ckH q false s++ [cellN x0,cellN k1]) b):=by kernel_rfl
def rest1 (q:List (List Dv)):List (List Dv):=List.take (Zam (q.length:Int) - Zam 1) (List.drop (Zam 1) q)
theorem BVf9 (r s:Int) (t u:Bool) (q:List (List Dv)):wpcY prog ⟨TLv, [],wl,y,false⟩ 100 #[42,43] (AAq9 rfCk) (ABu9 rfCk) (lowTm 3 (tmCc r)) [.d (bo t), .d (bo u)] (ckH q false s) b (takeK 3 Kh)=(
 BIf (!t) (Kh .normal (ckH q false s) b) (BIf ((q.length:Int)==0) (Kh .ret (ckH q false s) b) (∃(x0:Int),q[0]? =some [u64 x0]∧
   BIf u (∃(a3 c4 z5:Int), [Zae (u64 x0), .d (u64 s)]= [.d (u64 a3), .d (u64 c4)]∧z5=pairS a3 c4∧BIf (true&&decide ((0:Int)≤1∧(1:Int)≤q.length∧(q.length:Int)≤q.length∧(q.length:Int)≤q.length)) (Kh .normal (ckH (rest1 q) false z5) b) False)
     (∃(a6 c7 z8:Int), [Zae (u64 s), .d (u64 x0)]= [.d (u64 a6), .d (u64 c7)]∧z8=pairS a6 c7∧BIf (true&&decide ((0:Int)≤1∧(1:Int)≤q.length∧(q.length:Int)≤q.length∧(q.length:Int)≤q.length)) (Kh .normal (ckH (rest1 q) false z8) b) False)))):=by kernel_rfl
theorem ck_e (r s:Int) (q:List (List Dv)):wpc prog ⟨[], [],wl,y,false⟩ 100 (sub [1,1,1,1] (code f177)) (lowTm 3 (tmCc r)) (ckH q false s) b (maskT [10] K)=(
 BIf ((q.length:Int)==0) (K .ret (Zag 10 .bad++ [.ptr 1 0]++Zag 58 .bad) (ckH q (s==r) s) b) (K .ret (Zag 10 .bad++ [.ptr 1 0]++Zag 58 .bad) (ckH q false s) b)):=by kernel_rfl
def AEa9:List (Bool×Bool)→List Int→Int→Option (List Int×Int)
 | [],q,s=>some (q,s)
 |(t,u)::l,q,s=>if t then match q with
     | []=>none
     |x::q=>AEa9 l q (if u then pairS x s else pairS s x)
   else AEa9 l q s
theorem APs9 (u:Bool) (l:List (Bool×Bool)) (q:List Int) (s:Int):AEa9 ((false,u)::l) q s=AEa9 l q s:=by cases q<;>simp [AEa9]
theorem ASm9 (u:Bool) (l:List (Bool×Bool)) (s:Int):AEa9 ((true,u)::l) [] s=none:=by rw [AEa9,if_pos rfl]
theorem APq9 (l:List (Bool×Bool)) (x:Int) (q:List Int) (s:Int):AEa9 ((true,true)::l) (x::q) s=AEa9 l q (pairS x s):=by rw [AEa9,if_pos rfl,if_pos rfl]
theorem APr9 (l:List (Bool×Bool)) (x:Int) (q:List Int) (s:Int):AEa9 ((true,false)::l) (x::q) s=AEa9 l q (pairS s x):=by rw [AEa9,if_pos rfl,if_neg (by simp)]
def topS (r:Int):Option (List Int×Int)→Bool
 |some (q,s)=>q.isEmpty&&s==r
 |none=>false
def ACw9 (r n i:Int) (p q:List Int):Bool:= !decide (n<1)&&(!decide (n>16)&&(!decide (i<0)&&(!decide (i≥n)&&(!decide ((p.length:Int)>256)&&topS r (AEa9 (walkS n.toNat i.toNat) q (leafS p))))))
theorem BCe9 (x:Int) (q:List Int):rest1 (digR (x::q))=digR q:=by
 unfold rest1
 rw [show Zam 1=1 from rfl,Zas,AAn9,show (digR (x::q)).drop 1=digR q from rfl]
 exact List.take_of_length_le (by rw [AAn9];simp)
theorem AVy9 {Ev:Env prog} {b:Ev.β} {Q:Exit→St Ev.β→Prop} (r:Int):∀(ls:List (Bool×Bool)) (q:List Int) (s:Int),
   (∀q' s',AEa9 ls q s=some (q',s')→Q .normal ⟨lowTm 3 (tmCc r),ckH (digR q') false s',b⟩)→(AEa9 ls q s=none→∀q' s',Q .ret ⟨lowTm 3 (tmCc r),ckH q' false s',b⟩)→
   YList (YBody Ev (lowTm 3 (tmCc r)) #[42,43] (AAq9 rfCk) (ABu9 rfCk) 3) (ls.map itemK) (ckH (digR q) false s,b,none) (ADt9 (lowTm 3 (tmCc r)) Q)
 | [],q,s,h1,h2=>h1 q s rfl
 | (t,u)::ls,q,s,h1,h2=>by
   rw [Zcz]
   refine YList.step (X:=⟨TLv, [],wlW Ev,Ev.Y,false⟩) (k:=100) mixed (CX.Ok.of ANc9 Zac) rfl ?_
   show wpcY _ _ _ _ _ _ _ [.d (bo t), .d (bo u)] _ b (takeK 3 _)
   rw [BVf9]
   cases t with
   | false=>
     rw [APs9] at h1 h2
     exact Zbf rfl (AVy9 r ls q s h1 h2)
   | true=>
     refine Zct rfl ?_
     cases q with
     |nil=>exact Zbf rfl (h2 (ASm9 _ _ _) _ _)
     | cons x q=>
       refine Zct (by rw [AAn9];simp;omega) ⟨x,rfl, ?_⟩
       have hc:decide ((0:Int)≤1∧(1:Int)≤(digR (x::q)).length∧((digR (x::q)).length:Int)≤(digR (x::q)).length∧((digR (x::q)).length:Int)≤(digR (x::q)).length)=true:=decide_eq_true (by rw [AAn9];simp only [List.length_cons];omega)
       cases u with
       | true=>
         rw [APq9] at h1 h2
         refine Zbf rfl ⟨_,_,_,rfl,rfl,Zbf (by rw [hc];rfl) ?_⟩
         rw [BCe9]
         exact AVy9 r ls q (pairS x s) h1 h2
       | false=>
         rw [APr9] at h1 h2
         refine Zct rfl ⟨_,_,_,rfl,rfl,Zbf (by rw [hc];rfl) ?_⟩
         rw [BCe9]
         exact AVy9 r ls q (pairS s x) h1 h2
theorem CJw9 (r n i:Int) (p q:List (List Dv)):resAs prog (ckH2 q) (tmCa r n i p q) Tryz.f177.results.toList=some [.d (bo false)]:=by kernel_rfl
theorem CJv9 (r s:Int) (z:Bool) (q:List (List Dv)):resAs prog (ckH q z s) (lowTm 3 (tmCc r)) Tryz.f177.results.toList=some [.d (bo z)]:=by kernel_rfl
theorem CJu9 (s:Int) (z:Bool) (q:List (List Dv)):resAs prog (ckH q z s) (Zag 10 .bad++ [.ptr 1 0]++Zag 58 .bad) Tryz.f177.results.toList=some [.d (bo z)]:=by kernel_rfl
theorem CBl9 (r n i:Int) (p q:List Int):PCall prog 177 [.d (u64 r), .d (i64 n), .d (i64 i), .d (.sl 1 (AAa9 p)), .d (.sl 1 (digR q))] (.d (bo (ACw9 r n i p q))):=by
 refine PCall.ofW0 (x0:=bo (ACw9 r n i p q)) (c:=code f177) func177 rfl rfl rfl fun Ev b=> ?_
 have hfin:∀ {tm:List AV} {hp:List Blk} {b':Ev.β} (z:Bool),resAs prog hp tm Tryz.f177.results.toList=some [.d (bo z)]→z=ACw9 r n i p q→AIb9 prog f177 (fun y hp _=>y= .d (bo (ACw9 r n i p q))∧Zae (bo (ACw9 r n i p q))= .d (bo (ACw9 r n i p q))) .ret (⟨tm,hp,b'⟩:St Ev.β):=by
   rintro tm hp b' z h rfl;exact ⟨.inl rfl,_,h,rfl,rfl⟩
 rw [BKz9]
 refine W0.seq (W0.of (AAr9 mixed (CX.Ok.of (u:=false) Zah Zac) (n:=100) (K:=thenK (fun tm hp b'=>tm=tmCa r n i (AAa9 p) (digR q)∧hp=ckH2 (digR q)) fun _ _ _ _=>False) ?_ ?_))
 · rw [ck_a];exact ⟨rfl,rfl⟩
 intro e tm hp b' h
 cases e<;>first|exact h.elim|skip
 obtain ⟨rfl,rfl⟩:=h
 refine W0.seq (W0.of (W.castPost (AAr9 mixed (CX.Ok.of (u:=false) Zah Zac) (n:=100) (K:=maskT [0,1,2,3,4,9,10] fun e tm hp b'=>tm=tmCa r n i (AAa9 p) (digR q)∧hp=ckH2 (digR q)∧
   ((e= .normal∧1≤n∧n≤16∧0≤i∧i<n∧p.length≤256∧ACw9 r n i p q=topS r (AEa9 (walkS n.toNat i.toNat) q (leafS p)))∨(e= .ret∧false=ACw9 r n i p q))) ?_ ?_)))
 · rw [ck_b,AAh9]
   refine Zaj (fun g=>⟨rfl,rfl, .inr ⟨rfl,by rw [ACw9,g];rfl⟩⟩) fun g1=>Zaj (fun g=>⟨rfl,rfl, .inr ⟨rfl,by rw [ACw9,g1,g];rfl⟩⟩) fun g2=>Zaj (fun g=>⟨rfl,rfl, .inr ⟨rfl,by rw [ACw9,g1,g2,g];rfl⟩⟩) fun g3=>
     Zaj (fun g=>⟨rfl,rfl, .inr ⟨rfl,by rw [ACw9,g1,g2,g3,g];rfl⟩⟩) fun g4=>Zaj (fun g=>⟨rfl,rfl, .inr ⟨rfl,by rw [ACw9,g1,g2,g3,g4,g];rfl⟩⟩) fun g5=>⟨rfl,rfl, .inl ⟨rfl, ?_⟩⟩
   refine ⟨?_, ?_, ?_, ?_, ?_,by rw [ACw9,g1,g2,g3,g4,g5];rfl⟩
   · simp at g1;omega
   · simp at g2;omega
   · simp at g3;omega
   · simp at g4;omega
   · simp at g5;omega
 intro e tm hp b' h
 refine ⟨_,_,AAg9 [0,1,2,3,4,9,10] tm 0,Zbt _, ?_⟩
 obtain ⟨h1,rfl,h2⟩:=h
 rcases h2 with ⟨rfl,n1,n2,i1,i2,hp,hck⟩|⟨rfl,hz⟩
 rotate_left
 · rw [h1]
   exact hfin false (CJw9 _ _ _ _ _) hz
 show W0 Ev _ _ _
 rw [h1]
 clear h1
 obtain ⟨w,rfl⟩:=Zcb (show 0≤n by omega)
 obtain ⟨k,rfl⟩:=Zcb i1
 rw [Zas,Zas] at hck
 refine W0.seq (W0.of (W.castPost (AAr9 mixed (CX.Ok.of (u:=false) ANc9 Zac) (n:=100) (K:=maskT [0,1,2,9,10,11] (thenK (fun tm hp b'=>tm=tmCb r w k∧hp=ckH (digR q) false (leafS p)) fun _ _ _ _=>False)) ?_ ?_)))
 · rw [ck_c];exact ⟨p,_,rfl,⟨by omega,rfl⟩,rfl,rfl⟩
 intro e tm hp b' h
 refine ⟨_,_,AAg9 [0,1,2,9,10,11] tm 0,Zbt _, ?_⟩
 cases e<;>first|exact h.elim|skip
 obtain ⟨h1,rfl⟩:=h
 show W0 Ev _ _ _
 rw [h1]
 clear h1
 refine W0.seq (W0.seq (W0.of (W.castPost (AAr9 mixed (CX.Ok.of (u:=false) ANc9 CLw9) (n:=100) (K:=maskT [0,9,10,11,41] (thenK (fun tm hp b'=>tm=tmCc r∧hp=ckH (digR q) false (leafS p)++ [cellN w,cellN k]) fun _ _ _ _=>False)) ?_ ?_))))
 · rw [ck_d];exact ⟨_,_,rfl,rfl,rfl⟩
 intro e tm hp b' h
 refine ⟨_,_,AAg9 [0,9,10,11,41] tm 0,Zbt _, ?_⟩
 cases e<;>first|exact h.elim|skip
 obtain ⟨h1,rfl⟩:=h
 show W0 Ev _ _ _
 rw [h1]
 clear h1
 refine W0.block ?_
 rw [BBy9]
 refine W0.ranges (hp0:=ckH (digR q) false (leafS p)) (lent:= [cellN w,cellN k]) rfl ?_ rfl ?_ rfl (ic92 w k (by omega) (by omega)) ?_
 · intro q hq;simp at hq;rcases hq with rfl|rfl<;>rfl
 · intro q hq;simp at hq;rcases hq with rfl|rfl<;>exact ⟨rfl,rfl⟩
 refine AVy9 r (walkS w k) q (leafS p) (fun q' s' hc=> ?_) fun hc q' s'=> ?_
 · show W0 Ev _ _ _
   refine W0.of (W.castPost (AAr9 mixed (CX.Ok.of (u:=false) Zah Zac) (n:=100) (K:=maskT [10] fun e tm hp b'=>e= .ret∧tm=Zag 10 .bad++ [.ptr 1 0]++Zag 58 .bad∧hp=ckH (digR q') (topS r (some (q',s'))) s') ?_ ?_))
   · rw [ck_e,AAn9]
     refine Zaj (fun g=>⟨rfl,rfl, ?_⟩) fun g=>⟨rfl,rfl, ?_⟩
     · have:q'= []:=by simpa using g
       subst this;rfl
     · cases q' with
       |nil=>simp at g
       |cons=>rfl
   intro e tm hp b' h
   refine ⟨_,_,AAg9 [10] tm 0,Zbt _, ?_⟩
   obtain ⟨rfl,h1,rfl⟩:=h
   rw [h1]
   exact hfin _ (CJu9 _ _ _) (by rw [hck,hc])
 · exact hfin false (CJv9 _ _ _ _) (by rw [hck,hc];rfl)
def CEd9 (args:List AV) (K:AV→Prop):Prop:=∃(r n i:Int) (p q:List Int) (z:Bool),args= [.d (u64 r), .d (i64 n), .d (i64 i), .d (.sl 1 (AAa9 p)), .d (.sl 1 (digR q))]∧z=ACw9 r n i p q∧K (.d (bo z))
theorem BMq9:∀args K,CEd9 args K→∃x,PCall prog 177 args x∧K x:=by
 rintro _ K ⟨r,n,i,p,q,_,rfl,rfl,h⟩;exact ⟨_,CBl9 r n i p q,h⟩
noncomputable def rfSp:Code:=sub [1,1,1,0,1,2] (code f27)
theorem BBu9:rfSp= .rangeFunc (.tmp 12) #[13] (AAq9 rfSp) (ABu9 rfSp):=by kernel_rfl
def tmSp (ps:List (List Dv)):List AV:= [.bad, .bad, .bad, .bad, .ptr 0 0]++Zag 7 .bad++ [.fn (.func 147) [] [.rptr [.sl 1 ps], .rptr [i64 256]]]++Zag 10 .bad
def ACl9 (n:Int):Bool:=decide (n≥1)&&decide (n≤4096)
def ABj9 (n:Int):Int:=Zaa Zap (Zbq (Zaa Zap (Zaa Zap (n+(256:Int)) - (1:Int))) (256:Int))
theorem BRi9 (n:Int):wpFn prog ⟨[], [],wl,y,false⟩ 100 f85 [.d (i64 n)] b R=BIf (decide (n≥1)) (R (.d (bo (decide (n≤4096)))) b) (R (.d (bo false)) b):=by kernel_rfl
theorem BVd9 (n:Int):wpFn prog ⟨[], [],wl,y,false⟩ 100 f125 [.d (i64 n)] b R=R (.d (i64 (ABj9 n))) b:=by kernel_rfl
theorem BLo9 (xs:List (List Dv)):wpFn prog ⟨[], [],wl,y,false⟩ 100 f86 [.d (.sl 1 xs), .d (i64 256)] b R=R (.fn (.func 147) [] [.rptr [.sl 1 xs], .rptr [i64 256]]) b:=by kernel_rfl
theorem CAn9 (n:Int):PCall prog 85 [.d (i64 n)] (.d (bo (ACl9 n))):=by
 refine Zaz (n:=100) (u:=false) mixed Zah Zac func85 (by rfl) (by rfl) fun Ev bb=> ?_
 rw [BRi9]
 exact Zaj (fun h=>by rw [ACl9,h];rfl) fun h=>by rw [ACl9,h];rfl
def BLy9 (args:List AV) (K:AV→Prop):Prop:=∃(n:Int) (z:Bool),args= [.d (i64 n)]∧z=ACl9 n∧K (.d (bo z))
theorem APt9:∀args K,BLy9 args K→∃x,PCall prog 85 args x∧K x:=by
 rintro _ K ⟨n,_,rfl,rfl,h⟩;exact ⟨_,CAn9 n,h⟩
theorem CBj9 (n:Int):PCall prog 125 [.d (i64 n)] (.d (i64 (ABj9 n))):=by
 refine Zaz (n:=100) (u:=false) mixed Zah Zac func125 (by rfl) (by rfl) fun Ev bb=> ?_
 rw [BVd9]
def BHb9 (args:List AV) (K:AV→Prop):Prop:=∃(n z:Int),args= [.d (i64 n)]∧z=ABj9 n∧K (.d (i64 z))
theorem AKt9:∀args K,BHb9 args K→∃x,PCall prog 125 args x∧K x:=by
 rintro _ K ⟨n,_,rfl,rfl,h⟩;exact ⟨_,CBj9 n,h⟩
theorem BTp9 (xs:List (List Dv)):PCall prog 86 [.d (.sl 1 xs), .d (i64 256)] (.fn (.func 147) [] [.rptr [.sl 1 xs], .rptr [i64 256]]):=by
 refine Zaz (n:=100) (u:=false) mixed Zah Zac func86 (by rfl) (by rfl) fun Ev bb=> ?_
 rw [BLo9]
def BPq9 (args:List AV) (K:AV→Prop):Prop:=∃(xs:List (List Dv)),args= [.d (.sl 1 xs), .d (i64 256)]∧K (.fn (.func 147) [] [.rptr [.sl 1 xs], .rptr [i64 256]])
theorem BHe9:∀args K,BPq9 args K→∃x,PCall prog 86 args x∧K x:=by
 rintro _ K ⟨xs,rfl,h⟩;exact ⟨_,BTp9 xs,h⟩
def TAn:List (Nat×(List AV→(AV→Prop)→Prop)):= [(85,BLy9)]
theorem CLp9:AAf9 prog TAn:=Zaf APt9 Zah
def notA (a n r t:Int):AV:= .agg [.d (i64 a), .d (i64 n), .d (u64 r), .d (i64 t)]
def AAi9 (a n t:Int):Bool:=decide (a≥1)&&(decide (a≤1000000000)&&(ACl9 n&&(decide (t≥0)&&decide (t≤1000000000))))
theorem AVa9 (a n r t:Int):wpFn prog ⟨TAn, [],wl,y,false⟩ 100 f83 [notA a n r t] b R=(
 BIf (decide (a≥1)) (BIf (decide (a≤1000000000)) (∃(n0:Int) (z1:Bool), [Zae (i64 n)]= [.d (i64 n0)]∧z1=ACl9 n0∧BIf z1 (BIf (decide (t≥0)) (R (.d (bo (decide (t≤1000000000)))) b) (R (.d (bo false)) b)) (R (.d (bo false)) b)) (R (.d (bo false)) b)) (R (.d (bo false)) b)):=by kernel_rfl
theorem AZi9 (a n r t:Int):PCall prog 83 [notA a n r t] (.d (bo (AAi9 a n t))):=by
 refine Zaz (n:=100) (u:=false) mixed CLp9 Zac func83 (by rfl) (by rfl) fun Ev bb=> ?_
 rw [AVa9]
 refine Zaj (fun h1=>Zaj (fun h2=>⟨n,_,rfl,rfl,Zaj (fun h3=>Zaj (fun h4=> ?_) fun h4=> ?_) fun h3=> ?_⟩) fun h2=> ?_) fun h1=> ?_
 · rw [AAi9,h1,h2,h3,h4];rfl
 · rw [AAi9,h1,h2,h3,h4];rfl
 · rw [AAi9,h1,h2,h3];rfl
 · rw [AAi9,h1,h2];rfl
 · rw [AAi9,h1];rfl
def AMn9 (args:List AV) (K:AV→Prop):Prop:=∃(a n r t:Int) (z:Bool),args= [notA a n r t]∧z=AAi9 a n t∧K (.d (bo z))
theorem AJw9:∀args K,AMn9 args K→∃x,PCall prog 83 args x∧K x:=by
 rintro _ K ⟨a,n,r,t,_,rfl,rfl,h⟩;exact ⟨_,AZi9 a n r t,h⟩
theorem BSg9 (n:Int):wpFn prog ⟨[], [],wl,y,false⟩ 100 f141 [.d (i64 n)] b R=BIf (decide (n≥1)) (R (.d (bo (decide (n≤4096)))) b) (R (.d (bo false)) b):=by kernel_rfl
theorem CAt9 (n:Int):PCall prog 141 [.d (i64 n)] (.d (bo (ACl9 n))):=by
 refine Zaz (n:=100) (u:=false) mixed Zah Zac func141 (by rfl) (by rfl) fun Ev bb=> ?_
 rw [BSg9]
 exact Zaj (fun h=>by rw [ACl9,h];rfl) fun h=>by rw [ACl9,h];rfl
def CDm9 (args:List AV) (K:AV→Prop):Prop:=∃(n:Int) (z:Bool),args= [.d (i64 n)]∧z=ACl9 n∧K (.d (bo z))
theorem BMc9:∀args K,CDm9 args K→∃x,PCall prog 141 args x∧K x:=by
 rintro _ K ⟨n,_,rfl,rfl,h⟩;exact ⟨_,CAt9 n,h⟩
def TRn:List (Nat×(List AV→(AV→Prop)→Prop)):= [(141,CDm9)]
theorem CLa9:AAf9 prog TRn:=Zaf BMc9 Zah
theorem BCw9 (a n r t:Int):wpFn prog ⟨TRn, [],wl,y,false⟩ 100 f76 [notA a n r t] b R=(
 BIf (decide (a≥1)) (BIf (decide (a≤1000000000)) (∃(n0:Int) (z1:Bool), [Zae (i64 n)]= [.d (i64 n0)]∧z1=ACl9 n0∧BIf z1 (BIf (decide (t≥0)) (R (.d (bo (decide (t≤1000000000)))) b) (R (.d (bo false)) b)) (R (.d (bo false)) b)) (R (.d (bo false)) b)) (R (.d (bo false)) b)):=by kernel_rfl
theorem BJt9 (a n r t:Int):PCall prog 76 [notA a n r t] (.d (bo (AAi9 a n t))):=by
 refine Zaz (n:=100) (u:=false) mixed CLa9 Zac func76 (by rfl) (by rfl) fun Ev bb=> ?_
 rw [BCw9]
 refine Zaj (fun h1=>Zaj (fun h2=>⟨n,_,rfl,rfl,Zaj (fun h3=>Zaj (fun h4=> ?_) fun h4=> ?_) fun h3=> ?_⟩) fun h2=> ?_) fun h1=> ?_
 · rw [AAi9,h1,h2,h3,h4];rfl
 · rw [AAi9,h1,h2,h3,h4];rfl
 · rw [AAi9,h1,h2,h3];rfl
 · rw [AAi9,h1,h2];rfl
 · rw [AAi9,h1];rfl
def BGo9 (args:List AV) (K:AV→Prop):Prop:=∃(a n r t:Int) (z:Bool),args= [notA a n r t]∧z=AAi9 a n t∧K (.d (bo z))
theorem AOf9:∀args K,BGo9 args K→∃x,PCall prog 76 args x∧K x:=by
 rintro _ K ⟨a,n,r,t,_,rfl,rfl,h⟩;exact ⟨_,BJt9 a n r t,h⟩
noncomputable def lpRp:Code:=sub [1,0,1,2,3] (code f142)
def tmRp (ps:List (List Dv)) (i:Int):List AV:= [.d (.sl 1 ps), .bad, .bad, .d (i64 i)]++Zag 12 .bad
theorem BBr9 (ps:List (List Dv)) (i:Int):wpc prog ⟨[], [],wl,y,false⟩ 100 lpRp (tmRp ps i) [] b (maskK 0 [0,2,3] K)=(
 BIf (decide (i<(ps.length:Int))) (BIf (true&&decide (0≤i)) (∃(xs0:List (List Dv)),ps[Zam i]? =some [Zai 1 xs0]∧BIf ((xs0.length:Int) !=256) (K .ret ((tmRp ps i).set 2 (.d (bo false))) [] b) (K .normal (tmRp ps (Zaa .i64 (i+1))) [] b)) False)
   (K (.exit 0) (tmRp ps i) [] b)):=by kernel_rfl
set_option maxRecDepth 10000 in
theorem wrRp {Ev:Env prog} {b:Ev.β} {Q:Exit→St Ev.β→Prop} (ps:List (List Int)) (hl:ps.length≤9223372036854775807):∀(rest:List (List Int)) (k:Nat),ps.drop k=rest→k≤ps.length→
   (AAx9 rest=false→∀i:Int,Q (.exit 0) ⟨tmRp (AAc9 ps) i, [],b⟩)→(AAx9 rest=true→∀i:Int,Q .ret ⟨(tmRp (AAc9 ps) i).set 2 (.d (bo false)), [],b⟩)→
   WR Ev lpRp (rest.length+1) ⟨tmRp (AAc9 ps) k, [],b⟩ Q
 | [],k,hd,hk,h1,h2=>by
   refine Zcn [0,2,3] mixed (CX.Ok.of (u:=false) Zah Zac) (k:=100) ?_
   show wpc _ _ _ _ _ _ _ (maskK 0 _ _)
   rw [BBr9,AAd9]
   have:=ABm9 hd
   exact Zct (by simp;omega) (h1 rfl _)
 | p::rest,k,hd,hk,h1,h2=>by
   refine Zcn [0,2,3] mixed (CX.Ok.of (u:=false) Zah Zac) (k:=100) ?_
   show wpc _ _ _ _ _ _ _ (maskK 0 _ _)
   rw [BBr9,AAd9]
   obtain ⟨hk',hr,hd'⟩:=AAw9 hd
   refine Zbf (by simp;omega) (Zbf (by simp) ⟨AAa9 p,by simp [AAc9,hr],Zaj (fun hz=> ?_) fun hz=> ?_⟩)
   · rw [AAh9] at hz
     exact h2 (by rw [AAx9,List.any_cons,hz];rfl) _
   · rw [AAh9] at hz
     rw [AAu9 hk' hl]
     have e:AAx9 (p::rest)=AAx9 rest:=by rw [AAx9,List.any_cons,hz];rfl
     rw [e] at h1 h2
     exact wrRp ps hl rest (k+1) hd' hk' h1 h2
def wlRp {β:Type}:WLT β:=fun c tm hp b K=>∃(ps:List (List Int)) (z:Bool),c= .loop lpRp∧ABb9 [0,3] 0 tm=tmRp (AAc9 ps) 0∧hp= []∧(ps.length≤9223372036854775807∧z=AAx9 ps)∧
 BIf z (∀i:Int,K .ret ((tmRp (AAc9 ps) i).set 2 (.d (bo false))) [] b) (∀i:Int,K (.exit 0) (tmRp (AAc9 ps) i) [] b)
theorem BXr9 {Ev:Env prog} (c:Code) (tm:List AV) (hp:List Blk) (b:Ev.β) (K:Exit→List AV→List Blk→Ev.β→Prop) (h:wlRp c tm hp b K):W Ev c ⟨tm,hp,b⟩ (fun e s=>K e s.tm s.hp s.b):=by
 obtain ⟨ps,z,rfl,htm,rfl,⟨hl,hz⟩,hK⟩:=h
 refine W.cast (htm▸AAg9 _ tm 0) (Zbt _) ?_
 exact W.rounds (wrRp (Q:=fun e s=>K e s.tm s.hp s.b) ps hl ps 0 rfl (Zdb _) (fun h=>by rw [hz,h] at hK;exact hK) fun h=>by rw [hz,h] at hK;exact hK)
theorem BJf9 (ps:List (List Dv)):wpFn prog ⟨[], [],wlRp,y,false⟩ 100 f142 [.d (.sl 1 ps)] b R=(
 ∃ (ps1:List (List Int)) (z:Bool),Zax lpRp= .loop lpRp∧tmRp ps 0=tmRp (AAc9 ps1) 0∧([]:List Blk)= []∧(ps1.length≤9223372036854775807∧z=AAx9 ps1)∧
   BIf z (∀_:Int,R (.d (bo false)) b) (∀_:Int,R (.d (bo true)) b)):=by kernel_rfl
theorem BTb9 (ps:List (List Int)) (hl:ps.length≤9223372036854775807):PCall prog 142 [.d (.sl 1 (AAc9 ps))] (.d (bo (!AAx9 ps))):=by
 refine Zcd (n:=100) (u:=false) (fun _=>wlRp) mixed Zah Zac (fun Ev=>BXr9) func142 (by rfl) (by rfl) fun Ev bb=> ?_
 rw [BJf9]
 exact ⟨ps,_,rfl,rfl,rfl,⟨hl,rfl⟩,Zaj (fun h i=>by rw [h];rfl) fun h i=>by rw [h];rfl⟩
def BPi9 (args:List AV) (K:AV→Prop):Prop:=∃(ps:List (List Int)) (z:Bool),args= [.d (.sl 1 (AAc9 ps))]∧(ps.length≤9223372036854775807∧z= !AAx9 ps)∧K (.d (bo z))
theorem BGm9:∀args K,BPi9 args K→∃x,PCall prog 142 args x∧K x:=by
 rintro _ K ⟨ps,_,rfl,⟨hl,rfl⟩,h⟩;exact ⟨_,BTb9 ps hl,h⟩
noncomputable def lpRa:Code:=sub [1,0,1,2,3] (code f217)
def tmRa (s:Int) (p:List (List Dv)) (i:Int):List AV:= [.d (u64 s), .d (.sl 1 p), .bad, .bad, .bad, .d (i64 i)]++Zag 15 .bad
theorem BCv9 (s:Int) (p:List (List Dv)) (i:Int):wpc prog ⟨[], [],wl,y,false⟩ 100 lpRa (tmRa s p i) [] b (maskK 0 [0,1,5] K)=(
 BIf (decide (i<(p.length:Int))) (BIf (true&&decide (0≤i)) (∃(x0:Int),p[Zam i]? =some [u8 x0]∧K .normal (tmRa (stepS s (Zaa .u64 x0)) p (Zaa .i64 (i+1))) [] b) False) (K (.exit 0) (tmRa s p i) [] b)):=by kernel_rfl
theorem BSh9 (s w:Int):wpFn prog ⟨[], [],wl,y,false⟩ 100 f185 [.d (u64 s), .d (u64 w)] b R=R (.d (u64 (pairS s w))) b:=by kernel_rfl
theorem CAu9 (a c:Int):PCall prog 185 [.d (u64 a), .d (u64 c)] (.d (u64 (pairS a c))):=by
 refine Zaz (n:=100) (u:=false) mixed Zah Zac func185 (by rfl) (by rfl) fun Ev bb=> ?_
 rw [BSh9]
def CDp9 (args:List AV) (K:AV→Prop):Prop:=∃(a c z:Int),args= [.d (u64 a), .d (u64 c)]∧z=pairS a c∧K (.d (u64 z))
theorem BMf9:∀args K,CDp9 args K→∃x,PCall prog 185 args x∧K x:=by
 rintro _ K ⟨a,c,_,rfl,rfl,h⟩;exact ⟨_,CAu9 a c,h⟩
set_option maxRecDepth 10000 in
theorem wrRa {Ev:Env prog} {b:Ev.β} {Q:Exit→St Ev.β→Prop} (p:List Int) (hl:p.length≤9223372036854775807):∀(rest:List Int) (k:Nat) (s:Int),p.drop k=rest→k≤p.length→
   (∀i:Int,Q (.exit 0) ⟨tmRa (addB s rest) (AAa9 p) i, [],b⟩)→WR Ev lpRa (rest.length+1) ⟨tmRa s (AAa9 p) k, [],b⟩ Q
 | [],k,s,hd,hk,h=>by
   refine Zcn [0,1,5] mixed (CX.Ok.of (u:=false) Zah Zac) (k:=100) ?_
   show wpc _ _ _ _ _ _ _ (maskK 0 _ _)
   rw [BCv9,AAh9]
   have:=ABm9 hd
   exact Zct (by simp;omega) (h _)
 | z::rest,k,s,hd,hk,h=>by
   refine Zcn [0,1,5] mixed (CX.Ok.of (u:=false) Zah Zac) (k:=100) ?_
   show wpc _ _ _ _ _ _ _ (maskK 0 _ _)
   rw [BCv9,AAh9]
   obtain ⟨hk',hr,hd'⟩:=AAw9 hd
   refine Zbf (by simp;omega) (Zbf (by simp) ⟨z,by simp [AAa9,hr], ?_⟩)
   rw [AAu9 hk' hl]
   rw [show addB s (z::rest)=addB (stepS s (Zaa .u64 z)) rest from List.foldl_cons ..] at h
   exact wrRa p hl rest (k+1) _ hd' hk' h
def wlRa {β:Type}:WLT β:=fun c tm hp b K=>∃(s:Int) (p:List Int) (z:Int),c= .loop lpRa∧ABb9 [0,1,5] 0 tm=tmRa s (AAa9 p) 0∧hp= []∧(p.length≤9223372036854775807∧z=addB s p)∧∀i:Int,K (.exit 0) (tmRa z (AAa9 p) i) [] b
theorem BXs9 {Ev:Env prog} (c:Code) (tm:List AV) (hp:List Blk) (b:Ev.β) (K:Exit→List AV→List Blk→Ev.β→Prop) (h:wlRa c tm hp b K):W Ev c ⟨tm,hp,b⟩ (fun e s=>K e s.tm s.hp s.b):=by
 obtain ⟨s,p,z,rfl,htm,rfl,⟨hl,rfl⟩,hK⟩:=h
 refine W.cast (htm▸AAg9 _ tm 0) (Zbt _) ?_
 exact W.rounds (wrRa (Q:=fun e s=>K e s.tm s.hp s.b) p hl p 0 s rfl (Zdb _) hK)
theorem CAc9 (s:Int) (p:List (List Dv)):wpFn prog ⟨[], [],wlRa,y,false⟩ 100 f217 [.d (u64 s), .d (.sl 1 p)] b R=(
 ∃(s1:Int) (p1:List Int) (z:Int),Zax lpRa= .loop lpRa∧tmRa s p 0=tmRa s1 (AAa9 p1) 0∧([]:List Blk)= []∧(p1.length≤9223372036854775807∧z=addB s1 p1)∧∀_:Int,R (.d (u64 z)) b):=by kernel_rfl
theorem CGl9 (s:Int) (p:List Int) (hl:p.length≤9223372036854775807):PCall prog 217 [.d (u64 s), .d (.sl 1 (AAa9 p))] (.d (u64 (addB s p))):=by
 refine Zcd (n:=100) (u:=false) (fun _=>wlRa) mixed Zah Zac (fun Ev=>BXs9) func217 (by rfl) (by rfl) fun Ev bb=> ?_
 rw [CAc9]
 exact ⟨s,p,_,rfl,rfl,rfl,⟨hl,rfl⟩,fun _=>rfl⟩
def cRAdd (args:List AV) (K:AV→Prop):Prop:=∃(s:Int) (p:List Int) (z:Int),args= [.d (u64 s), .d (.sl 1 (AAa9 p))]∧(p.length≤9223372036854775807∧z=addB s p)∧K (.d (u64 z))
theorem BGr9:∀args K,cRAdd args K→∃x,PCall prog 217 args x∧K x:=by
 rintro _ K ⟨s,p,_,rfl,⟨hl,rfl⟩,h⟩;exact ⟨_,CGl9 s p hl,h⟩
def TRs:List (Nat×(List AV→(AV→Prop)→Prop)):= [(217,cRAdd)]
theorem CKy9:AAf9 prog TRs:=Zaf BGr9 Zah
theorem CAa9 (p:List (List Dv)):wpFn prog ⟨TRs, [],wl,y,false⟩ 100 f218 [.d (.sl 1 p)] b R=(
 ∃(s0:Int) (p1:List Int) (z2:Int), [Zae (u64 AUy9), .d (.sl 1 p)]= [.d (u64 s0), .d (.sl 1 (AAa9 p1))]∧(p1.length≤9223372036854775807∧z2=addB s0 p1)∧R (.d (u64 z2)) b):=by kernel_rfl
theorem CGh9 (p:List Int) (hl:p.length≤9223372036854775807):PCall prog 218 [.full 1 (AAa9 p)] (.d (u64 (addB AUy9 p))):=by
 refine PCall.leArgsV (.cons .full .nil) ?_
 refine Zaz (n:=100) (u:=false) mixed CKy9 Zac func218 (by rfl) (by rfl) fun Ev bb=> ?_
 rw [CAa9]
 exact ⟨_,p,_,rfl,⟨hl,rfl⟩,rfl⟩
def cRSum (args:List AV) (K:AV→Prop):Prop:=∃(p:List Int) (z:Int),args= [.full 1 (AAa9 p)]∧(p.length≤9223372036854775807∧z=addB AUy9 p)∧K (.d (u64 z))
theorem BVq9:∀args K,cRSum args K→∃x,PCall prog 218 args x∧K x:=by
 rintro _ K ⟨p,_,rfl,⟨hl,rfl⟩,h⟩;exact ⟨_,CGh9 p hl,h⟩
def TRl:List (Nat×(List AV→(AV→Prop)→Prop)):= [(217,cRAdd),(218,cRSum)]
theorem CLb9:AAf9 prog TRl:=Zaf BGr9 (Zaf BVq9 Zah)
theorem BRb9 (p:List (List Dv)):wpFn prog ⟨TRl, [],wl,y,false⟩ 100 f183 [.d (.sl 1 p)] b R=(
 ∃ (p0:List Int) (z1:Int), [AV.full 1 [[u8 0]]]= [.full 1 (AAa9 p0)]∧(p0.length≤9223372036854775807∧z1=addB AUy9 p0)∧∃(s2:Int) (p3:List Int) (z4:Int), [Zae (u64 z1), .d (.sl 1 p)]= [.d (u64 s2), .d (.sl 1 (AAa9 p3))]∧
   (p3.length≤9223372036854775807∧z4=addB s2 p3)∧R (.d (u64 z4)) b):=by kernel_rfl
theorem CAk9 (p:List Int) (hl:p.length≤9223372036854775807):PCall prog 183 [.d (.sl 1 (AAa9 p))] (.d (u64 (leafS p))):=by
 refine Zaz (n:=100) (u:=false) mixed CLb9 Zac func183 (by rfl) (by rfl) fun Ev bb=> ?_
 rw [BRb9]
 exact ⟨[0],_,rfl,⟨by decide,rfl⟩,_,p,_,rfl,⟨hl,rfl⟩,rfl⟩
def CDf9 (args:List AV) (K:AV→Prop):Prop:=∃(p:List Int) (z:Int),args= [.d (.sl 1 (AAa9 p))]∧(p.length≤9223372036854775807∧z=leafS p)∧K (.d (u64 z))
theorem BLw9:∀args K,CDf9 args K→∃x,PCall prog 183 args x∧K x:=by
 rintro _ K ⟨p,_,rfl,⟨hl,rfl⟩,h⟩;exact ⟨_,CAk9 p hl,h⟩
def othB (k:Int):Int:=Zaa Zap (Zaa Zap (k+1) - Zaa Zap (2*Zdv k 2))
theorem BTw9 {k:Nat} (h:k<1000000):othB (k:Int)=((sibN k:Nat):Int):=by
 unfold othB
 have e:Zdv (k:Int) 2=((k % 2:Nat):Int):=rfl
 rw [e,AAl9 (x:=(k:Int)+1) (by omega) (by omega),AAl9 (x:=2*((k % 2:Nat):Int)) (by omega) (by omega),AAl9 (by omega) (by omega)]
 unfold sibN
 split<;>omega
def AKc9 (k w:Nat):Int:=if sibN k≥w then -1 else (sibN k:Int)
theorem BIc9 (k w:Int):wpFn prog ⟨[], [],wl,y,false⟩ 100 f184 [.d (i64 k), .d (i64 w)] b R=BIf (decide (othB k≥w)) (R (.d (i64 (-1))) b) (R (.d (i64 (othB k))) b):=by kernel_rfl
theorem BSp9 (k w:Nat) (h:k<1000000):PCall prog 184 [.d (i64 k), .d (i64 w)] (.d (i64 (AKc9 k w))):=by
 refine Zaz (n:=100) (u:=false) mixed Zah Zac func184 (by rfl) (by rfl) fun Ev bb=> ?_
 rw [BIc9,BTw9 h]
 refine Zaj (fun g=> ?_) fun g=> ?_
 · have:=of_decide_eq_true g
   rw [AKc9,if_pos (by omega)]
 · have:=of_decide_eq_false g
   rw [AKc9,if_neg (by omega)]
def BFv9 (args:List AV) (K:AV→Prop):Prop:=∃(k w:Nat) (z:Int),args= [.d (i64 k), .d (i64 w)]∧(k<1000000∧z=AKc9 k w)∧K (.d (i64 z))
theorem ASr9:∀args K,BFv9 args K→∃x,PCall prog 184 args x∧K x:=by
 rintro _ K ⟨k,w,_,rfl,⟨hk,rfl⟩,h⟩;exact ⟨_,BSp9 k w hk,h⟩
noncomputable def lpTm:Code:=sub [1,1,0,2,3] (code f182)
def tmTm (w k n:Int):List AV:= [.d (i64 w), .d (i64 k), .bad, .bad, .bad, .d (i64 n)]++Zag 14 .bad
def TTm:List (Nat×(List AV→(AV→Prop)→Prop)):= [(184,BFv9)]
theorem BWv9:AAf9 prog TTm:=Zaf ASr9 Zah
theorem BBh9 (w k n:Int):wpc prog ⟨TTm, [],wl,y,false⟩ 100 lpTm (tmTm w k n) [] b (maskK 0 [0,1,5] K)=(
 BIf (decide (w>1)) (∃(k0 w1:Nat) (z2:Int), [Zae (i64 k), .d (i64 w)]= [.d (i64 k0), .d (i64 w1)]∧(k0<1000000∧z2=AKc9 k0 w1)∧BIf (decide (z2≥0))
   (K .normal (tmTm (Zaa .i64 (Zbq (Zaa .i64 (w+1)) 2)) (Zaa .i64 (Zbq k 2)) (Zaa .i64 (n+1))) [] b)
   (K .normal (tmTm (Zaa .i64 (Zbq (Zaa .i64 (w+1)) 2)) (Zaa .i64 (Zbq k 2)) n) [] b)) (K (.exit 0) (tmTm w k n) [] b)):=by kernel_rfl
def lenW:Nat→Nat→Nat→Nat
 |0,_,_=>0
 |n+1,w,k=>if 1<w then (if sibN k<w then 1 else 0)+lenW n ((w+1) / 2) (k / 2) else 0
theorem wrTm {Ev:Env prog} {b:Ev.β} {Q:Exit→St Ev.β→Prop}:∀(n w k c:Nat),w≤n+1→w<1000000→k<1000000→c+n<1000000000→
   (∀w' k':Int,Q (.exit 0) ⟨tmTm w' k' ((c+lenW n w k:Nat):Int), [],b⟩)→WR Ev lpTm (n+1) ⟨tmTm w k c, [],b⟩ Q
 | 0,w,k,c,hn,hw,hk,hc,h=>by
   refine Zcn [0,1,5] mixed (CX.Ok.of (u:=false) BWv9 Zac) (k:=100) ?_
   show wpc _ _ _ _ _ _ _ (maskK 0 _ _)
   rw [BBh9]
   exact Zct (by simp;omega) (h _ _)
 | n+1,w,k,c,hn,hw,hk,hc,h=>by
   refine Zcn [0,1,5] mixed (CX.Ok.of (u:=false) BWv9 Zac) (k:=100) ?_
   show wpc _ _ _ _ _ _ _ (maskK 0 _ _)
   rw [BBh9]
   by_cases h1:1<w
   · rw [lenW,if_pos h1] at h
     refine Zbf (by simp;omega) ⟨k,w,_,rfl,⟨hk,rfl⟩, ?_⟩
     rw [AAl9 (x:=(w:Int)+1) (by omega) (by omega),show Zbq ((w:Int)+1) 2=(((w+1) / 2:Nat):Int) from rfl,show Zbq (k:Int) 2=((k / 2:Nat):Int) from rfl,AAl9 (by omega) (by omega),AAl9 (x:=((k / 2:Nat):Int)) (by omega) (by omega)]
     refine Zaj (fun g=> ?_) fun g=> ?_
     · have g:=of_decide_eq_true g
       have h2:sibN k<w:=by
         apply Classical.byContradiction
         intro h2
         rw [AKc9,if_pos (by omega)] at g
         omega
       rw [if_pos h2] at h
       rw [AAl9 (by omega) (by omega),show (c:Int)+1=((c+1:Nat):Int) by omega]
       refine wrTm n ((w+1) / 2) (k / 2) (c+1) (by omega) (by omega) (by omega) (by omega) fun w' k'=> ?_
       rw [Nat.add_assoc];exact h w' k'
     · have g:=of_decide_eq_false g
       have h2:¬sibN k<w:=by
         intro h2
         rw [AKc9,if_neg (by omega)] at g
         omega
       rw [if_neg h2,Nat.zero_add] at h
       exact wrTm n ((w+1) / 2) (k / 2) c (by omega) (by omega) (by omega) (by omega) h
   · rw [lenW,if_neg h1] at h
     exact Zct (by simp;omega) (h _ _)
def padS (p:List Int):List Int:=p++Zag (256 - p.length) 0
theorem APf9 {p:List Int} (h:p.length≤256):(padS p).length=256:=by simp [padS];omega
theorem BDm9 (p:List Int) (h:p.length≤256):flatA ((AAa9 p).take 256)++(flatA (Zag 256 [u8 0])).drop ((AAa9 p).take 256).length=flatA (AAa9 (padS p)):=by
 have e:Zag 256 [u8 0]=AAa9 (Zag 256 0):=by simp only [AAa9,List.map_replicate]
 rw [e,AEo9,AAh9,List.take_of_length_le h]
 have key:∀q:List Int,flatA (AAa9 q)=q.map fun x=>Zae (u8 x):=by
   intro q
   induction q with
   |nil=>rfl
   | cons a q ih=>
     rw [show AAa9 (a::q)= [u8 a]::AAa9 q from rfl]
     simp only [flatA,List.flatten_cons,List.map_append] at ih ⊢
     rw [ih];rfl
 rw [key,key,key,padS,List.map_append,←List.map_drop,List.drop_replicate]
theorem ASj9 {α γ:Type} (f:α→γ) (m:Nat):∀(n:Nat) (xs:List α),ADd9 m n (xs.map f)=(ADd9 m n xs).map (List.map f)
 |0,xs=>rfl
 | n+1,xs=>by
   rw [ADd9,ADd9]
   cases xs with
   |nil=>rfl
   | cons a xs=>
     rw [if_neg (by simp),if_neg (by simp),←List.map_take,←List.map_drop,ASj9 f m n];rfl
theorem ASk9 {α:Type} (m:Nat):∀(n:Nat) (xs:List α),(∀c∈ADd9 m n xs,c.length≤m)∧(ADd9 m n xs).length≤n
 |0,xs=>by simp [ADd9]
 | n+1,xs=>by
   rw [ADd9]
   split
   · simp
   · obtain ⟨h1,h2⟩:=ASk9 m n (xs.drop m)
     refine ⟨fun c hc=> ?_,by simp;omega⟩
     rcases Zcw.1 hc with rfl|hc
     · simp;omega
     · exact h1 c hc
def GByte:List (Nat×(List AV→List Blk→(AV→List Blk→Prop)→Prop)):= [(1000000+5,fun _ _ _=>False)]
theorem AMr9:AAk9 prog GByte:=Zci (fun _ _ _ h=>h.elim) Zac
theorem BRg9 (ps xs x:List (List Dv)):wpcY prog ⟨[],GByte,wl,y,false⟩ 100 #[13] (AAq9 rfSp) (ABu9 rfSp) (tmSp ps) [.full 1 x] [cellV (.own 33 1 xs)] b (takeK 1 Kh)=(
 0 =0∧0=0∧∃(xs0:List (List Dv)),flatA (x.take 256)++(flatA (Zag 256 [u8 0])).drop (x.take 256).length=flatA xs0∧xs0.length=256∧(∀r∈xs0,r.length=1)∧
   BIf (true&&decide ((xs.length+1)*24≤140737488355328)) (Kh .normal [cellV (.own 33 1 (xs++ [[.sl 1 xs0]]))] b) False):=by kernel_rfl
theorem BKb9 (ps:List (List Int)) (p:List Int):AAc9 ps++ [[.sl 1 (AAa9 p)]]=AAc9 (ps++ [p]):=by simp [AAc9]
def CCf9 (p:List Int):List AV:= [.full 1 (AAa9 p)]
theorem BOb9 {Ev:Env prog} {b:Ev.β} {Q:Exit→St Ev.β→Prop} (ps:List (List Dv)):∀(l acc:List (List Int)),(∀p∈l,p.length≤256)→acc.length+l.length≤1000000→Q .normal ⟨tmSp ps, [cellV (.own 33 1 (AAc9 (acc++l.map padS)))],b⟩→
   YList (YBody Ev (tmSp ps) #[13] (AAq9 rfSp) (ABu9 rfSp) 1) (l.map CCf9) ([cellV (.own 33 1 (AAc9 acc))],b,none) (ADt9 (tmSp ps) Q)
 | [],acc,hl,hb,h=>by rw [List.map_nil,Zef] at h;exact h
 | p::l,acc,hl,hb,h=>by
   rw [Zcz]
   refine YList.step (X:=⟨[],GByte,wlW Ev,Ev.Y,false⟩) (k:=100) mixed (CX.Ok.of Zah AMr9) rfl ?_
   show wpcY _ _ _ _ _ _ _ [.full 1 (AAa9 p)] [cellV _] b (takeK 1 _)
   rw [BRg9]
   have hp:=hl p (Zay ..)
   refine ⟨rfl,rfl,AAa9 (padS p),BDm9 p hp,by rw [AAh9,APf9 hp],fun r hr=> ?_,Zbf (by simp [AAd9] at hb ⊢;omega) ?_⟩
   · simp only [AAa9,Zbo] at hr
     obtain ⟨_,_,rfl⟩:=hr;rfl
   rw [BKb9]
   refine BOb9 ps l (acc++ [padS p]) (fun q hq=>hl q (Zaw _ hq)) (by simp at hb ⊢;omega) ?_
   rw [Zcg];exact h
def ADn9 (p:List Int):List (List Int):=(ADd9 256 p.length p).map padS
def wlSp {β:Type}:WLT β:=fun c tm hp b K=>∃(p:List Int) (q:List (List Int)),c=rfSp∧ABb9 [4,12] 0 tm=tmSp (AAa9 p)∧hp= [cellV (.d (.s (.slice none 0 0)))]∧(p.length≤1000000∧q=ADn9 p)∧K .normal (tmSp (AAa9 p)) [cellV (.own 33 1 (AAc9 q))] b
theorem BXn9 {Ev:Env prog} (c:Code) (tm:List AV) (hp:List Blk) (b:Ev.β) (K:Exit→List AV→List Blk→Ev.β→Prop) (h:wlSp c tm hp b K):W Ev c ⟨tm,hp,b⟩ (fun e s=>K e s.tm s.hp s.b):=by
 obtain ⟨p,q,rfl,htm,rfl,⟨hl,rfl⟩,hK⟩:=h
 refine W.cast (htm▸AAg9 _ tm 0) (hp':= [cellV (.own 33 1 (AAc9 []))]) (.cons (.cons (LeA.nilOwn rfl) .nil) .nil) ?_
 rw [BBu9]
 refine W.range (s:=⟨tmSp (AAa9 p),_,b⟩) (k:=147) (first:= []) (caps:= [.rptr [.sl 1 (AAa9 p)], .rptr [i64 256]]) rfl rfl rfl (ic57 (AAa9 p) 256 (by omega) (by rw [AAh9];omega)) ?_
 have e:(ADd9 256 (AAa9 p).length (AAa9 p)).map itemC=(ADd9 256 p.length p).map CCf9:=by
   rw [AAh9,AAa9,ASj9,List.map_map];rfl
 rw [e]
 have:=ASk9 256 p.length p
 exact BOb9 (AAa9 p) _ [] this.1 (by simp;omega) (by simpa [ADn9] using hK)
def TSp:List (Nat×(List AV→(AV→Prop)→Prop)):= [(85,BLy9),(86,BPq9)]
theorem CKv9:AAf9 prog TSp:=Zaf APt9 (Zaf BHe9 Zah)
noncomputable def lp61:Code:=sub [1,0,2,3] (code f197)
noncomputable def lp62:Code:=sub [1,0,2,3] (code f198)
def tm61 (p:List (List Dv)) (c:Int):List AV:= [.d (.sl 1 p), .d (u8 c)]++Zag 19 .bad
def tm62 (p:List (List Dv)) (c:Int):List AV:= [.d (.sl 1 p), .d (u8 c)]++Zag 22 .bad
noncomputable def lp38a:Code:=sub [1,1,0,1,2,3] (code f149)
noncomputable def lp38b:Code:=sub [1,1,1,1,0,1,2,3] (code f149)
def tm38a (ps:List (List Dv)) (s n i:Int):List AV:= [.d (.sl 1 ps), .bad, .bad, .d (i64 s), .bad, .bad, .bad, .bad, .bad, .d (.sl 1 ps), .d (i64 n), .d (i64 i)]++Zag 24 .bad
def tm38b (ps:List (List Dv)) (v m:Nat) (n i:Int):List AV:= [.bad, .bad, .bad, .bad, .bad, .bad, .gref 0 v m 1]++Zag 18 .bad++ [.d (.sl 1 ps), .d (i64 n), .d (i64 i)]++Zag 8 .bad
theorem r61 (p:List (List Dv)) (c:Int):wpc prog ⟨[], [],wl,y,false⟩ 100 lp61 (tm61 p c) [] b (maskK 0 [0,1] K)=(BIf (decide (((Zab p:Nat):Int)>(0:Int))) (∃(x0:Int),p[0]? =some [u8 x0]∧BIf (x0==c) (BIf (true&&decide ((0:Int)≤(1:Int)∧(1:Int)≤((Zab p:Nat):Int)∧((Zab p:Nat):Int)≤((Zab p:Nat):Int)∧((Zab p:Nat):Int)≤((Zab p:Nat):Int))) (K .normal (Zae (Zai 1 (List.take (Zam ((Zab p:Nat):Int) - Zam (1:Int)) (List.drop (Zam (1:Int)) p)))::Zae (u8 c)::bds 19 []) [] b) False) (K (Zcy 0) (Zae (Zai 1 p)::Zae (u8 c)::bds 19 []) [] b)) (K (Zcy 0) (Zae (Zai 1 p)::Zae (u8 c)::bds 19 []) [] b)):=by kernel_rfl
theorem r62 (p:List (List Dv)) (c:Int):wpc prog ⟨[], [],wl,y,false⟩ 100 lp62 (tm62 p c) [] b (maskK 0 [0,1] K)=(BIf (decide (((Zab p:Nat):Int)>(0:Int))) (BIf (true&&decide ((0:Int)≤Zaa .i64 (((Zab p:Nat):Int) - (1:Int)))) (∃(x0:Int),p[Zam (Zaa .i64 (((Zab p:Nat):Int) - (1:Int)))]? =some [u8 x0]∧BIf (x0==c) (BIf (true&&decide ((0:Int)≤(0:Int)∧(0:Int)≤Zaa .i64 (((Zab p:Nat):Int) - (1:Int))∧Zaa .i64 (((Zab p:Nat):Int) - (1:Int))≤((Zab p:Nat):Int)∧((Zab p:Nat):Int)≤((Zab p:Nat):Int))) (K .normal (Zae (Zai 1 (List.take (Zam (Zaa .i64 (((Zab p:Nat):Int) - (1:Int))) - Zam (0:Int)) (List.drop (Zam (0:Int)) p)))::Zae (u8 c)::bds 22 []) [] b) False) (K (Zcy 0) (Zae (Zai 1 p)::Zae (u8 c)::bds 22 []) [] b)) False) (K (Zcy 0) (Zae (Zai 1 p)::Zae (u8 c)::bds 22 []) [] b)):=by kernel_rfl
theorem r38a (ps:List (List Dv)) (s n i:Int):wpc prog ⟨[], [],wl,y,false⟩ 100 lp38a (tm38a ps s n i) [] b (maskK 0 [0,3,9,10,11] K)=(BIf (decide (i<n)) (BIf (true&&decide (0≤i)) (∃(xs0:List (List Dv)),ps[Zam i]? =some [Zai 1 xs0]∧BIf (decide (Zaa .i64 (s+((Zab xs0:Nat):Int))<(0:Int))) False (K .normal (Zae (Zai 1 ps)::Zaq::Zaq::Zae (i64 (Zaa .i64 (s+((Zab xs0:Nat):Int))))::bds 5 (Zae (Zai 1 ps)::Zae (i64 n)::Zae (i64 (Zaa .i64 (i+1)))::bds 24 [])) [] b)) False) (K (Zcy 0) (Zae (Zai 1 ps)::Zaq::Zaq::Zae (i64 s)::bds 5 (Zae (Zai 1 ps)::Zae (i64 n)::Zae (i64 i)::bds 24 [])) [] b)):=by kernel_rfl
theorem r38b (ps:List (List Dv)) (cs:List AV) (v m:Nat) (n i:Int):wpc prog ⟨[],GByte,wl,y,false⟩ 100 lp38b (tm38b ps v m n i) [blkG cs v] b (maskT [6,25,26,27] K)=(BIf (decide (i<n)) (BIf (true&&decide (0≤i)) (∃(xs0:List (List Dv)),ps[Zam i]? =some [Zai 1 xs0]∧v=v∧BIf (decide ((m+Zab xs0)*1≤140737488355328)) (K .normal (bds 6 (AV.gref 0 (v+1) (m+Zab xs0) 1::bds 18 (Zae (Zai 1 ps)::Zae (i64 n)::Zae (i64 (Zaa .i64 (i+1)))::bds 8 []))) [Blk.mk (cs++flatA xs0) false true (v+1)] b) False) False) (K (Zcy 2) (bds 6 (AV.gref 0 v m 1::bds 18 (Zae (Zai 1 ps)::Zae (i64 n)::Zae (i64 i)::bds 8 []))) [Blk.mk cs false true v] b)):=by kernel_rfl
abbrev Qz34:List AV:= [Zae (Zfa (.slice none 0 0)),Zae (i64 1)]
theorem BRf9 (xs:List (List Dv)):wpFn prog ⟨TSp, [],wlSp,y,false⟩ 100 f27 [.d (.sl 1 xs)] b R=(∃(n0:Int) (z1:Bool), [Zae (i64 ((Zab xs:Nat):Int))]= [Zae (i64 n0)]∧z1=ACl9 n0∧BIf (!z1) (R (.tup Qz34) b) (∃(xs2:List (List Dv)), [Zae (Zai 1 xs),Zae (i64 256)]= [Zae (Zai 1 xs2),Zae (i64 256)]∧∃(p3:List Int) (q4:List (List Int)),rfSp=rfSp∧(bds 4 (Zbe 0 0::bds 7 (AV.fn (Fn.func 147) [] [Zcj [Zai 1 xs2],Zcj [i64 256]]::bds 10 [])))=(bds 4 (Zbe 0 0::bds 7 (AV.fn (Fn.func 147) [] [Zcj [Zai 1 (AAa9 p3)],Zcj [i64 256]]::bds 10 [])))∧ [Blk.mk [Zae (Zfa (.slice none 0 0))] false false 0]= [Blk.mk [Zae (Zfa (.slice none 0 0))] false false 0]∧(Zab p3≤1000000∧q4=ADn9 p3)∧R (.tup [Zae (Zai 1 (AAc9 q4)),Zae (i64 0)]) b)):=by kernel_rfl
theorem BOg9 (p:List Int) (hl:p.length≤9223372036854775807):PCall prog 27 [.d (.sl 1 (AAa9 p))] (if ACl9 p.length then .tup [.d (.sl 1 (AAc9 (ADn9 p))), .d (i64 0)] else .tup [.d (.sl 1 []), .d (i64 1)]):=by
 refine Zck (n:=100) (u:=false) (fun _=>wlSp) mixed CKv9 Zac (fun Ev=>BXn9) func27 (by rfl) (by rfl) fun Ev bb=> ?_
 rw [BRf9,AAh9]
 refine ⟨_,_,rfl,rfl,Zaj (fun h=> ?_) fun h=>⟨_,rfl,p,_,rfl,rfl,rfl,⟨?_,rfl⟩, ?_⟩⟩
 · rw [if_neg (by simpa using h)]
   exact LeV.tups (.cons (.nil rfl) (.cons .rfl .nil))
 · simp [ACl9] at h;omega
 · rw [if_pos (by simpa using h)];exact .rfl
def CDh9 (args:List AV) (K:AV→Prop):Prop:=∃(p:List Int),args= [.d (.sl 1 (AAa9 p))]∧p.length≤9223372036854775807∧∃(z:Bool) (q:List (List Int)),z=ACl9 p.length∧q=ADn9 p∧
 BIf z (K (.tup [.d (.sl 1 (AAc9 q)), .d (i64 0)])) (K (.tup [.d (.sl 1 []), .d (i64 1)]))
theorem BLx9:∀args K,CDh9 args K→∃x,PCall prog 27 args x∧K x:=by
 rintro _ K ⟨p,rfl,hl,z,q,hz,rfl,h⟩
 refine ⟨_,BOg9 p hl, ?_⟩
 rw [←hz]
 cases z<;>exact h
def trimR (c:Int) (p:List Int):List Int:=(p.reverse.dropWhile (· ==c)).reverse
theorem BHz9 (c a:Int) (l:List Int):trimR c (l++ [a])=if (a==c)=true then trimR c l else l++ [a]:=by
 simp only [trimR,List.reverse_append,List.reverse_cons,List.reverse_nil,List.nil_append,List.singleton_append,Zdu]
 split<;>simp
theorem wr61 {Ev:Env prog} {b:Ev.β} {Q:Exit→St Ev.β→Prop} (c:Int):∀(p:List Int),p.length≤9223372036854775807→Q (.exit 0) ⟨tm61 (AAa9 (p.dropWhile (· ==c))) c, [],b⟩→WR Ev lp61 (p.length+1) ⟨tm61 (AAa9 p) c, [],b⟩ Q
 | [],hl,h=>by
   refine Zcn [0,1] mixed (CX.Ok.of (u:=false) Zah Zac) (k:=100) ?_
   show wpc _ _ _ _ _ _ _ (maskK 0 _ _)
   rw [r61]
   exact Zct (by simp [AAh9]) h
 | a::p,hl,h=>by
   refine Zcn [0,1] mixed (CX.Ok.of (u:=false) Zah Zac) (k:=100) ?_
   show wpc _ _ _ _ _ _ _ (maskK 0 _ _)
   rw [r61,AAh9]
   refine Zbf (by simp<;>omega) ⟨a,rfl,Zaj (fun g=>Zbf (by simp<;>omega) ?_) fun g=> ?_⟩
   · rw [Zdu,if_pos g] at h
     have e:List.take (Zam ((a::p).length:Int) - Zam 1) (List.drop (Zam 1) (AAa9 (a::p)))=AAa9 p:=by
       rw [show Zam 1=1 from rfl,show (AAa9 (a::p)).drop 1=AAa9 p from rfl]
       exact List.take_of_length_le (by rw [AAh9];simp)
     rw [e]
     exact wr61 c p (by simp at hl<;>omega) h
   · rw [Zdu,if_neg (by rw [g];simp)] at h
     exact h
theorem wr62 {Ev:Env prog} {b:Ev.β} {Q:Exit→St Ev.β→Prop} (c:Int):∀(n:Nat) (p:List Int),p.length≤n→n≤9223372036854775807→Q (.exit 0) ⟨tm62 (AAa9 (trimR c p)) c, [],b⟩→WR Ev lp62 (n+1) ⟨tm62 (AAa9 p) c, [],b⟩ Q
 | n,p,hn,hl,h=>by
   refine Zcn [0,1] mixed (CX.Ok.of (u:=false) Zah Zac) (k:=100) ?_
   show wpc _ _ _ _ _ _ _ (maskK 0 _ _)
   rw [r62,AAh9]
   rcases List.eq_nil_or_concat p with rfl|⟨l,a,rfl⟩
   · exact Zct (by simp) h
   · rw [List.concat_eq_append] at*
     rw [BHz9] at h
     have e0:Zaa Zap (((l++ [a]).length:Int) - 1)=l.length:=by
       rw [AAl9 (by simp<;>omega) (by simp at hn ⊢<;>omega)];simp
     rw [e0,Zas]
     refine Zbf (by simp<;>omega) (Zbf (by simp) ⟨a,by simp [AAa9],Zaj (fun g=>Zbf (by simp<;>omega) ?_) fun g=> ?_⟩)
     · rw [if_pos g] at h
       have e:List.take (l.length - Zam 0) (List.drop (Zam 0) (AAa9 (l++ [a])))=AAa9 l:=by
         rw [show Zam 0=0 from rfl,List.drop_zero,Nat.sub_zero,AEo9,List.take_left'];rfl
       rw [e]
       cases n with
       |zero=>simp at hn
       |succ n=>exact wr62 c n l (by simp at hn<;>omega) (by omega) h
     · rw [if_neg (by rw [g];simp)] at h
       exact h
def wl61 {β:Type}:WLT β:=fun c tm hp b K=>∃(p:List Int) (x:Int) (z:List Int),c= .loop lp61∧ABb9 [0,1] 0 tm=tm61 (AAa9 p) x∧hp= []∧(p.length≤9223372036854775807∧z=p.dropWhile (· ==x))∧K (.exit 0) (tm61 (AAa9 z) x) [] b
theorem BYf9 {Ev:Env prog} (c:Code) (tm:List AV) (hp:List Blk) (b:Ev.β) (K:Exit→List AV→List Blk→Ev.β→Prop) (h:wl61 c tm hp b K):W Ev c ⟨tm,hp,b⟩ (fun e s=>K e s.tm s.hp s.b):=by
 obtain ⟨p,x,z,rfl,htm,rfl,⟨hl,rfl⟩,hK⟩:=h
 refine W.cast (htm▸AAg9 _ tm 0) (Zbt _) ?_
 exact W.rounds (wr61 (Q:=fun e s=>K e s.tm s.hp s.b) x p hl hK)
def wl62 {β:Type}:WLT β:=fun c tm hp b K=>∃(p:List Int) (x:Int) (z:List Int),c= .loop lp62∧ABb9 [0,1] 0 tm=tm62 (AAa9 p) x∧hp= []∧(p.length≤9223372036854775807∧z=trimR x p)∧K (.exit 0) (tm62 (AAa9 z) x) [] b
theorem BYe9 {Ev:Env prog} (c:Code) (tm:List AV) (hp:List Blk) (b:Ev.β) (K:Exit→List AV→List Blk→Ev.β→Prop) (h:wl62 c tm hp b K):W Ev c ⟨tm,hp,b⟩ (fun e s=>K e s.tm s.hp s.b):=by
 obtain ⟨p,x,z,rfl,htm,rfl,⟨hl,rfl⟩,hK⟩:=h
 refine W.cast (htm▸AAg9 _ tm 0) (Zbt _) ?_
 exact W.rounds (wr62 (Q:=fun e s=>K e s.tm s.hp s.b) x p.length p (Zbb _) hl hK)
def strZ:ByteArray:=⟨#[0]⟩
theorem CIw9 (p:List (List Dv)) (x:Int):wpFn prog ⟨[], [],wl61,y,false⟩ 100 f197 [.d (.sl 1 p), .d (u8 x)] b R=(∃(p0:List Int) (x1:Int) (z2:List Int),Zax lp61=Zax lp61∧(Zae (Zai 1 p)::Zae (u8 x)::bds 19 [])=(Zae (Zai 1 (AAa9 p0))::Zae (u8 x1)::bds 19 [])∧([]:List Blk)= []∧(Zab p0≤9223372036854775807∧z2=List.dropWhile (fun (x3:Int)=>x3==x1) p0)∧BIf (((Zab (AAa9 z2):Nat):Int)==(0:Int)) (R (.d (Zfa (.slice none 0 0))) b) (R (.d (Zai 1 (AAa9 z2))) b)):=by kernel_rfl
theorem CIv9 (p:List (List Dv)) (x:Int):wpFn prog ⟨[], [],wl62,y,false⟩ 100 f198 [.d (.sl 1 p), .d (u8 x)] b R=(∃(p0:List Int) (x1:Int) (z2:List Int),Zax lp62=Zax lp62∧(Zae (Zai 1 p)::Zae (u8 x)::bds 22 [])=(Zae (Zai 1 (AAa9 p0))::Zae (u8 x1)::bds 22 [])∧([]:List Blk)= []∧(Zab p0≤9223372036854775807∧z2=trimR x1 p0)∧R (.d (Zai 1 (AAa9 z2))) b):=by kernel_rfl
theorem pcTl (p:List Int) (x:Int) (hl:p.length≤9223372036854775807):PCall prog 197 [.d (.sl 1 (AAa9 p)), .d (u8 x)] (.d (.sl 1 (AAa9 (p.dropWhile (· ==x))))):=by
 refine Zck (n:=100) (u:=false) (fun _=>wl61) mixed Zah Zac (fun Ev=>BYf9) func197 (by rfl) (by rfl) fun Ev bb=> ?_
 rw [CIw9]
 refine ⟨p,x,_,rfl,rfl,rfl,⟨hl,rfl⟩,Zaj (fun h=> ?_) fun h=> .rfl⟩
 have e:p.dropWhile (· ==x)= []:=by
   have:(p.dropWhile (· ==x)).length=0:=by simpa [AAh9] using h
   exact Zeg.1 this
 rw [e];exact .nil rfl
theorem pcTr (p:List Int) (x:Int) (hl:p.length≤9223372036854775807):PCall prog 198 [.d (.sl 1 (AAa9 p)), .d (u8 x)] (.d (.sl 1 (AAa9 (trimR x p)))):=by
 refine Zck (n:=100) (u:=false) (fun _=>wl62) mixed Zah Zac (fun Ev=>BYe9) func198 (by rfl) (by rfl) fun Ev bb=> ?_
 rw [CIv9]
 exact ⟨p,x,_,rfl,rfl,rfl,⟨hl,rfl⟩, .rfl⟩
def cTl (args:List AV) (K:AV→Prop):Prop:=∃(p:List Int) (x:Int) (z:List Int),args= [.d (.sl 1 (AAa9 p)), .d (u8 x)]∧(p.length≤9223372036854775807∧z=p.dropWhile (· ==x))∧K (.d (.sl 1 (AAa9 z)))
theorem CKa9:∀args K,cTl args K→∃x,PCall prog 197 args x∧K x:=by
 rintro _ K ⟨p,x,_,rfl,⟨hl,rfl⟩,h⟩;exact ⟨_,pcTl p x hl,h⟩
def cTr (args:List AV) (K:AV→Prop):Prop:=∃(p:List Int) (x:Int) (z:List Int),args= [.d (.sl 1 (AAa9 p)), .d (u8 x)]∧(p.length≤9223372036854775807∧z=trimR x p)∧K (.d (.sl 1 (AAa9 z)))
theorem CJz9:∀args K,cTr args K→∃x,PCall prog 198 args x∧K x:=by
 rintro _ K ⟨p,x,_,rfl,⟨hl,rfl⟩,h⟩;exact ⟨_,pcTr p x hl,h⟩
def TTrim:List (Nat×(List AV→(AV→Prop)→Prop)):= [(197,cTl),(198,cTr)]
theorem BWu9:AAf9 prog TTrim:=Zaf CKa9 (Zaf CJz9 Zah)
theorem BZh9 (p:List (List Dv)):wpFn prog ⟨TTrim, [],wl,y,false⟩ 100 f150 [.d (.sl 1 p), .d (.s (.string strZ))] b R=(BIf (((Zab p:Nat):Int)==(0:Int)) (R (.d (Zfa (.slice none 0 0))) b) (∃(c0:UInt8),strZ[0]? =some c0∧BIf (decide (((UInt8.toNat c0:Nat):Int)<(128:Int))) (∃(c3:UInt8),strZ[0]? =some c3∧∃(p6:List Int) (x7:Int) (z8:List Int), [Zae (Zai 1 p),Zae (u8 ((UInt8.toNat c3:Nat):Int))]= [Zae (Zai 1 (AAa9 p6)),Zae (u8 x7)]∧(Zab p6≤9223372036854775807∧z8=trimR x7 p6)∧∃(c9:UInt8),strZ[0]? =some c9∧∃(p12:List Int) (x13:Int) (z14:List Int), [Zae (Zai 1 (AAa9 z8)),Zae (u8 ((UInt8.toNat c9:Nat):Int))]= [Zae (Zai 1 (AAa9 p12)),Zae (u8 x13)]∧(Zab p12≤9223372036854775807∧z14=List.dropWhile (fun (x15:Int)=>x15==x13) p12)∧R (.d (Zai 1 (AAa9 z14))) b) False)):=by kernel_rfl
theorem BQx9 (x:Int) (p:List Int):(trimR x p).length≤p.length:=by
 simp only [trimR,List.length_reverse]
 exact Zbz (List.Sublist.length_le (Zfb _)) (by rw [List.length_reverse];exact Zbb _)
def trimS (p:List Int):List Int:=(trimR 0 p).dropWhile (· ==0)
theorem CGb9 (p:List Int) (hl:p.length≤9223372036854775807):PCall prog 150 [.d (.sl 1 (AAa9 p)), .d (.s (.string strZ))] (.d (.sl 1 (AAa9 (trimS p)))):=by
 refine Zck (n:=100) (u:=false) (fun _=>wlNo _) mixed BWu9 Zac (fun Ev=>AEr9 Ev) func150 (by rfl) (by rfl) fun Ev bb=> ?_
 rw [BZh9,AAh9]
 refine Zaj (fun h=> ?_) fun h=>⟨0,rfl,Zbf (by decide) ⟨0,rfl,p,0,_,rfl,⟨hl,rfl⟩,0,rfl,trimR 0 p,0,_,rfl,⟨Zbz (BQx9 0 p) hl,rfl⟩, .rfl⟩⟩
 have:p= []:=by
   have:p.length=0:=by simpa using h
   exact Zeg.1 this
 subst this
 exact .nil rfl
def cTrim (args:List AV) (K:AV→Prop):Prop:=∃(p z:List Int),args= [.d (.sl 1 (AAa9 p)), .d (.s (.string strZ))]∧(p.length≤9223372036854775807∧z=trimS p)∧K (.d (.sl 1 (AAa9 z)))
theorem BVh9:∀args K,cTrim args K→∃x,PCall prog 150 args x∧K x:=by
 rintro _ K ⟨p,_,rfl,⟨hl,rfl⟩,h⟩;exact ⟨_,CGb9 p hl,h⟩
theorem CCh9 (n:Int):wpFnS prog ⟨[],GByte,wl,y,false⟩ 100 f196 [nilV, .d (i64 n)] b RS=(BIf (decide (n<(0:Int))) False (BIf (decide (Zaa .i64 (n - 0)>(0:Int))) (BIf (true&&decide ((0:Int)<Zaa .i64 (n - 0))&&decide (Zaa .i64 (n - 0)*(1:Int)≤(281474976710656:Int))&&decide (Zaa .i64 (n - 0)≤(9223372036854775807:Int))&&true&&true&&true&&true) (0=0∧RS (AV.gref 0 1 0 1) [Blk.mk [] false true 1] b) False) (RS (Zae (Zfa (.slice none 0 0))) [] b))):=by kernel_rfl
theorem CIm9 (n:Int) (h0:0<n) (hn:n≤1000000):FCall prog 196 [nilV, .d (i64 n)] (.gref 0 1 0 1) [blkG [] 1]:=by
 refine FCall.ofFnW (n:=100) (u:=false) (fun _=>wlNo _) mixed Zah AMr9 (fun Ev=>AEr9 Ev) func196 (by rfl) (by rfl) (by rfl) fun Ev bb=> ?_
 rw [CCh9]
 have e:Zaa Zap (n - 0)=n:=by rw [AAl9 (by omega) (by omega)];omega
 rw [e]
 refine Zct (by simp<;>omega) (Zbf (by simp<;>omega) (Zbf ?_ ⟨rfl,rfl,rfl⟩))
 simp only [Bool.and_true,Bool.true_and,Zan,decide_eq_true_eq];omega
def sGrow (args:List AV) (hp:List Blk) (K:AV→List Blk→Prop):Prop:=∃(n:Int),args= [nilV, .d (i64 n)]∧(0<n∧n≤1000000)∧K (.gref hp.length 1 0 1) (hp++ [blkG [] 1])
theorem BRu9:∀args hp K,sGrow args hp K→∃x hp',SCall prog 196 args hp x hp'∧K x hp':=by
 rintro _ hp K ⟨n,rfl,⟨h0,hn⟩,h⟩
 exact ⟨_,_,(CIm9 n h0 hn).toS rfl hp,by simpa [shift,AKb9,AHt9,AQs9,blkG] using h⟩
def SCc:List (Nat×(List AV→List Blk→(AV→List Blk→Prop)→Prop)):= [(196,sGrow),(1000000+5,fun _ _ _=>False)]
theorem CLx9:AAk9 prog SCc:=Zci BRu9 AMr9
def sumL (ps:List (List Int)):Nat:=ps.flatten.length
theorem wr38a {Ev:Env prog} {b:Ev.β} {Q:Exit→St Ev.β→Prop} (ps:List (List Int)) (hl:ps.length≤1000000):∀(rest:List (List Int)) (k s:Nat),ps.drop k=rest→k≤ps.length→s+sumL rest≤1000000→
   (∀i:Int,Q (.exit 0) ⟨tm38a (AAc9 ps) ((s+sumL rest:Nat):Int) ps.length i, [],b⟩)→WR Ev lp38a (rest.length+1) ⟨tm38a (AAc9 ps) s ps.length k, [],b⟩ Q
 | [],k,s,hd,hk,hs,h=>by
   refine Zcn [0,3,9,10,11] mixed (CX.Ok.of (u:=false) Zah Zac) (k:=100) ?_
   show wpc _ _ _ _ _ _ _ (maskK 0 _ _)
   rw [r38a]
   have:=ABm9 hd
   exact Zct (by simp<;>omega) (h _)
 | p::rest,k,s,hd,hk,hs,h=>by
   refine Zcn [0,3,9,10,11] mixed (CX.Ok.of (u:=false) Zah Zac) (k:=100) ?_
   show wpc _ _ _ _ _ _ _ (maskK 0 _ _)
   rw [r38a]
   obtain ⟨hk',hr,hd'⟩:=AAw9 hd
   have hsum:sumL (p::rest)=p.length+sumL rest:=by simp [sumL]
   rw [hsum] at hs h
   have e:Zaa Zap ((s:Int)+((AAa9 p).length:Int))=((s+p.length:Nat):Int):=by rw [AAh9,AAl9 (by omega) (by omega)];omega
   refine Zbf (by simp<;>omega) (Zbf (by simp) ⟨AAa9 p,by simp [AAc9,hr], ?_⟩)
   rw [e,AAu9 hk' (by omega)]
   refine Zct (by simp<;>omega) (wr38a ps hl rest (k+1) (s+p.length) hd' hk' (by omega) ?_)
   rw [Nat.add_assoc];exact h
theorem wr38b {Ev:Env prog} {b:Ev.β} {Q:Exit→St Ev.β→Prop} (ps:List (List Int)) (hl:ps.length≤1000000):∀(rest:List (List Int)) (k v:Nat) (acc:List Int),ps.drop k=rest→k≤ps.length→acc.length+sumL rest≤1000000→
   (∀(i:Int),Q (.exit 2) ⟨tm38b (AAc9 ps) (v+rest.length) (acc++rest.flatten).length ps.length i, [blkG (flatA (AAa9 (acc++rest.flatten))) (v+rest.length)],b⟩)→
   WR Ev lp38b (rest.length+1) ⟨tm38b (AAc9 ps) v acc.length ps.length k, [blkG (flatA (AAa9 acc)) v],b⟩ Q
 | [],k,v,acc,hd,hk,hs,h=>by
   refine Zbw [6,25,26,27] mixed (CX.Ok.of (u:=false) Zah AMr9) (k:=100) ?_
   rw [r38b]
   have:=ABm9 hd
   simp only [List.flatten_nil,Zef] at h
   exact Zct (by simp<;>omega) (h _)
 | p::rest,k,v,acc,hd,hk,hs,h=>by
   refine Zbw [6,25,26,27] mixed (CX.Ok.of (u:=false) Zah AMr9) (k:=100) ?_
   rw [r38b]
   obtain ⟨hk',hr,hd'⟩:=AAw9 hd
   have hsum:sumL (p::rest)=p.length+sumL rest:=by simp [sumL]
   rw [hsum] at hs
   refine Zbf (by simp<;>omega) (Zbf (by simp) ⟨AAa9 p,by simp [AAc9,hr],rfl,Zbf (by rw [AAh9];simp<;>omega) ?_⟩)
   rw [AAu9 hk' (by omega),AAh9]
   have e:flatA (AAa9 acc)++flatA (AAa9 p)=flatA (AAa9 (acc++p)):=by rw [ADw9,ADw9,ADw9,List.map_append]
   rw [e,←Zdh]
   refine wr38b ps hl rest (k+1) (v+1) (acc++p) hd' hk' (by rw [Zdh];omega) fun i=> ?_
   have h1:=h i
   rw [List.flatten_cons,←Zcg,List.length_cons,show v+(rest.length+1)=v+1+rest.length by omega] at h1
   exact h1
def wl38 {β:Type}:WLT β:=fun c tm hp b K=>match cidO c with
 |4=>∃(ps:List (List Int)) (z:Nat),c= .loop lp38a∧ABb9 [0,3,9,10,11] 0 tm=tm38a (AAc9 ps) 0 (AAc9 ps).length 0∧hp= []∧((ps.length≤1000000∧sumL ps≤1000000)∧z=sumL ps)∧∀i:Int,K (.exit 0) (tm38a (AAc9 ps) z (AAc9 ps).length i) [] b
 |12=>∃(ps:List (List Int)) (v z m:Nat) (q:List Int),c= .loop lp38b∧ABb9 [6,25,26,27] 0 tm=tm38b (AAc9 ps) v 0 (AAc9 ps).length 0∧hp= [blkG [] v]∧((ps.length≤1000000∧sumL ps≤1000000)∧z=v+ps.length∧q=ps.flatten∧m=q.length)∧∀i:Int,K (.exit 2) (tm38b (AAc9 ps) z m (AAc9 ps).length i) [blkG (flatA (AAa9 q)) z] b
 |_=>False
theorem BYm9 {Ev:Env prog} (c:Code) (tm:List AV) (hp:List Blk) (b:Ev.β) (K:Exit→List AV→List Blk→Ev.β→Prop) (h:wl38 c tm hp b K):W Ev c ⟨tm,hp,b⟩ (fun e s=>K e s.tm s.hp s.b):=by
 unfold wl38 at h
 split at h
 · obtain ⟨ps,z,rfl,htm,rfl,⟨⟨hl,hs⟩,rfl⟩,hK⟩:=h
   rw [AAd9] at htm hK
   refine W.cast (htm▸AAg9 _ tm 0) (Zbt _) ?_
   exact W.rounds (wr38a (Q:=fun e s=>K e s.tm s.hp s.b) ps hl ps 0 0 rfl (Zdb _) (by omega) (by simpa using hK))
 · obtain ⟨ps,v,z,m,q,rfl,htm,rfl,⟨⟨hl,hs⟩,rfl,rfl,rfl⟩,hK⟩:=h
   rw [AAd9] at htm hK
   refine W.cast (htm▸AAg9 _ tm 0) (Zbt _) ?_
   exact W.rounds (wr38b (Q:=fun e s=>K e s.tm s.hp s.b) ps hl ps 0 v [] rfl (Zdb _) (by simpa using hs) (by simpa using hK))
 · exact h.elim
abbrev Qz47 (v0:List (List Int)):=Zae (Zai 1 (AAc9 v0))::Zae (i64 ((Zab (AAc9 v0):Nat):Int))::Zae (i64 0)::bds 8 []
theorem BLl9 (ps:List (List Dv)):wpFn prog ⟨[],SCc,wl38,y,false⟩ 100 f149 [.d (.sl 1 ps)] b R=(∃(ps0:List (List Int)) (z1:Nat),Zax lp38a=Zax lp38a∧(Zae (Zai 1 ps)::Zaq::Zaq::Zae (i64 0)::bds 5 (Zae (Zai 1 ps)::Zae (i64 ((Zab ps:Nat):Int))::Zae (i64 0)::bds 24 []))=(Zae (Zai 1 (AAc9 ps0))::Zaq::Zaq::Zae (i64 0)::bds 5 (Zae (Zai 1 (AAc9 ps0))::Zae (i64 ((Zab (AAc9 ps0):Nat):Int))::Zae (i64 0)::bds 24 []))∧([]:List Blk)= []∧((Zab ps0≤1000000∧sumL ps0≤1000000)∧z1=sumL ps0)∧∀(i:Int),∃(n2:Int), [Zae (Zfa (.slice none 0 0)),Zae (i64 (z1:Int))]= [Zae (Zfa (.slice none 0 0)),Zae (i64 n2)]∧((0:Int)<n2∧n2≤(1000000:Int))∧∃(ps3:List (List Int)) (v4:Nat) (z5:Nat) (m6:Nat) (q7:List Int),Zax lp38b=Zax lp38b∧(bds 6 (AV.gref 0 1 0 1::bds 18 (Qz47 ps0)))=(bds 6 (AV.gref 0 v4 0 1::bds 18 (Qz47 ps3)))∧ [Blk.mk [] false true 1]= [Blk.mk [] false true v4]∧((Zab ps3≤1000000∧sumL ps3≤1000000)∧z5=v4+Zab ps3∧q7=List.flatten ps3∧m6=Zab q7)∧∀(i:Int),z5=z5∧∃(xs8:List (List Dv)),flatA (AAa9 q7)=flatA xs8∧Zab xs8=m6∧(∀(r:List Dv),r∈xs8→Zab r=1)∧R (.d (Zai 1 xs8)) b):=by kernel_rfl
theorem BTn9 (ps:List (List Int)) (hl:ps.length≤1000000) (h0:0<sumL ps) (hs:sumL ps≤1000000):PCall prog 149 [.d (.sl 1 (AAc9 ps))] (.d (.sl 1 (AAa9 ps.flatten))):=by
 refine Zcd (n:=100) (u:=false) (fun _=>wl38) mixed Zah CLx9 (fun Ev=>BYm9) func149 (by rfl) (by rfl) fun Ev bb=> ?_
 rw [BLl9]
 refine ⟨ps,_,rfl,rfl,rfl,⟨⟨hl,hs⟩,rfl⟩,fun _=>⟨_,rfl,by omega,ps,1,_,_,_,rfl,rfl,rfl,⟨⟨hl,hs⟩,rfl,rfl,rfl⟩,fun _=>⟨rfl,AAa9 ps.flatten,rfl,by rw [AAh9],fun r hr=> ?_,rfl⟩⟩⟩
 simp only [AAa9,Zbo] at hr
 obtain ⟨_,_,rfl⟩:=hr;rfl
def BPp9 (args:List AV) (K:AV→Prop):Prop:=∃(ps:List (List Int)) (z:List Int),args= [.d (.sl 1 (AAc9 ps))]∧((ps.length≤1000000∧0<sumL ps∧sumL ps≤1000000)∧z=ps.flatten)∧K (.d (.sl 1 (AAa9 z)))
theorem BHc9:∀args K,BPp9 args K→∃x,PCall prog 149 args x∧K x:=by
 rintro _ K ⟨ps,_,rfl,⟨⟨h1,h2,h3⟩,rfl⟩,h⟩;exact ⟨_,BTn9 ps h1 h2 h3,h⟩
def TJn:List (Nat×(List AV→(AV→Prop)→Prop)):= [(85,BLy9),(125,BHb9),(148,BVv9),(149,BPp9),(150,cTrim)]
theorem CLi9:AAf9 prog TJn:=Zaf APt9 (Zaf AKt9 (Zaf AXv9 (Zaf BHc9 (Zaf BVh9 Zah))))
theorem CCd9 (ps:List (List Dv)) (n:Int):wpFn prog ⟨TJn, [],wl,y,false⟩ 100 f89 [.d (.sl 1 ps), .d (i64 n)] b R=(∃(n0:Int) (z1:Bool), [Zae (i64 n)]= [Zae (i64 n0)]∧z1=ACl9 n0∧BIf (!z1) (R (.tup Qz34) b) (∃(n2:Int) (z3:Int), [Zae (i64 n)]= [Zae (i64 n2)]∧z3=ABj9 n2∧BIf (((Zab ps:Nat):Int) !=z3) (R (.tup Qz34) b) (∃(ps4:List (List Int)) (z5:Bool), [Zae (Zai 1 ps)]= [Zae (Zai 1 (AAc9 ps4))]∧(Zab ps4≤9223372036854775807∧z5= !AAx9 ps4)∧BIf (!z5) (R (.tup Qz34) b) (∃(ps6:List (List Int)) (z7:List Int), [Zae (Zai 1 ps)]= [Zae (Zai 1 (AAc9 ps6))]∧((Zab ps6≤1000000∧0<sumL ps6∧sumL ps6≤1000000)∧z7=List.flatten ps6)∧BIf (true&&decide ((0:Int)≤n∧n≤((Zab (AAa9 z7):Nat):Int)∧((Zab (AAa9 z7):Nat):Int)≤((Zab (AAa9 z7):Nat):Int)∧((Zab (AAa9 z7):Nat):Int)≤((Zab (AAa9 z7):Nat):Int))) (∃(p8:List Int) (z9:List Int), [Zae (Zai 1 (List.take (Zam ((Zab (AAa9 z7):Nat):Int) - Zam n) (List.drop (Zam n) (AAa9 z7)))),Zae (Zfa (Value.string (ByteArray.mk #[(0:UInt8)])))]= [Zae (Zai 1 (AAa9 p8)),Zae (Zfa (Value.string strZ))]∧(Zab p8≤9223372036854775807∧z9=trimS p8)∧BIf (decide (((Zab (AAa9 z9):Nat):Int)>(0:Int))) (R (.tup [Zae (Zfa (.slice none 0 0)),Zae (i64 12)]) b) (BIf (true&&decide ((0:Int)≤(0:Int)∧(0:Int)≤n∧n≤n∧n≤((Zab (AAa9 z7):Nat):Int))) (BIf (true&&Zam n==Zam n) (R (.tup [AV.full 1 (List.take (Zam n - Zam (0:Int)) (List.drop (Zam (0:Int)) (AAa9 z7))),Zae (i64 0)]) b) (R (.tup [Zae (Zai 1 (List.take (Zam n - Zam (0:Int)) (List.drop (Zam (0:Int)) (AAa9 z7)))),Zae (i64 0)]) b)) False)) False)))):=by kernel_rfl
theorem AGi9 {n:Nat} (h:n≤1000000):ABj9 n=(((n+255) / 256:Nat):Int):=by
 unfold ABj9
 have e1:Zaa Zap ((n:Int)+256)=((n+256:Nat):Int):=by rw [AAl9 (by omega) (by omega)];omega
 have e2:Zaa Zap (((n+256:Nat):Int) - 1)=((n+255:Nat):Int):=by rw [AAl9 (by omega) (by omega)];omega
 have e3:Zbq ((n+255:Nat):Int) 256=(((n+255) / 256:Nat):Int):=by
   rw [Zdf (by omega)];rfl
 rw [e1,e2,e3,AAl9 (by omega) (by omega)]
theorem AOu9:∀ {ps:List (List Int)},AAx9 ps=false→ps.flatten.length=256*ps.length
 | [],_=>rfl
 | p::ps,h=>by
   simp only [AAx9,List.any_cons,Bool.or_eq_false_iff] at h
   have h1:p.length=256:=by have:=h.1;simp at this;omega
   have:=AOu9 (ps:=ps) h.2
   simp only [List.flatten_cons,Zdh,List.length_cons];omega
def joinS (ps:List (List Int)) (n:Int):List Int×Int:=
 if (!ACl9 n)||(((ps.length:Int) !=ABj9 n)||AAx9 ps) then ([],1)
 else if 0<(trimS (ps.flatten.drop n.toNat)).length then ([],12) else (ps.flatten.take n.toNat,0)
theorem AFe9 {n:Int} (h:ACl9 n=true):∃k:Nat,n=k∧1≤k∧k≤4096:=by
 simp only [ACl9,Zan,decide_eq_true_eq] at h
 exact ⟨n.toNat,by omega,by omega,by omega⟩
theorem CGs9 (ps:List (List Int)) (n:Int) (hl:ps.length≤9223372036854775807):PCall prog 89 [.d (.sl 1 (AAc9 ps)), .d (i64 n)] (.tup [.d (.sl 1 (AAa9 (joinS ps n).1)), .d (i64 (joinS ps n).2)]):=by
 refine Zck (n:=100) (u:=false) (fun _=>wlNo _) mixed CLi9 Zac (fun Ev=>AEr9 Ev) func89 (by rfl) (by rfl) fun Ev bb=> ?_
 rw [CCd9,AAd9]
 have bad:∀z:Int,((!ACl9 n)||(((ps.length:Int) !=ABj9 n)||AAx9 ps))=true→z=1→LeV (AV.tup [Zae (Zfa (Zbp none 0 0)),Zae (i64 z)]) (.tup [.d (.sl 1 (AAa9 (joinS ps n).1)), .d (i64 (joinS ps n).2)]):=by
   intro z h hz
   rw [joinS,if_pos h,hz];exact LeV.tups (.cons (.nil rfl) (.cons .rfl .nil))
 refine ⟨n,_,rfl,rfl,Zaj (fun g1=>bad 1 (by rw [g1];rfl) rfl) fun g1=>⟨n,_,rfl,rfl,Zaj (fun g2=>bad 1 (by rw [g1,g2];rfl) rfl) fun g2=>⟨ps,_,rfl,⟨hl,rfl⟩,Zaj (fun g3=>bad 1 (by rw [g1,g2];simpa using g3) rfl) fun g3=> ?_⟩⟩⟩
 have hz:ACl9 n=true:=by simpa using g1
 have hc:(ps.length:Int)=ABj9 n:=by simpa using g2
 have ho:AAx9 ps=false:=by simpa using g3
 obtain ⟨k,rfl,hk1,hk2⟩:=AFe9 hz
 rw [AGi9 (by omega)] at hc
 have hfl:=AOu9 ho
 have hk3:k≤ps.flatten.length:=by omega
 have hgood:((!ACl9 (k:Int))||(((ps.length:Int) !=ABj9 k)||AAx9 ps))=false:=by rw [g1,g2,ho];rfl
 refine ⟨ps,_,rfl,⟨⟨by omega,by unfold sumL;omega,by unfold sumL;omega⟩,rfl⟩, ?_⟩
 rw [AAh9,Zas,Zas,AJn9,AEo9]
 have e1:List.take (ps.flatten.length - k) (List.drop k ps.flatten)=List.drop k ps.flatten:=List.take_of_length_le (by simp)
 rw [e1]
 refine Zbf (by simp only [Bool.true_and,decide_eq_true_eq];omega) ⟨_,_,rfl,⟨by rw [List.length_drop];omega,rfl⟩,Zaj (fun g4=> ?_) fun g4=>Zbf (by simp only [Bool.true_and,decide_eq_true_eq];omega) (Zbf (by simp) ?_)⟩
 · rw [AAh9] at g4
   rw [joinS,if_neg (by rw [hgood];simp),if_pos (by simpa using g4)]
   exact LeV.tups (.cons (.nil rfl) (.cons .rfl .nil))
 · rw [AAh9] at g4
   have e2:List.take (k - Zam 0) (List.drop (Zam 0) (AAa9 ps.flatten))=AAa9 (ps.flatten.take k):=by rw [show Zam 0=0 from rfl,List.drop_zero,Nat.sub_zero,AEo9]
   rw [e2,joinS,if_neg (by rw [hgood];simp),if_neg (by simpa using g4),Zas]
   exact LeV.tups (.cons .full (.cons .rfl .nil))
def cJoin (args:List AV) (K:AV→Prop):Prop:=∃(ps:List (List Int)) (n:Int) (z:List Int) (e:Int),args= [.d (.sl 1 (AAc9 ps)), .d (i64 n)]∧(ps.length≤9223372036854775807∧(z,e)=joinS ps n)∧K (.tup [.d (.sl 1 (AAa9 z)), .d (i64 e)])
theorem BVz9:∀args K,cJoin args K→∃x,PCall prog 89 args x∧K x:=by
 rintro _ K ⟨ps,n,z,e,rfl,⟨hl,he⟩,h⟩
 have h1:=CGs9 ps n hl
 rw [←he] at h1
 exact ⟨_,h1,h⟩
def TAc:List (Nat×(List AV→(AV→Prop)→Prop)):= [(27,CDh9),(83,AMn9),(84,cRoot)]
theorem CLr9:AAf9 prog TAc:=Zaf BLx9 (Zaf AJw9 (Zaf BVo9 Zah))
abbrev Qz39 (v0:Int) (v1:Int) (v2:Int) (v3:Int):List AV:= [Zbc [Zae (i64 v0),Zae (i64 v1),Zae (u64 v2),Zae (i64 v3)]]
abbrev Qz48:List AV:= [Zbc [Zae (i64 0),Zae (i64 0),Zae (u64 0),Zae (i64 0)],Zae (i64 1)]
theorem BAf9 (v t:Int) (p:List (List Dv)):wpFn prog ⟨TAc, [],wl,y,false⟩ 100 f25 [.d (i64 v), .d (.sl 1 p), .d (i64 t)] b R=(∃(p0:List Int), [Zae (Zai 1 p)]= [Zae (Zai 1 (AAa9 p0))]∧Zab p0≤9223372036854775807∧∃(z1:Bool) (q2:List (List Int)),z1=ACl9 ((Zab p0:Nat):Int)∧q2=ADn9 p0∧BIf z1 (∃(a3:Int) (n4:Int) (r5:Int) (t6:Int) (z7:Bool), [Zbc [Zae (i64 v),Zae (i64 ((Zab p:Nat):Int)),Zae (u64 0),Zae (i64 t)]]=(Qz39 a3 n4 r5 t6)∧z7=AAi9 a3 n4 t6∧BIf (!z7) (R (.tup Qz48) b) (∃(ps8:List (List Int)) (z9:Int×Int), [Zae (Zai 1 (AAc9 q2))]= [Zae (Zai 1 (AAc9 ps8))]∧z9=rootS ps8∧R (.tup [Zbc [Zae (i64 v),Zae (i64 ((Zab p:Nat):Int)),Zae (u64 (Prod.fst z9)),Zae (i64 t)],Zae (i64 (Prod.snd z9))]) b)) (R (.tup Qz48) b)):=by kernel_rfl
theorem BLm9 (p:List (List Dv)):wpFn prog ⟨[], [],wl,y,false⟩ 100 f120 [.d (.sl 1 p)] b R=(∀(t:Bool),(t=true→p= [])→BIf t (R (.d (Zfa (.slice none 0 0))) b) (BIf (decide ((0+Zab p)*1≤140737488355328)) (BIf (Zed p) (R (AV.full 1 []) b) (R (.d (Zai 1 ([]++p))) b)) False)):=by kernel_rfl
theorem BFo9 (p:List (List Dv)):wpFn prog ⟨[], [],wl,y,false⟩ 100 f51 [.d (.sl 1 p)] b R=(∀(t:Bool),(t=true→p= [])→BIf t (R (.d (Zfa (.slice none 0 0))) b) (BIf (decide ((0+Zab p)*8≤140737488355328)) (BIf (Zed p) (R (AV.full 1 []) b) (R (.d (Zai 1 ([]++p))) b)) False)):=by kernel_rfl
structure NotT where
 v:Int
 n:Int
 r:Int
 t:Int
def annS (v:Int) (p:List Int) (t:Int):NotT×Int:=
 if ACl9 p.length&&AAi9 v p.length t then (⟨v,p.length,(rootS (ADn9 p)).1,t⟩,(rootS (ADn9 p)).2) else (⟨0,0,0,0⟩,1)
def notV (x:NotT):AV:=notA x.v x.n x.r x.t
theorem BDj9 (v t:Int) (p:List Int) (hl:p.length≤9223372036854775807):PCall prog 25 [.d (i64 v), .d (.sl 1 (AAa9 p)), .d (i64 t)] (.tup [notV (annS v p t).1, .d (i64 (annS v p t).2)]):=by
 refine Zaz (n:=100) (u:=false) mixed CLr9 Zac func25 (by rfl) (by rfl) fun Ev bb=> ?_
 rw [BAf9]
 refine ⟨p,rfl,hl,_,_,rfl,rfl,Zaj (fun g1=>⟨_,_,_,_,_,rfl,rfl,Zaj (fun g2=> ?_) fun g2=>⟨_,_,rfl,rfl, ?_⟩⟩) fun g1=> ?_⟩
 · rw [AAh9] at g2
   have g2:AAi9 v p.length t=false:=by simpa using g2
   rw [annS,g1,g2];rfl
 · rw [AAh9] at g2 ⊢
   have g2:AAi9 v p.length t=true:=by simpa using g2
   rw [annS,g1,g2];rfl
 · rw [annS,g1];rfl
def AYb9 (args:List AV) (K:AV→Prop):Prop:=∃(v t:Int) (p:List Int) (z:NotT) (e:Int),args= [.d (i64 v), .d (.sl 1 (AAa9 p)), .d (i64 t)]∧(p.length≤9223372036854775807∧(z,e)=annS v p t)∧K (.tup [notV z, .d (i64 e)])
theorem AUv9:∀args K,AYb9 args K→∃x,PCall prog 25 args x∧K x:=by
 rintro _ K ⟨v,t,p,z,e,rfl,⟨hl,he⟩,h⟩
 have:=BDj9 v t p hl
 rw [←he] at this
 exact ⟨_,this,h⟩
def AAe9 (qs:List (List Int)):List (List Dv):=qs.map fun q=> [.sl 1 (digR q)]
def G22:List (Nat×(List AV→List Blk→(AV→List Blk→Prop)→Prop)):= [(1000000+33,fun _ _ _=>False),(1000000+28,fun _ _ _=>False)]
theorem CFn9:AAk9 prog G22:=Zci (fun _ _ _ h=>h.elim) (Zci (fun _ _ _ h=>h.elim) Zac)
theorem AZr9 (p:List (List Dv)):wpFnS prog ⟨[],G22,wl,y,false⟩ 100 f127 [.d (.sl 1 p)] b RS=(∀(t:Bool),(t=true→p= [])→BIf t (RS (Zae (Zfa (.slice none 0 0))) [] b) (BIf (true&&decide (Zab p*24≤140737488355328)) (BIf (decide (0<Zab p)) (RS (AV.gref 0 0 (Zab p) 1) [Blk.mk (flatA p) false true 0] b) (RS (AV.full 1 []) [] b)) False)):=by kernel_rfl
theorem AZq9 (p:List (List Dv)):wpFnS prog ⟨[],G22,wl,y,false⟩ 100 f128 [.d (.sl 1 p)] b RS=(∀(t:Bool),(t=true→p= [])→BIf t (RS (Zae (Zfa (.slice none 0 0))) [] b) (BIf (true&&decide (Zab p*24≤140737488355328)) (BIf (decide (0<Zab p)) (RS (AV.gref 0 0 (Zab p) 1) [Blk.mk (flatA p) false true 0] b) (RS (AV.full 1 []) [] b)) False)):=by kernel_rfl
theorem BTo9 (xs:List (List Dv)) (hl:xs.length≤1000000):PCall prog 120 [.d (.sl 1 xs)] (.d (.sl 1 xs)):=by
 refine Zck (n:=100) (u:=false) (fun _=>wlNo _) mixed Zah Zac (fun Ev=>AEr9 Ev) func120 (by rfl) (by rfl) fun Ev bb=> ?_
 rw [BLm9]
 refine fun t ht=>Zaj (fun h=>by rw [ht h];exact .nil rfl) fun h=>Zbf (by simp<;>omega) (Zaj (fun h=>by rw [List.isEmpty_iff.1 h];exact .full) fun h=> .rfl)
def BHd9 (args:List AV) (K:AV→Prop):Prop:=∃(xs:List (List Dv)),args= [.d (.sl 1 xs)]∧xs.length≤1000000∧K (.d (.sl 1 xs))
theorem ATe9:∀args K,BHd9 args K→∃x,PCall prog 120 args x∧K x:=by
 rintro _ K ⟨xs,rfl,hl,h⟩;exact ⟨_,BTo9 xs hl,h⟩
theorem BJx9 (xs:List (List Dv)) (hl:xs.length≤1000000):PCall prog 51 [.d (.sl 1 xs)] (.d (.sl 1 xs)):=by
 refine Zck (n:=100) (u:=false) (fun _=>wlNo _) mixed Zah Zac (fun Ev=>AEr9 Ev) func51 (by rfl) (by rfl) fun Ev bb=> ?_
 rw [BFo9]
 refine fun t ht=>Zaj (fun h=>by rw [ht h];exact .nil rfl) fun h=>Zbf (by simp<;>omega) (Zaj (fun h=>by rw [List.isEmpty_iff.1 h];exact .full) fun h=> .rfl)
def AMm9 (args:List AV) (K:AV→Prop):Prop:=∃(xs:List (List Dv)),args= [.d (.sl 1 xs)]∧xs.length≤1000000∧K (.d (.sl 1 xs))
theorem AHg9:∀args K,AMm9 args K→∃x,PCall prog 51 args x∧K x:=by
 rintro _ K ⟨xs,rfl,hl,h⟩;exact ⟨_,BJx9 xs hl,h⟩
structure SprT where
 no:NotT
 ps:List (List Int)
 qs:List (List Int)
 rows:List (List Dv)
 pf:List Int
 i1:Int
 i2:Int
 i3:Int
 i4:Int
 i5:Int
def spD (s:SprT):List Dv:= [i64 s.no.v,i64 s.no.n,u64 s.no.r,i64 s.no.t, .sl 1 (AAc9 s.ps), .sl 1 (AAe9 s.qs), .sl 2 s.rows, .sl 1 (digR s.pf),i64 s.i1,i64 s.i2,i64 s.i3,i64 s.i4,i64 s.i5]
def spV (s:SprT):AV:= .agg [.d (i64 s.no.v), .d (i64 s.no.n), .d (u64 s.no.r), .d (i64 s.no.t), .d (.sl 1 (AAc9 s.ps)), .d (.sl 1 (AAe9 s.qs)), .d (.sl 2 s.rows), .d (.sl 1 (digR s.pf)), .d (i64 s.i1), .d (i64 s.i2), .d (i64 s.i3), .d (i64 s.i4), .d (i64 s.i5)]
def TSo:List (Nat×(List AV→(AV→Prop)→Prop)):= [(125,BHb9),(177,CEd9)]
theorem CKw9:AAf9 prog TSo:=Zaf AKt9 (Zaf BMq9 Zah)
noncomputable def lp45:Code:=sub [1,1,0,1,2,3] (code f88)
def tm45 (ps:List (List Dv)) (n i:Int):List AV:= [.bad, .ptr 0 0]++Zag 40 .bad++ [.d (.sl 1 ps), .d (i64 n), .d (i64 i)]++Zag 16 .bad
def TSs:List (Nat×(List AV→(AV→Prop)→Prop)):= [(125,BHb9),(83,AMn9),(148,BVv9)]
theorem CKu9:AAf9 prog TSs:=Zaf AKt9 (Zaf AJw9 (Zaf AXv9 Zah))
theorem BJz9:BNl9 prog 127 1:=fun xs hl=>by
 refine FCall.ofFnF (n:=100) (u:=false) (fun _=>wlNo _) mixed Zah CFn9 (fun Ev=>AEr9 Ev) func127 (by rfl) (by rfl) (by split<;>rfl) fun Ev bb=> ?_
 rw [AZr9]
 refine fun t ht=>Zaj (fun h=>by rw [ht h];exact ⟨.nilFull rfl,rfl⟩) fun h=>Zbf (by simp<;>omega) ?_
 cases xs with
 |nil=>exact Zct rfl ⟨.rfl,rfl⟩
 |cons a xs=>exact Zbf (by simp) ⟨.rfl,rfl⟩
theorem BJy9:BNl9 prog 128 1:=fun xs hl=>by
 refine FCall.ofFnF (n:=100) (u:=false) (fun _=>wlNo _) mixed Zah CFn9 (fun Ev=>AEr9 Ev) func128 (by rfl) (by rfl) (by split<;>rfl) fun Ev bb=> ?_
 rw [AZq9]
 refine fun t ht=>Zaj (fun h=>by rw [ht h];exact ⟨.nilFull rfl,rfl⟩) fun h=>Zbf (by simp<;>omega) ?_
 cases xs with
 |nil=>exact Zct rfl ⟨.rfl,rfl⟩
 |cons a xs=>exact Zbf (by simp) ⟨.rfl,rfl⟩
abbrev Qz51 (v0:Int) (v1:Int) (v2:Int) (v3:List Int) (v4:List Int):List AV:= [Zae (u64 v0),Zae (i64 v1),Zae (i64 v2),Zae (Zai 1 (AAa9 v3)),Zae (Zai 1 (digR v4))]
theorem BJk9 (s:SprT) (i:Int) (p q:List (List Dv)):wpFn prog ⟨TSo, [],wl,y,false⟩ 100 f126 [spV s, .d (i64 i), .d (.sl 1 p), .d (.sl 1 q)] b R=(∃(n0:Int) (z1:Int), [Zae (i64 (NotT.n (SprT.no s)))]= [Zae (i64 n0)]∧z1=ABj9 n0∧∃(r2:Int) (n3:Int) (i4:Int) (p5:List Int) (q6:List Int) (z7:Bool), [Zae (u64 (NotT.r (SprT.no s))),Zae (i64 z1),Zae (i64 i),Zae (Zai 1 p),Zae (Zai 1 q)]=(Qz51 r2 n3 i4 p5 q6)∧z7=ACw9 r2 n3 i4 p5 q6∧R (.d (bo z7)) b):=by kernel_rfl
def ABl9 (s:SprT) (i:Int) (p q:List Int):Bool:=ACw9 s.no.r (ABj9 s.no.n) i p q
theorem BTg9 (s:SprT) (i:Int) (p q:List Int):PCall prog 126 [spV s, .d (i64 i), .d (.sl 1 (AAa9 p)), .d (.sl 1 (digR q))] (.d (bo (ABl9 s i p q))):=by
 refine Zaz (n:=100) (u:=false) mixed CKw9 Zac func126 (by rfl) (by rfl) fun Ev bb=> ?_
 rw [BJk9]
 exact ⟨_,_,rfl,rfl,_,_,_,_,_,_,rfl,rfl,rfl⟩
def BGs9 (args:List AV) (K:AV→Prop):Prop:=∃(s:SprT) (i:Int) (p q:List Int) (z:Bool),args= [spV s, .d (i64 i), .d (.sl 1 (AAa9 p)), .d (.sl 1 (digR q))]∧z=ABl9 s i p q∧K (.d (bo z))
theorem ATc9:∀args K,BGs9 args K→∃x,PCall prog 126 args x∧K x:=by
 rintro _ K ⟨s,i,p,q,_,rfl,rfl,h⟩;exact ⟨_,BTg9 s i p q,h⟩
def TPd:List (Nat×(List AV→(AV→Prop)→Prop)):= [(126,BGs9)]
theorem CFa9:AAf9 prog TPd:=Zaf ATc9 Zah
def blkSI (s:SprT):Blk:=⟨(spD s).map .d,false,false,0⟩
abbrev Qz1 (v0:SprT):List AV:= [Zae (i64 (NotT.v (SprT.no v0))),Zae (i64 (NotT.n (SprT.no v0))),Zae (u64 (NotT.r (SprT.no v0))),Zae (i64 (NotT.t (SprT.no v0))),Zae (Zai 1 (AAc9 (SprT.ps v0))),Zae (Zai 1 (AAe9 (SprT.qs v0))),Zae (Zai 2 (SprT.rows v0)),Zae (Zai 1 (digR (SprT.pf v0))),Zae (i64 (SprT.i1 v0)),Zae (i64 (SprT.i2 v0)),Zae (i64 (SprT.i3 v0)),Zae (i64 (SprT.i4 v0)),Zae (i64 (SprT.i5 v0))]
theorem r45 (s:SprT) (ps:List (List Dv)) (n i:Int):wpc prog ⟨TPd, [],wl,y,false⟩ 100 lp45 (tm45 ps n i) [blkSI s] b (maskT [1,2,42,43,44] K)=(BIf (decide (i<n)) (BIf (true&&decide (0≤i)) (∃(xs0:List (List Dv)),ps[Zam i]? =some [Zai 1 xs0]∧BIf (true&&decide (0≤i)) (∃(xs3:List (List Dv)),(AAe9 (SprT.qs s))[Zam i]? =some [Zai 1 xs3]∧∃(s6:SprT) (i7:Int) (p8:List Int) (q9:List Int) (z10:Bool), [Zbc (Qz1 s),Zae (i64 i),Zae (Zai 1 xs0),Zae (Zai 1 xs3)]= [Zbc (Qz1 s6),Zae (i64 i7),Zae (Zai 1 (AAa9 p8)),Zae (Zai 1 (digR q9))]∧z10=ABl9 s6 i7 p8 q9∧BIf (!z10) (K .ret (Zaq::Zbe 0 0::Zae (bo false)::bds 39 (Zae (Zai 1 ps)::Zae (i64 n)::Zae (i64 i)::bds 16 [])) [Blk.mk (Qz1 s) false false 0] b) (K .normal (Zaq::Zbe 0 0::bds 40 (Zae (Zai 1 ps)::Zae (i64 n)::Zae (i64 (Zaa .i64 (i+1)))::bds 16 [])) [Blk.mk (Qz1 s) false false 0] b)) False) False) (K (Zcy 0) (Zaq::Zbe 0 0::bds 40 (Zae (Zai 1 ps)::Zae (i64 n)::Zae (i64 i)::bds 16 [])) [Blk.mk (Qz1 s) false false 0] b)):=by kernel_rfl
def allP (s:SprT):Nat→List (List Int)→List (List Int)→Bool
 |k,p::ps,q::qs=>ABl9 s k p q&&allP s (k+1) ps qs
 |_,_,_=>true
theorem AAs9 (qs:List (List Int)):(AAe9 qs).length=qs.length:=by simp [AAe9]
theorem wr45 {Ev:Env prog} {b:Ev.β} {Q:Exit→St Ev.β→Prop} (s:SprT) (hl:s.ps.length≤1000000):∀(ps qs:List (List Int)) (k:Nat),s.ps.drop k=ps→s.qs.drop k=qs→k≤s.ps.length→ps.length=qs.length→
   (allP s k ps qs=true→∀i:Int,Q (.exit 0) ⟨tm45 (AAc9 s.ps) s.ps.length i, [blkSI s],b⟩)→(allP s k ps qs=false→∀i:Int,Q .ret ⟨(tm45 (AAc9 s.ps) s.ps.length i).set 2 (.d (bo false)), [blkSI s],b⟩)→
   WR Ev lp45 (ps.length+1) ⟨tm45 (AAc9 s.ps) s.ps.length k, [blkSI s],b⟩ Q
 | [],qs,k,hd,hd2,hk,hlen,h1,h2=>by
   refine Zbw [1,2,42,43,44] mixed (CX.Ok.of (u:=false) CFa9 Zac) (k:=100) ?_
   rw [r45]
   have:=ABm9 hd
   exact Zct (by simp<;>omega) (h1 (by rw [allP];intros;simp_all) _)
 |p::ps, [],k,hd,hd2,hk,hlen,h1,h2=>by simp at hlen
 | p::ps,q::qs,k,hd,hd2,hk,hlen,h1,h2=>by
   refine Zbw [1,2,42,43,44] mixed (CX.Ok.of (u:=false) CFa9 Zac) (k:=100) ?_
   rw [r45]
   obtain ⟨hk',hr,hd'⟩:=AAw9 hd
   obtain ⟨hk2,hr2,hd2'⟩:=AAw9 hd2
   refine Zbf (by simp<;>omega) (Zbf (by simp) ⟨AAa9 p,by simp [AAc9,hr],Zbf (by simp) ⟨digR q,by simp [AAe9,hr2],s,k,p,q,_,rfl,rfl,Zaj (fun g=> ?_) fun g=> ?_⟩⟩)
   · have g:ABl9 s k p q=false:=by simpa using g
     exact h2 (by rw [allP,g];rfl) _
   · have g:ABl9 s k p q=true:=by simpa using g
     rw [allP,g,Bool.true_and] at h1 h2
     rw [AAu9 hk' (by omega)]
     exact wr45 s hl ps qs (k+1) hd' hd2' hk' (by simpa using hlen) h1 h2
def wl45 {β:Type}:WLT β:=fun c tm hp b K=>∃(s:SprT) (z:Bool),c= .loop lp45∧ABb9 [1,42,43,44] 0 tm=tm45 (AAc9 s.ps) (AAc9 s.ps).length 0∧hp= [blkSI s]∧((s.ps.length≤1000000∧s.qs.length=s.ps.length)∧z=allP s 0 s.ps s.qs)∧
 BIf z (∀i:Int,K (.exit 0) (tm45 (AAc9 s.ps) (AAc9 s.ps).length i) [blkSI s] b) (∀i:Int,K .ret ((tm45 (AAc9 s.ps) (AAc9 s.ps).length i).set 2 (.d (bo false))) [blkSI s] b)
theorem BYk9 {Ev:Env prog} (c:Code) (tm:List AV) (hp:List Blk) (b:Ev.β) (K:Exit→List AV→List Blk→Ev.β→Prop) (h:wl45 c tm hp b K):W Ev c ⟨tm,hp,b⟩ (fun e s=>K e s.tm s.hp s.b):=by
 obtain ⟨s,z,rfl,htm,rfl,⟨⟨hl,hlen⟩,hz⟩,hK⟩:=h
 rw [AAd9] at htm hK
 refine W.cast (htm▸AAg9 _ tm 0) (Zbt _) ?_
 exact W.rounds (wr45 (Q:=fun e s=>K e s.tm s.hp s.b) s hl s.ps s.qs 0 rfl rfl (Zdb _) hlen.symm (fun h=>by rw [hz,h] at hK;exact hK) fun h=>by rw [hz,h] at hK;exact hK)
abbrev Qz28 (v0:SprT):=Zaq::Zbe 0 0::bds 40 (Zae (Zai 1 (AAc9 (SprT.ps v0)))::Zae (i64 ((Zab (AAc9 (SprT.ps v0)):Nat):Int))::Zae (i64 0)::bds 16 [])
abbrev Qz32 (v0:SprT):List AV:= [Zbc [Zae (i64 (NotT.v (SprT.no v0))),Zae (i64 (NotT.n (SprT.no v0))),Zae (u64 (NotT.r (SprT.no v0))),Zae (i64 (NotT.t (SprT.no v0)))]]
theorem BRh9 (s:SprT):wpFn prog ⟨TSs, [],wl45,y,false⟩ 100 f88 [spV s] b R=(∃(a0:Int) (n1:Int) (r2:Int) (t3:Int) (z4:Bool),(Qz32 s)=(Qz39 a0 n1 r2 t3)∧z4=AAi9 a0 n1 t3∧BIf (!z4) (R (.d (bo false)) b) (∃(n5:Int) (z6:Int), [Zae (i64 (NotT.n (SprT.no s)))]= [Zae (i64 n5)]∧z6=ABj9 n5∧BIf (decide (((Zab (AAc9 (SprT.ps s)):Nat):Int)>z6)) (R (.d (bo false)) b) (BIf (((Zab (AAe9 (SprT.qs s)):Nat):Int) !=((Zab (AAc9 (SprT.ps s)):Nat):Int)) (R (.d (bo false)) b) (∃(ps7:List (List Int)) (z8:Bool), [Zae (Zai 1 (AAc9 (SprT.ps s)))]= [Zae (Zai 1 (AAc9 ps7))]∧(Zab ps7≤9223372036854775807∧z8= !AAx9 ps7)∧BIf (!z8) (R (.d (bo false)) b) (∃(s9:SprT) (z10:Bool),Zax lp45=Zax lp45∧(Qz28 s)=(Qz28 s9)∧ [Blk.mk (Qz1 s) false false 0]= [Blk.mk (Qz1 s9) false false 0]∧((Zab (SprT.ps s9)≤1000000∧Zab (SprT.qs s9)=Zab (SprT.ps s9))∧z10=allP s9 0 (SprT.ps s9) (SprT.qs s9))∧BIf z10 (∀(i:Int),R (.d (bo true)) b) (∀(i:Int),R (.d (bo false)) b)))))):=by kernel_rfl
def ABt9 (s:SprT):Bool:=AAi9 s.no.v s.no.n s.no.t&&(!decide ((s.ps.length:Int)>ABj9 s.no.n)&&(!((s.qs.length:Int) !=s.ps.length)&&(!AAx9 s.ps&&allP s 0 s.ps s.qs)))
noncomputable def AUj9:Code:=sub [1,1,1,1,0,1,2,3] (code f53)
noncomputable def ALx9:Code:=sub [1,1,1,1,1,0,1,2,3] (code f53)
def outB (s:SprT) (X Y:AV):Blk:=⟨[.d (i64 s.no.v), .d (i64 s.no.n), .d (u64 s.no.r), .d (i64 s.no.t),X,Y,nilV,nilV, .d (i64 s.i1), .d (i64 s.i2), .d (i64 s.i3), .d (i64 s.i4), .d (i64 s.i5)],false,false,0⟩
def AYp9 (pf rows:List (List Dv)) (n i:Int):List AV:= [.bad, .bad, .d (.sl 1 pf), .bad, .bad, .bad, .ptr 1 0, .bad, .ptr 2 0, .ptr 3 0]++Zag 52 .bad++ [.d (.sl 1 rows), .d (i64 n), .d (i64 i)]++Zag 32 .bad
def AYo9 (rows:List (List Dv)) (n i:Int):List AV:= [.bad, .bad, .bad, .bad, .bad, .bad, .ptr 1 0, .bad, .ptr 2 0, .ptr 3 0]++Zag 72 .bad++ [.d (.sl 1 rows), .d (i64 n), .d (i64 i)]++Zag 12 .bad
def TPa:List (Nat×(List AV→(AV→Prop)→Prop)):= [(120,BHd9),(51,AMm9)]
theorem BNc9:AAf9 prog TPa:=Zaf ATe9 (Zaf AHg9 Zah)
abbrev Qz8 (v0:SprT) (v1:List (List Dv)):List AV:= [Zae (i64 (NotT.v (SprT.no v0))),Zae (i64 (NotT.n (SprT.no v0))),Zae (u64 (NotT.r (SprT.no v0))),Zae (i64 (NotT.t (SprT.no v0))),AV.own 33 1 v1,Zae (Zfa (.slice none 0 0)),Zae (Zfa (.slice none 0 0)),Zae (Zfa (.slice none 0 0)),Zae (i64 (SprT.i1 v0)),Zae (i64 (SprT.i2 v0)),Zae (i64 (SprT.i3 v0)),Zae (i64 (SprT.i4 v0)),Zae (i64 (SprT.i5 v0))]
theorem r21a (s:SprT) (b0 b1 b2:Blk) (J:List Blk) (pf rows acc:List (List Dv)) (n i:Int):wpc prog ⟨TPa, [],wl,y,false⟩ 100 AUj9 (AYp9 pf rows n i) ([b0,b1,b2,outB s (.own 33 1 acc) nilV]++J) b (maskT [2,6,8,9,62,63,64] K)=(BIf (decide (i<n)) (BIf (true&&decide (0≤i)) (∃(xs0:List (List Dv)),rows[Zam i]? =some [Zai 1 xs0]∧∃(xs3:List (List Dv)), [Zae (Zai 1 xs0)]= [Zae (Zai 1 xs3)]∧Zab xs3≤1000000∧BIf (true&&decide ((Zab acc+1)*24≤140737488355328)) (K .normal (Zaq::Zaq::Zae (Zai 1 pf)::bds 3 (Zbe 1 0::Zaq::Zbe 2 0::Zbe 3 0::bds 52 (Zae (Zai 1 rows)::Zae (i64 n)::Zae (i64 (Zaa .i64 (i+1)))::bds 32 []))) (b0::b1::b2::Blk.mk [Zae (i64 (NotT.v (SprT.no s))),Zae (i64 (NotT.n (SprT.no s))),Zae (u64 (NotT.r (SprT.no s))),Zae (i64 (NotT.t (SprT.no s))),AV.own 33 1 (acc++ [[Zai 1 xs3]]),Zae (Zfa (.slice none 0 0)),Zae (Zfa (.slice none 0 0)),Zae (Zfa (.slice none 0 0)),Zae (i64 (SprT.i1 s)),Zae (i64 (SprT.i2 s)),Zae (i64 (SprT.i3 s)),Zae (i64 (SprT.i4 s)),Zae (i64 (SprT.i5 s))] false false 0::List.append._f [] PUnit.unit J) b) False) False) (K (Zcy 1) (Zaq::Zaq::Zae (Zai 1 pf)::bds 3 (Zbe 1 0::Zaq::Zbe 2 0::Zbe 3 0::bds 52 (Zae (Zai 1 rows)::Zae (i64 n)::Zae (i64 i)::bds 32 []))) (b0::b1::b2::Blk.mk (Qz8 s acc) false false 0::List.append._f [] PUnit.unit J) b)):=by kernel_rfl
abbrev Qz17 (v0:SprT) (v1:List (List Dv)) (v2:List (List Dv)):List AV:= [Zae (i64 (NotT.v (SprT.no v0))),Zae (i64 (NotT.n (SprT.no v0))),Zae (u64 (NotT.r (SprT.no v0))),Zae (i64 (NotT.t (SprT.no v0))),AV.own 33 1 v1,AV.own 28 1 v2,Zae (Zfa (.slice none 0 0)),Zae (Zfa (.slice none 0 0)),Zae (i64 (SprT.i1 v0)),Zae (i64 (SprT.i2 v0)),Zae (i64 (SprT.i3 v0)),Zae (i64 (SprT.i4 v0)),Zae (i64 (SprT.i5 v0))]
theorem r21b (s:SprT) (b0 b1 b2:Blk) (J:List Blk) (X:List (List Dv)) (rows acc:List (List Dv)) (n i:Int):wpc prog ⟨TPa, [],wl,y,false⟩ 100 ALx9 (AYo9 rows n i) ([b0,b1,b2,outB s (.own 33 1 X) (.own 28 1 acc)]++J) b (maskT [6,8,9,82,83,84] K)=(BIf (decide (i<n)) (BIf (true&&decide (0≤i)) (∃(xs0:List (List Dv)),rows[Zam i]? =some [Zai 1 xs0]∧∃(xs3:List (List Dv)), [Zae (Zai 1 xs0)]= [Zae (Zai 1 xs3)]∧Zab xs3≤1000000∧BIf (true&&decide ((Zab acc+1)*24≤140737488355328)) (K .normal (bds 6 (Zbe 1 0::Zaq::Zbe 2 0::Zbe 3 0::bds 72 (Zae (Zai 1 rows)::Zae (i64 n)::Zae (i64 (Zaa .i64 (i+1)))::bds 12 []))) (b0::b1::b2::Blk.mk [Zae (i64 (NotT.v (SprT.no s))),Zae (i64 (NotT.n (SprT.no s))),Zae (u64 (NotT.r (SprT.no s))),Zae (i64 (NotT.t (SprT.no s))),AV.own 33 1 X,AV.own 28 1 (acc++ [[Zai 1 xs3]]),Zae (Zfa (.slice none 0 0)),Zae (Zfa (.slice none 0 0)),Zae (i64 (SprT.i1 s)),Zae (i64 (SprT.i2 s)),Zae (i64 (SprT.i3 s)),Zae (i64 (SprT.i4 s)),Zae (i64 (SprT.i5 s))] false false 0::List.append._f [] PUnit.unit J) b) False) False) (K (Zcy 3) (bds 6 (Zbe 1 0::Zaq::Zbe 2 0::Zbe 3 0::bds 72 (Zae (Zai 1 rows)::Zae (i64 n)::Zae (i64 i)::bds 12 []))) (b0::b1::b2::Blk.mk (Qz17 s X acc) false false 0::List.append._f [] PUnit.unit J) b)):=by kernel_rfl
theorem CAm9 (s:SprT) (hl:s.ps.length≤9223372036854775807):PCall prog 88 [spV s] (.d (bo (ABt9 s))):=by
 refine Zcd (n:=100) (u:=false) (fun _=>wl45) mixed CKu9 Zac (fun Ev=>BYk9) func88 (by rfl) (by rfl) fun Ev bb=> ?_
 rw [BRh9]
 refine ⟨_,_,_,_,_,rfl,rfl,Zaj (fun g=> ?_) fun g1=>⟨_,_,rfl,rfl,Zaj (fun g=> ?_) fun g2=>Zaj (fun g=> ?_) fun g3=>⟨_,_,rfl,⟨hl,rfl⟩,Zaj (fun g=> ?_) fun g4=>⟨s,_,rfl,rfl,rfl,⟨⟨?_, ?_⟩,rfl⟩,Zaj (fun g5 _=> ?_) fun g5 _=> ?_⟩⟩⟩⟩
 · have:AAi9 s.no.v s.no.n s.no.t=false:=by simpa using g
   rw [ABt9,this];rfl
 · rw [AAd9] at g
   have h1:AAi9 s.no.v s.no.n s.no.t=true:=by simpa using g1
   rw [ABt9,h1,g];rfl
 · rw [AAd9,AAs9] at g
   rw [AAd9] at g2
   have h1:AAi9 s.no.v s.no.n s.no.t=true:=by simpa using g1
   rw [ABt9,h1,g2,g];rfl
 · rw [AAd9,AAs9] at g3
   rw [AAd9] at g2
   have h1:AAi9 s.no.v s.no.n s.no.t=true:=by simpa using g1
   have h4:AAx9 s.ps=true:=by simpa using g
   rw [ABt9,h1,g2,g3,h4];rfl
 · rw [AAd9] at g2
   have h1:AAi9 s.no.v s.no.n s.no.t=true:=by simpa using g1
   have h6:ACl9 s.no.n=true:=by simp only [AAi9,Zan] at h1;exact h1.2.2.1
   obtain ⟨k,hk,hk1,hk2⟩:=AFe9 h6
   rw [hk,AGi9 (by omega)] at g2
   simp at g2;omega
 · rw [AAd9,AAs9] at g3
   simp at g3;omega
 · rw [AAd9] at g2
   rw [AAd9,AAs9] at g3
   have h1:AAi9 s.no.v s.no.n s.no.t=true:=by simpa using g1
   have h4:AAx9 s.ps=false:=by simpa using g4
   rw [ABt9,h1,g2,g3,h4,g5];rfl
 · rw [AAd9] at g2
   rw [AAd9,AAs9] at g3
   have h1:AAi9 s.no.v s.no.n s.no.t=true:=by simpa using g1
   have h4:AAx9 s.ps=false:=by simpa using g4
   rw [ABt9,h1,g2,g3,h4,g5];rfl
def BVm9 (args:List AV) (K:AV→Prop):Prop:=∃(s:SprT) (z:Bool),args= [spV s]∧(s.ps.length≤9223372036854775807∧z=ABt9 s)∧K (.d (bo z))
theorem AXq9:∀args K,BVm9 args K→∃x,PCall prog 88 args x∧K x:=by
 rintro _ K ⟨s,_,rfl,⟨hl,rfl⟩,h⟩;exact ⟨_,CAm9 s hl,h⟩
theorem AGn9 (ps:List (List Int)) (p:List Int):AAc9 ps++ [[.sl 1 (AAa9 p)]]=AAc9 (ps++ [p]):=by simp [AAc9]
theorem AFv9 (ps:List (List Int)) (p:List Int):AAe9 ps++ [[.sl 1 (digR p)]]=AAe9 (ps++ [p]):=by simp [AAe9]
theorem BXi9 {Ev:Env prog} {b:Ev.β} {Q:Exit→St Ev.β→Prop} (s:SprT) (b0 b1 b2:Blk) (J:List Blk) (pf:List (List Dv)) (L:List (List Int)) (hl:L.length≤1000000) (hL:∀p∈L,p.length≤1000000):∀(rest:List (List Int)) (k:Nat) (acc:List (List Int)),L.drop k=rest→k≤L.length→acc.length≤k→
   (∀i:Int,Q (.exit 1) ⟨AYp9 pf (AAc9 L) L.length i, [b0,b1,b2,outB s (.own 33 1 (AAc9 (acc++rest))) nilV]++J,b⟩)→WR Ev AUj9 (rest.length+1) ⟨AYp9 pf (AAc9 L) L.length k, [b0,b1,b2,outB s (.own 33 1 (AAc9 acc)) nilV]++J,b⟩ Q
 | [],k,acc,hd,hk,ha,h=>by
   refine Zbw [2,6,8,9,62,63,64] mixed (CX.Ok.of (u:=false) BNc9 Zac) (k:=100) ?_
   rw [r21a]
   have:=ABm9 hd
   rw [Zef] at h
   exact Zct (by simp<;>omega) (h _)
 | p::rest,k,acc,hd,hk,ha,h=>by
   refine Zbw [2,6,8,9,62,63,64] mixed (CX.Ok.of (u:=false) BNc9 Zac) (k:=100) ?_
   rw [r21a]
   obtain ⟨hk',hr,hd'⟩:=AAw9 hd
   refine Zbf (by simp<;>omega) (Zbf (by simp) ⟨AAa9 p,by simp [AAc9,hr],_,rfl,by rw [AAh9];exact hL p (Zbh hr),Zbf (by simp [AAd9]<;>omega) ?_⟩)
   rw [AGn9,AAu9 hk' (by omega)]
   refine BXi9 s b0 b1 b2 J pf L hl hL rest (k+1) (acc++ [p]) hd' hk' (by simp<;>omega) ?_
   rw [Zcg];exact h
theorem BXh9 {Ev:Env prog} {b:Ev.β} {Q:Exit→St Ev.β→Prop} (s:SprT) (b0 b1 b2:Blk) (J:List Blk) (X:List (List Dv)) (L:List (List Int)) (hl:L.length≤1000000) (hL:∀p∈L,p.length≤1000000):∀(rest:List (List Int)) (k:Nat) (acc:List (List Int)),L.drop k=rest→k≤L.length→acc.length≤k→
   (∀i:Int,Q (.exit 3) ⟨AYo9 (AAe9 L) L.length i, [b0,b1,b2,outB s (.own 33 1 X) (.own 28 1 (AAe9 (acc++rest)))]++J,b⟩)→WR Ev ALx9 (rest.length+1) ⟨AYo9 (AAe9 L) L.length k, [b0,b1,b2,outB s (.own 33 1 X) (.own 28 1 (AAe9 acc))]++J,b⟩ Q
 | [],k,acc,hd,hk,ha,h=>by
   refine Zbw [6,8,9,82,83,84] mixed (CX.Ok.of (u:=false) BNc9 Zac) (k:=100) ?_
   rw [r21b]
   have:=ABm9 hd
   rw [Zef] at h
   exact Zct (by simp<;>omega) (h _)
 | p::rest,k,acc,hd,hk,ha,h=>by
   refine Zbw [6,8,9,82,83,84] mixed (CX.Ok.of (u:=false) BNc9 Zac) (k:=100) ?_
   rw [r21b]
   obtain ⟨hk',hr,hd'⟩:=AAw9 hd
   refine Zbf (by simp<;>omega) (Zbf (by simp) ⟨digR p,by simp [AAe9,hr],_,rfl,by rw [AAn9];exact hL p (Zbh hr),Zbf (by simp [AAs9]<;>omega) ?_⟩)
   rw [AFv9,AAu9 hk' (by omega)]
   refine BXh9 s b0 b1 b2 J X L hl hL rest (k+1) (acc++ [p]) hd' hk' (by simp<;>omega) ?_
   rw [Zcg];exact h
def wl21I {β:Type}:WLT β:=fun c tm hp b K=>match cidO c with
 |11=>c= .loop AUj9∧AQv9 hp [62] tm fun tm1=>∃(s:SprT) (pf:List (List Dv)) (L z:List (List Int)),ABb9 [2,6,8,9,62,63,64] 0 tm1=AYp9 pf (AAc9 L) (AAc9 L).length 0∧(frz hp (occ (tm.getD 62 .bad)))[3]? =some (outB s nilV nilV)∧
     ((L.length≤1000000∧∀p∈L,p.length≤1000000)∧z=L)∧∀i:Int,K (.exit 1) (AYp9 pf (AAc9 z) (AAc9 z).length i) ((frz hp (occ (tm.getD 62 .bad))).set 3 (outB s (.own 33 1 (AAc9 z)) nilV)) b
 |16=>c= .loop ALx9∧AQv9 hp [82] tm fun tm1=>∃(s:SprT) (X:List (List Dv)) (L z:List (List Int)),ABb9 [6,8,9,82,83,84] 0 tm1=AYo9 (AAe9 L) (AAe9 L).length 0∧(frz hp (occ (tm.getD 82 .bad)))[3]? =some (outB s (.own 33 1 X) nilV)∧
     ((L.length≤1000000∧∀p∈L,p.length≤1000000)∧z=L)∧∀i:Int,K (.exit 3) (AYo9 (AAe9 z) (AAe9 z).length i) ((frz hp (occ (tm.getD 82 .bad))).set 3 (outB s (.own 33 1 X) (.own 28 1 (AAe9 z)))) b
 |_=>False
theorem BQp9 {Ev:Env prog} (c:Code) (tm:List AV) (hp:List Blk) (b:Ev.β) (K:Exit→List AV→List Blk→Ev.β→Prop) (h:wl21I c tm hp b K):W Ev c ⟨tm,hp,b⟩ (fun e s=>K e s.tm s.hp s.b):=by
 unfold wl21I at h
 split at h
 · obtain ⟨rfl,h⟩:=h
   refine W.sealed h ?_
   rintro tm1 ⟨s,pf,L,z,htm,h3,⟨⟨hl,hL⟩,rfl⟩,hK⟩
   obtain ⟨b0,b1,b2,J,e⟩:=four h3
   rw [e] at hK ⊢
   rw [AAd9] at htm hK
   refine W.cast (htm▸AAg9 _ tm1 0) (hp':= [b0,b1,b2,outB s (.own 33 1 (AAc9 [])) nilV]++J) (LeH.at [b0,b1,b2] J (LeL.at [_,_,_,_] _ (LeA.nilOwn rfl))) ?_
   exact W.rounds (BXi9 (Q:=fun e s=>K e s.tm s.hp s.b) s b0 b1 b2 J pf z hl hL z 0 [] rfl (Zdb _) (Zdb _) hK)
 · obtain ⟨rfl,h⟩:=h
   refine W.sealed h ?_
   rintro tm1 ⟨s,X,L,z,htm,h3,⟨⟨hl,hL⟩,rfl⟩,hK⟩
   obtain ⟨b0,b1,b2,J,e⟩:=four h3
   rw [e] at hK ⊢
   rw [AAs9] at htm hK
   refine W.cast (htm▸AAg9 _ tm1 0) (hp':= [b0,b1,b2,outB s (.own 33 1 X) (.own 28 1 (AAe9 []))]++J) (LeH.at [b0,b1,b2] J (LeL.at [_,_,_,_,_] _ (LeA.nilOwn rfl))) ?_
   exact W.rounds (BXh9 (Q:=fun e s=>K e s.tm s.hp s.b) s b0 b1 b2 J X z hl hL z 0 [] rfl (Zdb _) (Zdb _) hK)
 · exact h.elim
def TPt:List (Nat×(List AV→(AV→Prop)→Prop)):= [(125,BHb9),(88,BVm9),(126,BGs9)]
theorem CLg9:AAf9 prog TPt:=Zaf AKt9 (Zaf AXq9 (Zaf ATc9 Zah))
def SPt:List (Nat×(List AV→List Blk→(AV→List Blk→Prop)→Prop)):= [(127,BRv9 1),(128,BRv9 1)]
theorem CLu9:AAk9 prog SPt:=Zci BJz9.toS (Zci BJy9.toS Zac)
abbrev Qz3:List AV:= [Zae (i64 0),Zae (i64 0),Zae (u64 0),Zae (i64 0),Zae (Zfa (.slice none 0 0)),Zae (Zfa (.slice none 0 0)),Zae (Zfa (.slice none 0 0)),Zae (Zfa (.slice none 0 0)),Zae (i64 0),Zae (i64 0),Zae (i64 0),Zae (i64 0),Zae (i64 0)]
abbrev Qz6 (v0:SprT):=Blk.mk [Zae (i64 (NotT.v (SprT.no v0))),Zae (i64 (NotT.n (SprT.no v0))),Zae (u64 (NotT.r (SprT.no v0))),Zae (i64 (NotT.t (SprT.no v0))),Zae (Zfa (.slice none 0 0)),Zae (Zfa (.slice none 0 0)),Zae (Zfa (.slice none 0 0)),Zae (Zfa (.slice none 0 0)),Zae (i64 (SprT.i1 v0)),Zae (i64 (SprT.i2 v0)),Zae (i64 (SprT.i3 v0)),Zae (i64 (SprT.i4 v0)),Zae (i64 (SprT.i5 v0))] false false 0
abbrev Qz9 (v0:SprT) (v1:List (List Int)):=Blk.mk [Zae (i64 (NotT.v (SprT.no v0))),Zae (i64 (NotT.n (SprT.no v0))),Zae (u64 (NotT.r (SprT.no v0))),Zae (i64 (NotT.t (SprT.no v0))),AV.own 33 1 (AAc9 v1),Zae (Zfa (.slice none 0 0)),Zae (Zfa (.slice none 0 0)),Zae (Zfa (.slice none 0 0)),Zae (i64 (SprT.i1 v0)),Zae (i64 (SprT.i2 v0)),Zae (i64 (SprT.i3 v0)),Zae (i64 (SprT.i4 v0)),Zae (i64 (SprT.i5 v0))] false false 0
abbrev Qz10 (v0:SprT) (v1:List (List Dv)) (v2:List (List Int)):List AV:= [Zbc [Zae (i64 (NotT.v (SprT.no v0))),Zae (i64 (NotT.n (SprT.no v0))),Zae (u64 (NotT.r (SprT.no v0))),Zae (i64 (NotT.t (SprT.no v0))),Zae (Zai 1 v1),Zae (Zai 1 (AAe9 v2)),Zae (Zfa (.slice none 0 0)),Zae (Zfa (.slice none 0 0)),Zae (i64 (SprT.i1 v0)),Zae (i64 (SprT.i2 v0)),Zae (i64 (SprT.i3 v0)),Zae (i64 (SprT.i4 v0)),Zae (i64 (SprT.i5 v0))],Zae (i64 0)]
abbrev Qz13 (v0:List (List Int)):List AV:=bds 6 (Zbe 1 0::Zaq::Zbe 2 0::Zbe 3 0::bds 72 (Zae (Zai 1 (AAe9 v0))::Zae (i64 ((Zab (AAe9 v0):Nat):Int))::Zae (i64 0)::bds 12 []))
abbrev Qz27 (v0:List (List Dv)) (v1:List (List Int)):=Zaq::Zaq::Zae (Zai 1 v0)::bds 3 (Zbe 1 0::Zaq::Zbe 2 0::Zbe 3 0::bds 52 (Zae (Zai 1 (AAc9 v1))::Zae (i64 ((Zab (AAc9 v1):Nat):Int))::Zae (i64 0)::bds 32 []))
abbrev Qz35 (v0:List (List Dv)):List AV:=bds 6 (Zbe 1 0::Zaq::Zbe 2 0::Zbe 3 0::bds 72 (Zae (Zai 1 [[Zai 1 v0]])::Zae (i64 1)::Zae (i64 0)::bds 12 []))
abbrev Qz36 (v0:List (List Dv)) (v1:List (List Dv)):List AV:=bds 6 (Zbe 1 0::Zaq::Zbe 2 0::Zbe 3 0::bds 72 (Zae (Zai 1 v0)::Zae (i64 ((Zab v1+1:Nat):Int))::Zae (i64 0)::bds 12 []))
theorem CGa9 (s:SprT) (p q:List (List Dv)):wpFn prog ⟨TPt,SPt,wl21I,y,false⟩ 100 f53 [spV s, .d (.sl 1 p), .d (.sl 1 q)] b R=(∃(s0:SprT) (z1:Bool), [Zbc (Qz1 s)]= [Zbc (Qz1 s0)]∧(Zab (SprT.ps s0)≤9223372036854775807∧z1=ABt9 s0)∧BIf (!z1) (R (.tup [Zbc Qz3,Zae (i64 1)]) b) (BIf (((Zab p:Nat):Int) !=(256:Int)) (R (.tup [Zbc Qz3,Zae (i64 1)]) b) (∃(n2:Int) (z3:Int), [Zae (i64 (NotT.n (SprT.no s)))]= [Zae (i64 n2)]∧z3=ABj9 n2∧BIf (((Zab (AAc9 (SprT.ps s)):Nat):Int)==z3) (R (.tup [Zbc Qz3,Zae (i64 10)]) b) (∃(s4:SprT) (i5:Int) (p6:List Int) (q7:List Int) (z8:Bool), [Zbc (Qz1 s),Zae (i64 ((Zab (AAc9 (SprT.ps s)):Nat):Int)),Zae (Zai 1 p),Zae (Zai 1 q)]= [Zbc (Qz1 s4),Zae (i64 i5),Zae (Zai 1 (AAa9 p6)),Zae (Zai 1 (digR q7))]∧z8=ABl9 s4 i5 p6 q7∧BIf (!z8) (R (.tup [Zbc Qz3,Zae (i64 12)]) b) (∃(xs9:List (List Dv)), [Zae (Zai 1 (AAc9 (SprT.ps s)))]= [Zae (Zai 1 xs9)]∧Zab xs9≤1000000∧BIf (Zed xs9) (Zax AUj9=Zax AUj9∧∃(s10:SprT) (pf11:List (List Dv)) (L12:List (List Int)) (z13:List (List Int)),(Zaq::Zaq::Zae (Zai 1 q)::bds 3 (Zbe 1 0::Zaq::Zbe 2 0::Zbe 3 0::bds 52 (Zae (Zai 1 [[Zai 1 p]])::Zae (i64 1)::Zae (i64 0)::bds 32 [])))=(Qz27 pf11 L12)∧some (Qz6 s)=some (Qz6 s10)∧((Zab L12≤1000000∧∀(p:List Int),p∈L12→Zab p≤1000000)∧z13=L12)∧∀(i:Int),∃(xs14:List (List Dv)), [Zae (Zai 1 (AAe9 (SprT.qs s)))]= [Zae (Zai 1 xs14)]∧Zab xs14≤1000000∧BIf (Zed xs14) (Zax ALx9=Zax ALx9∧∃(s15:SprT) (X16:List (List Dv)) (L17:List (List Int)) (z18:List (List Int)),(Qz35 pf11)=(Qz13 L17)∧some (Qz9 s10 z13)=some (Blk.mk (Qz8 s15 X16) false false 0)∧((Zab L17≤1000000∧∀(p:List Int),p∈L17→Zab p≤1000000)∧z18=L17)∧∀(i:Int),R (.tup (Qz10 s15 X16 z18)) b) (0=0∧BIf (decide ((Zab xs14+1)*24≤140737488355328)) (1=1∧Zax ALx9=Zax ALx9∧1=1∧∃(xs19:List (List Dv)),flatA xs14++ [Zae (Zai 1 pf11)]=flatA xs19∧Zab xs19=Zab xs14+1∧(∀(r:List Dv),r∈xs19→Zab r=1)∧∃(s20:SprT) (X21:List (List Dv)) (L22:List (List Int)) (z23:List (List Int)),(Qz36 xs19 xs14)=(Qz13 L22)∧some (Qz9 s10 z13)=some (Blk.mk (Qz8 s20 X21) false false 0)∧((Zab L22≤1000000∧∀(p:List Int),p∈L22→Zab p≤1000000)∧z23=L22)∧∀(i:Int),R (.tup (Qz10 s20 X21 z23)) b) False)) (0=0∧BIf (decide ((Zab xs9+1)*24≤140737488355328)) (1=1∧Zax AUj9=Zax AUj9∧1=1∧∃(xs24:List (List Dv)),flatA xs9++ [Zae (Zai 1 p)]=flatA xs24∧Zab xs24=Zab xs9+1∧(∀(r:List Dv),r∈xs24→Zab r=1)∧∃(s25:SprT) (pf26:List (List Dv)) (L27:List (List Int)) (z28:List (List Int)),(Zaq::Zaq::Zae (Zai 1 q)::bds 3 (Zbe 1 0::Zaq::Zbe 2 0::Zbe 3 0::bds 52 (Zae (Zai 1 xs24)::Zae (i64 ((Zab xs9+1:Nat):Int))::Zae (i64 0)::bds 32 [])))=(Qz27 pf26 L27)∧some (Qz6 s)=some (Qz6 s25)∧((Zab L27≤1000000∧∀(p:List Int),p∈L27→Zab p≤1000000)∧z28=L27)∧∀(i:Int),∃(xs29:List (List Dv)), [Zae (Zai 1 (AAe9 (SprT.qs s)))]= [Zae (Zai 1 xs29)]∧Zab xs29≤1000000∧BIf (Zed xs29) (Zax ALx9=Zax ALx9∧∃(s30:SprT) (X31:List (List Dv)) (L32:List (List Int)) (z33:List (List Int)),(Qz35 pf26)=(Qz13 L32)∧some (Qz9 s25 z28)=some (Blk.mk (Qz8 s30 X31) false false 0)∧((Zab L32≤1000000∧∀(p:List Int),p∈L32→Zab p≤1000000)∧z33=L32)∧∀(i:Int),R (.tup (Qz10 s30 X31 z33)) b) (0=0∧BIf (decide ((Zab xs29+1)*24≤140737488355328)) (1=1∧Zax ALx9=Zax ALx9∧1=1∧∃(xs34:List (List Dv)),flatA xs29++ [Zae (Zai 1 pf26)]=flatA xs34∧Zab xs34=Zab xs29+1∧(∀(r:List Dv),r∈xs34→Zab r=1)∧∃(s35:SprT) (X36:List (List Dv)) (L37:List (List Int)) (z38:List (List Int)),(Qz36 xs34 xs29)=(Qz13 L37)∧some (Qz9 s25 z28)=some (Blk.mk (Qz8 s35 X36) false false 0)∧((Zab L37≤1000000∧∀(p:List Int),p∈L37→Zab p≤1000000)∧z38=L37)∧∀(i:Int),R (.tup (Qz10 s35 X36 z38)) b) False)) False)))))):=by kernel_rfl
def BAh9:SprT:=⟨⟨0,0,0,0⟩, [], [], [], [],0,0,0,0,0⟩
def putS (s:SprT) (p q:List Int):SprT×Int:=
 if ABt9 s=false∨p.length≠256 then (BAh9,1) else if (s.ps.length:Int)=ABj9 s.no.n then (BAh9,10) else if ABl9 s s.ps.length p q=false then (BAh9,12)
 else (⟨s.no,s.ps++ [p],s.qs++ [q], [], [],s.i1,s.i2,s.i3,s.i4,s.i5⟩,0)
theorem AUm9 (ps:List (List Int)) (p:List Int):flatA (AAc9 ps)++ [Zae (.sl 1 (AAa9 p))]=flatA (AAc9 (ps++ [p])):=by
 rw [←AGn9,AWy9];rfl
theorem ARz9 (ps:List (List Int)) (p:List Int):flatA (AAe9 ps)++ [Zae (.sl 1 (digR p))]=flatA (AAe9 (ps++ [p])):=by
 rw [←AFv9,AWy9];rfl
theorem BKa9 {ps:List (List Int)}:∀r∈AAc9 ps,r.length=1:=by
 intro r hr;simp only [AAc9,Zbo] at hr;obtain ⟨_,_,rfl⟩:=hr;rfl
theorem BCz9 {ps:List (List Int)}:∀r∈AAe9 ps,r.length=1:=by
 intro r hr;simp only [AAe9,Zbo] at hr;obtain ⟨_,_,rfl⟩:=hr;rfl
theorem AHa9 {s:SprT} (h:ABt9 s=true):s.ps.length≤4096∧s.qs.length=s.ps.length∧(∀p∈s.ps,p.length=256)∧ACl9 s.no.n=true∧AAi9 s.no.v s.no.n s.no.t=true:=by
 simp only [ABt9,Zan] at h
 obtain ⟨h1,h2,h3,h4,h5⟩:=h
 have h6:ACl9 s.no.n=true:=by simp only [AAi9,Zan] at h1;exact h1.2.2.1
 obtain ⟨k,hk,hk1,hk2⟩:=AFe9 h6
 rw [hk,AGi9 (by omega)] at h2
 refine ⟨by simp at h2;omega,by simp at h3;omega,fun p hp=> ?_,h6,h1⟩
 have h4:AAx9 s.ps=false:=by simpa using h4
 rw [AAx9,List.any_eq_false] at h4
 have:=h4 p hp
 simp at this;omega
theorem pcPut (s:SprT) (p q:List Int) (hl:s.ps.length≤9223372036854775807) (hq:q.length≤1000000) (hqs:∀x∈s.qs,x.length≤1000000):
   PCall prog 53 [spV s, .d (.sl 1 (AAa9 p)), .d (.sl 1 (digR q))] (.tup [spV (putS s p q).1, .d (i64 (putS s p q).2)]):=by
 refine Zck (n:=100) (u:=false) (fun _=>wl21I) mixed CLg9 CLu9 (fun Ev=>BQp9) func53 (by rfl) (by rfl) fun Ev bb=> ?_
 rw [CGa9]
 have bad:∀e:Int,putS s p q=(BAh9,e)→LeV (AV.tup [Zbc [Zae (i64 (0:Int)),Zae (i64 (0:Int)),Zae (u64 (0:Int)),Zae (i64 (0:Int)),Zae (Zfa (Zbp none 0 0)),Zae (Zfa (Zbp none 0 0)),Zae (Zfa (Zbp none 0 0)),Zae (Zfa (Zbp none 0 0)),Zae (i64 (0:Int)),Zae (i64 (0:Int)),Zae (i64 (0:Int)),Zae (i64 (0:Int)),Zae (i64 (0:Int))],Zae (i64 e)])
     (.tup [spV (putS s p q).1, .d (i64 (putS s p q).2)]):=by
   intro e he
   rw [he]
   exact LeV.tups (.cons (LeV.aggs (.cons .rfl (.cons .rfl (.cons .rfl (.cons .rfl (.cons (.nil rfl) (.cons (.nil rfl) (.cons (.nil rfl) (.cons (.nil rfl) (Zen _)))))))))) (.cons .rfl .nil))
 have good:∀ps' qs',putS s p q=(⟨s.no,ps',qs', [], [],s.i1,s.i2,s.i3,s.i4,s.i5⟩,0)→LeV (AV.tup [Zbc [.d (i64 s.no.v), .d (i64 s.no.n), .d (u64 s.no.r), .d (i64 s.no.t), .d (.sl 1 (AAc9 ps')), .d (.sl 1 (AAe9 qs')),Zae (Zfa (Zbp none 0 0)),Zae (Zfa (Zbp none 0 0)), .d (i64 s.i1), .d (i64 s.i2), .d (i64 s.i3), .d (i64 s.i4), .d (i64 s.i5)],Zae (i64 0)])
     (.tup [spV (putS s p q).1, .d (i64 (putS s p q).2)]):=by
   intro ps' qs' he
   rw [he]
   exact LeV.tups (.cons (LeV.aggs (.cons .rfl (.cons .rfl (.cons .rfl (.cons .rfl (.cons .rfl (.cons .rfl (.cons (.nil rfl) (.cons (.nil rfl) (Zen _)))))))))) (.cons .rfl .nil))
 refine ⟨s,_,rfl,⟨hl,rfl⟩,Zaj (fun g=>bad 1 (by rw [putS,if_pos (.inl (by simpa using g))])) fun g1=>Zaj (fun g=>bad 1 (by rw [putS,if_pos (.inr (by rw [AAh9] at g;simp at g;omega))])) fun g2=>⟨_,_,rfl,rfl,Zaj (fun g=>bad 10 ?_) fun g3=>⟨s,_,p,q,_,rfl,rfl,Zaj (fun g=>bad 12 ?_) fun g4=> ?_⟩⟩⟩
 all_goals
   have h1:ABt9 s=true:=by simpa using g1
   have h2:p.length=256:=by rw [AAh9] at g2;simp at g2;omega
   have hn:¬(ABt9 s=false∨p.length≠256):=by rw [h1,h2];simp
 · rw [AAd9] at g
   rw [putS,if_neg hn,if_pos (by simpa using g)]
 · rw [AAd9] at g3 g
   rw [putS,if_neg hn,if_neg (by simpa using g3),if_pos (by simpa using g)]
 rw [AAd9] at g3
 obtain ⟨f1,f2,f3,f4,f5⟩:=AHa9 h1
 have h4:ABl9 s s.ps.length p q=true:=by rw [AAd9] at g4;simpa using g4
 have hput:putS s p q=(⟨s.no,s.ps++ [p],s.qs++ [q], [], [],s.i1,s.i2,s.i3,s.i4,s.i5⟩,0):=by
   rw [putS,if_neg hn,if_neg (by simpa using g3),if_neg (by rw [h4];simp)]
 have eP:(AAc9 (s.ps++ [p])).length=(AAc9 s.ps).length+1:=by simp [AAd9]
 have eQ:(AAe9 (s.qs++ [q])).length=(AAe9 s.qs).length+1:=by simp [AAs9]
 have bP:(s.ps++ [p]).length≤1000000∧∀x∈s.ps++ [p],x.length≤1000000:=by
   refine ⟨by simp;omega,fun x hx=> ?_⟩
   rcases Zcl.1 hx with hx|hx
   · rw [f3 x hx];decide
   · simp at hx;subst hx;omega
 have bQ:(s.qs++ [q]).length≤1000000∧∀x∈s.qs++ [q],x.length≤1000000:=by
   refine ⟨by simp;omega,fun x hx=> ?_⟩
   rcases Zcl.1 hx with hx|hx
   · exact hqs x hx
   · simp at hx;subst hx;exact hq
 refine ⟨AAc9 s.ps,rfl,by rw [AAd9];omega,Zaj (fun h=> ?_) fun h=> ?_⟩
 · have e1:s.ps= []:=by
     have:(AAc9 s.ps).length=0:=by rw [List.isEmpty_iff] at h;rw [h];rfl
     rw [AAd9] at this;exact Zeg.1 this
   have e2:s.qs= []:=Zeg.1 (by rw [f2,e1];rfl)
   rw [e1] at hput bP
   rw [e2] at hput bQ
   refine ⟨rfl,s,digR q, [p],_,rfl,rfl,⟨bP,rfl⟩,fun _=>⟨AAe9 s.qs,rfl,by rw [AAs9,f2];omega,Zbf (by rw [e2];rfl) ⟨rfl,s,AAc9 [p], [q],_,rfl,rfl,⟨bQ,rfl⟩,fun _=>good [p] [q] hput⟩⟩⟩
 · have e1:(AAe9 s.qs).isEmpty=false:=by
     cases hq2:s.qs with
     | nil=>
       have:s.ps= []:=Zeg.1 (by rw [←f2,hq2];rfl)
       rw [this] at h;cases h
     |cons a l=>rfl
   refine ⟨rfl,Zbf (by rw [decide_eq_true_eq,AAd9];omega) ⟨rfl,rfl,rfl,AAc9 (s.ps++ [p]),AUm9 _ _,eP,BKa9,s,digR q,s.ps++ [p],_,congrArg (fun z:Nat=>AYp9 (digR q) (AAc9 (s.ps++ [p])) (z:Int) 0) eP.symm,rfl,⟨bP,rfl⟩,fun _=>⟨AAe9 s.qs,rfl,by rw [AAs9,f2];omega,Zct e1 ⟨rfl,Zbf (by rw [decide_eq_true_eq,AAs9];omega) ⟨rfl,rfl,rfl,AAe9 (s.qs++ [q]),ARz9 _ _,eQ,BCz9,s,AAc9 (s.ps++ [p]),s.qs++ [q],_,congrArg (fun z:Nat=>AYo9 (AAe9 (s.qs++ [q])) (z:Int) 0) eQ.symm,rfl,⟨bQ,rfl⟩,fun _=>good _ _ hput⟩⟩⟩⟩⟩
def cPut (args:List AV) (K:AV→Prop):Prop:=∃(s:SprT) (p q:List Int) (z:SprT) (e:Int),args= [spV s, .d (.sl 1 (AAa9 p)), .d (.sl 1 (digR q))]∧((s.ps.length≤9223372036854775807∧q.length≤1000000∧∀x∈s.qs,x.length≤1000000)∧(z,e)=putS s p q)∧K (.tup [spV z, .d (i64 e)])
theorem CDt9:∀args K,cPut args K→∃x,PCall prog 53 args x∧K x:=by
 rintro _ K ⟨s,p,q,z,e,rfl,⟨⟨h1,h2,h3⟩,he⟩,h⟩
 have:=pcPut s p q h1 h2 h3
 rw [←he] at this
 exact ⟨_,this,h⟩
def TWh:List (Nat×(List AV→(AV→Prop)→Prop)):= [(88,BVm9),(89,cJoin)]
theorem CKs9:AAf9 prog TWh:=Zaf AXq9 (Zaf BVz9 Zah)
theorem BQt9 (s:SprT):wpFn prog ⟨TWh, [],wl,y,false⟩ 100 f30 [spV s] b R=(∃(s0:SprT) (z1:Bool), [Zbc (Qz1 s)]= [Zbc (Qz1 s0)]∧(Zab (SprT.ps s0)≤9223372036854775807∧z1=ABt9 s0)∧BIf (!z1) (R (.tup Qz40) b) (∃(ps2:List (List Int)) (n3:Int) (z4:List Int) (e5:Int), [Zae (Zai 1 (AAc9 (SprT.ps s))),Zae (i64 (NotT.n (SprT.no s)))]= [Zae (Zai 1 (AAc9 ps2)),Zae (i64 n3)]∧(Zab ps2≤9223372036854775807∧(z4,e5)=joinS ps2 n3)∧R (.tup [Zae (Zai 1 (AAa9 z4)),Zae (bo (e5==(0:Int)))]) b)):=by kernel_rfl
def AOp9 (s:SprT):List Int×Bool:=if ABt9 s then ((joinS s.ps s.no.n).1,(joinS s.ps s.no.n).2==0) else ([],false)
theorem CAg9 (s:SprT) (hl:s.ps.length≤9223372036854775807):PCall prog 30 [spV s] (.tup [.d (.sl 1 (AAa9 (AOp9 s).1)), .d (bo (AOp9 s).2)]):=by
 refine Zck (n:=100) (u:=false) (fun _=>wlNo _) mixed CKs9 Zac (fun Ev=>AEr9 Ev) func30 (by rfl) (by rfl) fun Ev bb=> ?_
 rw [BQt9]
 refine ⟨s,_,rfl,⟨hl,rfl⟩,Zaj (fun g=> ?_) fun g=>⟨s.ps,s.no.n,_,_,rfl,⟨hl,rfl⟩, ?_⟩⟩
 · rw [AOp9,if_neg (by rw [show ABt9 s=false by simpa using g];simp)]
   exact LeV.tups (.cons (.nil rfl) (.cons .rfl .nil))
 · rw [AOp9,if_pos (show ABt9 s=true by simpa using g)]
   exact .rfl
def CJx9 (args:List AV) (K:AV→Prop):Prop:=∃(s:SprT) (z:List Int) (e:Bool),args= [spV s]∧(s.ps.length≤9223372036854775807∧(z,e)=AOp9 s)∧K (.tup [.d (.sl 1 (AAa9 z)), .d (bo e)])
theorem BLu9:∀args K,CJx9 args K→∃x,PCall prog 30 args x∧K x:=by
 rintro _ K ⟨s,z,e,rfl,⟨hl,he⟩,h⟩
 have:=CAg9 s hl
 rw [←he] at this
 exact ⟨_,this,h⟩
noncomputable def lp20:Code:=sub [1,1,0,1,2,3] (code f31)
noncomputable def lp28:Code:=sub [1,1,0,1,2,3] (code f69)
noncomputable def lp19I:Code:=sub [1,1,0,1,2,3] (code f24)
noncomputable def lp52:Code:=sub [1,1,0,1,2,3] (code f68)
def tmCmp (n:Nat) (z a c:List (List Dv)) (i:Int):List AV:= [.d (.sl 1 a), .d (.sl 1 c), .bad, .bad, .bad, .d (i64 i)]++Zag n .bad
abbrev Qz33 (v0:List (List Dv)) (v1:List (List Dv)) (v2:Int):=Zae (Zai 1 v0)::Zae (Zai 1 v1)::Zaq::Zaq::Zae (bo false)::Zae (i64 v2)::bds 20 []
theorem r20 (a c:List (List Dv)) (i:Int):wpc prog ⟨[], [],wl,y,false⟩ 100 lp20 (tmCmp 20 [] a c i) [] b (maskT [0,1,4,5] K)=(BIf (decide (i<((Zab a:Nat):Int))) (BIf (true&&decide (0≤i)) (∃(x0:Int),a[Zam i]? =some [u8 x0]∧BIf (true&&decide (0≤i)) (∃(x3:Int),c[Zam i]? =some [u8 x3]∧BIf (x0 !=x3) (K .ret (Qz33 a c i) [] b) (K .normal (Zae (Zai 1 a)::Zae (Zai 1 c)::bds 3 (Zae (i64 (Zaa .i64 (i+1)))::bds 20 [])) [] b)) False) False) (K (Zcy 0) (Zae (Zai 1 a)::Zae (Zai 1 c)::bds 3 (Zae (i64 i)::bds 20 [])) [] b)):=by kernel_rfl
theorem r28 (a c:List (List Dv)) (i:Int):wpc prog ⟨[], [],wl,y,false⟩ 100 lp28 (tmCmp 20 [] a c i) [] b (maskT [0,1,4,5] K)=(BIf (decide (i<((Zab a:Nat):Int))) (BIf (true&&decide (0≤i)) (∃(x0:Int),a[Zam i]? =some [u64 x0]∧BIf (true&&decide (0≤i)) (∃(x3:Int),c[Zam i]? =some [u64 x3]∧BIf (x0 !=x3) (K .ret (Qz33 a c i) [] b) (K .normal (Zae (Zai 1 a)::Zae (Zai 1 c)::bds 3 (Zae (i64 (Zaa .i64 (i+1)))::bds 20 [])) [] b)) False) False) (K (Zcy 0) (Zae (Zai 1 a)::Zae (Zai 1 c)::bds 3 (Zae (i64 i)::bds 20 [])) [] b)):=by kernel_rfl
theorem AHv9 {p:List (List Int)} {k:Nat} (h:k<p.length):(AAc9 p)[k]? =some [.sl 1 (AAa9 (nthL p k))]:=by simp [AAc9,nthL,h]
theorem AHc9 {p:List (List Int)} {k:Nat} (h:k<p.length):(AAe9 p)[k]? =some [.sl 1 (digR (nthL p k))]:=by simp [AAe9,nthL,h]
theorem ACo9 {α:Type} {p:List (List α)} {k:Nat} (h:k<p.length):nthL p k∈p:=by
 rw [nthL,List.getD_eq_getElem?_getD,Zbk h];exact List.getElem_mem h
theorem wr20 {Ev:Env prog} {b:Ev.β} {Q:Exit→St Ev.β→Prop} (a c:List Int) (hl:a.length=c.length) (hb:a.length≤9223372036854775807) (h1:a=c→∀i:Int,Q (.exit 0) ⟨tmCmp 20 [] (AAa9 a) (AAa9 c) i, [],b⟩) (h2:a≠c→∀i:Int,Q .ret ⟨(tmCmp 20 [] (AAa9 a) (AAa9 c) i).set 4 (.d (bo false)), [],b⟩):
   WR Ev lp20 (a.length+1) ⟨tmCmp 20 [] (AAa9 a) (AAa9 c) (0:Nat), [],b⟩ Q:=by
 refine WR.scan (X:=⟨[], [],wlW Ev,Ev.Y,false⟩) (k:=100) [0,1,4,5] mixed (CX.Ok.of Zah Zac) a.length (fun i=>nth a i !=nth c i) (fun i=>tmCmp 20 [] (AAa9 a) (AAa9 c) (i:Nat)) (fun i=>(tmCmp 20 [] (AAa9 a) (AAa9 c) (i:Nat)).set 4 (.d (bo false))) [] 0 (fun i hi K k1 k2=> ?_) (fun K k1=> ?_) (fun h=>h1 ?_ _) fun h i=>h2 ?_ _
 · rw [r20,AAh9]
   refine Zbf (by simp<;>omega) (Zbf (by simp) ⟨nth a i,by rw [Zas];exact BHi9 hi,Zbf (by simp) ⟨nth c i,by rw [Zas];exact BHi9 (by omega),Zaj (fun g=>k1 g) fun g=> ?_⟩⟩)
   rw [AAu9 hi hb];exact k2 g
 · rw [r20,AAh9]
   exact Zct (by simp) k1
 · rw [ANb9 hl] at h;simpa using h
 · rw [ANb9 hl] at h;simpa using h
def wl20I {β:Type}:WLT β:=fun t tm hp b K=>∃(a c:List Int) (z:Bool),t= .loop lp20∧ABb9 [0,1,5] 0 tm=tmCmp 20 [] (AAa9 a) (AAa9 c) 0∧hp= []∧((a.length=c.length∧a.length≤9223372036854775807)∧z=decide (a=c))∧
 BIf z (∀i:Int,K (.exit 0) (tmCmp 20 [] (AAa9 a) (AAa9 c) i) [] b) (∀i:Int,K .ret ((tmCmp 20 [] (AAa9 a) (AAa9 c) i).set 4 (.d (bo false))) [] b)
theorem BQq9 {Ev:Env prog} (c:Code) (tm:List AV) (hp:List Blk) (b:Ev.β) (K:Exit→List AV→List Blk→Ev.β→Prop) (h:wl20I c tm hp b K):W Ev c ⟨tm,hp,b⟩ (fun e s=>K e s.tm s.hp s.b):=by
 obtain ⟨a,d,z,rfl,htm,rfl,⟨⟨hl,hb⟩,hz⟩,hK⟩:=h
 refine W.cast (htm▸AAg9 _ tm 0) (Zbt _) ?_
 exact W.rounds (wr20 (Q:=fun e s=>K e s.tm s.hp s.b) a d hl hb (fun h=>by rw [hz,decide_eq_true h] at hK;exact hK) fun h=>by rw [hz,decide_eq_false h] at hK;exact hK)
abbrev Qz44 (v0:List (List Dv)) (v1:List (List Dv)):=Zae (Zai 1 v0)::Zae (Zai 1 v1)::bds 3 (Zae (i64 0)::bds 20 [])
theorem CCw9 (a c:List (List Dv)):wpFn prog ⟨[], [],wl20I,y,false⟩ 100 f31 [.d (.sl 1 a), .d (.sl 1 c)] b R=(BIf (((Zab a:Nat):Int) !=((Zab c:Nat):Int)) (R (.d (bo false)) b) (∃(a0:List Int) (c1:List Int) (z2:Bool),Zax lp20=Zax lp20∧(Qz44 a c)=(Zae (Zai 1 (AAa9 a0))::Zae (Zai 1 (AAa9 c1))::bds 3 (Zae (i64 0)::bds 20 []))∧([]:List Blk)= []∧((Zab a0=Zab c1∧Zab a0≤9223372036854775807)∧z2=decide (a0=c1))∧BIf z2 (∀(i:Int),R (.d (bo true)) b) (∀(i:Int),R (.d (bo false)) b))):=by kernel_rfl
theorem CBm9 (a c:List Int) (ha:a.length≤9223372036854775807):PCall prog 31 [.d (.sl 1 (AAa9 a)), .d (.sl 1 (AAa9 c))] (.d (bo (decide (a=c)))):=by
 refine Zcd (n:=100) (u:=false) (fun _=>wl20I) mixed Zah Zac (fun Ev=>BQq9) func31 (by rfl) (by rfl) fun Ev bb=> ?_
 rw [CCw9,AAh9,AAh9]
 refine Zaj (fun g=> ?_) fun g=>⟨a,c,_,rfl,rfl,rfl,⟨⟨by simp at g;omega,ha⟩,rfl⟩,Zaj (fun h i=>by rw [h]) fun h i=>by rw [h]⟩
 rw [decide_eq_false fun h=>by rw [h] at g;simp at g]
def BHg9 (args:List AV) (K:AV→Prop):Prop:=∃(a c:List Int) (z:Bool),args= [.d (.sl 1 (AAa9 a)), .d (.sl 1 (AAa9 c))]∧(a.length≤9223372036854775807∧z=decide (a=c))∧K (.d (bo z))
theorem AKu9:∀args K,BHg9 args K→∃x,PCall prog 31 args x∧K x:=by
 rintro _ K ⟨a,c,_,rfl,⟨hl,rfl⟩,h⟩;exact ⟨_,CBm9 a c hl,h⟩
theorem wr28 {Ev:Env prog} {b:Ev.β} {Q:Exit→St Ev.β→Prop} (a c:List Int) (hl:a.length=c.length) (hb:a.length≤9223372036854775807) (h1:a=c→∀i:Int,Q (.exit 0) ⟨tmCmp 20 [] (digR a) (digR c) i, [],b⟩) (h2:a≠c→∀i:Int,Q .ret ⟨(tmCmp 20 [] (digR a) (digR c) i).set 4 (.d (bo false)), [],b⟩):
   WR Ev lp28 (a.length+1) ⟨tmCmp 20 [] (digR a) (digR c) (0:Nat), [],b⟩ Q:=by
 refine WR.scan (X:=⟨[], [],wlW Ev,Ev.Y,false⟩) (k:=100) [0,1,4,5] mixed (CX.Ok.of Zah Zac) a.length (fun i=>nth a i !=nth c i) (fun i=>tmCmp 20 [] (digR a) (digR c) (i:Nat)) (fun i=>(tmCmp 20 [] (digR a) (digR c) (i:Nat)).set 4 (.d (bo false))) [] 0 (fun i hi K k1 k2=> ?_) (fun K k1=> ?_) (fun h=>h1 ?_ _) fun h i=>h2 ?_ _
 · rw [r28,AAn9]
   refine Zbf (by simp<;>omega) (Zbf (by simp) ⟨nth a i,by rw [Zas];exact AHo9 hi,Zbf (by simp) ⟨nth c i,by rw [Zas];exact AHo9 (by omega),Zaj (fun g=>k1 g) fun g=> ?_⟩⟩)
   rw [AAu9 hi hb];exact k2 g
 · rw [r28,AAn9]
   exact Zct (by simp) k1
 · rw [ANb9 hl] at h;simpa using h
 · rw [ANb9 hl] at h;simpa using h
def wl28 {β:Type}:WLT β:=fun t tm hp b K=>∃(a c:List Int) (z:Bool),t= .loop lp28∧ABb9 [0,1,5] 0 tm=tmCmp 20 [] (digR a) (digR c) 0∧hp= []∧((a.length=c.length∧a.length≤9223372036854775807)∧z=decide (a=c))∧
 BIf z (∀i:Int,K (.exit 0) (tmCmp 20 [] (digR a) (digR c) i) [] b) (∀i:Int,K .ret ((tmCmp 20 [] (digR a) (digR c) i).set 4 (.d (bo false))) [] b)
theorem BYs9 {Ev:Env prog} (c:Code) (tm:List AV) (hp:List Blk) (b:Ev.β) (K:Exit→List AV→List Blk→Ev.β→Prop) (h:wl28 c tm hp b K):W Ev c ⟨tm,hp,b⟩ (fun e s=>K e s.tm s.hp s.b):=by
 obtain ⟨a,d,z,rfl,htm,rfl,⟨⟨hl,hb⟩,hz⟩,hK⟩:=h
 refine W.cast (htm▸AAg9 _ tm 0) (Zbt _) ?_
 exact W.rounds (wr28 (Q:=fun e s=>K e s.tm s.hp s.b) a d hl hb (fun h=>by rw [hz,decide_eq_true h] at hK;exact hK) fun h=>by rw [hz,decide_eq_false h] at hK;exact hK)
theorem CCt9 (a c:List (List Dv)):wpFn prog ⟨[], [],wl28,y,false⟩ 100 f69 [.d (.sl 1 a), .d (.sl 1 c)] b R=(BIf (((Zab a:Nat):Int) !=((Zab c:Nat):Int)) (R (.d (bo false)) b) (∃(a0:List Int) (c1:List Int) (z2:Bool),Zax lp28=Zax lp28∧(Qz44 a c)=(Zae (Zai 1 (digR a0))::Zae (Zai 1 (digR c1))::bds 3 (Zae (i64 0)::bds 20 []))∧([]:List Blk)= []∧((Zab a0=Zab c1∧Zab a0≤9223372036854775807)∧z2=decide (a0=c1))∧BIf z2 (∀(i:Int),R (.d (bo true)) b) (∀(i:Int),R (.d (bo false)) b))):=by kernel_rfl
theorem CAj9 (a c:List Int) (ha:a.length≤9223372036854775807):PCall prog 69 [.d (.sl 1 (digR a)), .d (.sl 1 (digR c))] (.d (bo (decide (a=c)))):=by
 refine Zcd (n:=100) (u:=false) (fun _=>wl28) mixed Zah Zac (fun Ev=>BYs9) func69 (by rfl) (by rfl) fun Ev bb=> ?_
 rw [CCt9,AAn9,AAn9]
 refine Zaj (fun g=> ?_) fun g=>⟨a,c,_,rfl,rfl,rfl,⟨⟨by simp at g;omega,ha⟩,rfl⟩,Zaj (fun h i=>by rw [h]) fun h i=>by rw [h]⟩
 rw [decide_eq_false fun h=>by rw [h] at g;simp at g]
def BVj9 (args:List AV) (K:AV→Prop):Prop:=∃(a c:List Int) (z:Bool),args= [.d (.sl 1 (digR a)), .d (.sl 1 (digR c))]∧(a.length≤9223372036854775807∧z=decide (a=c))∧K (.d (bo z))
theorem AXo9:∀args K,BVj9 args K→∃x,PCall prog 69 args x∧K x:=by
 rintro _ K ⟨a,c,_,rfl,⟨hl,rfl⟩,h⟩;exact ⟨_,CAj9 a c hl,h⟩
def T19:List (Nat×(List AV→(AV→Prop)→Prop)):= [(31,BHg9)]
theorem CFk9:AAf9 prog T19:=Zaf AKu9 Zah
abbrev Qz30 (v0:List Int) (v1:List Int):List AV:= [Zae (Zai 1 (AAa9 v0)),Zae (Zai 1 (AAa9 v1))]
theorem r19 (a c:List (List Dv)) (i:Int):wpc prog ⟨T19, [],wl,y,false⟩ 100 lp19I (tmCmp 21 [] a c i) [] b (maskT [0,1,4,5] K)=(BIf (decide (i<((Zab a:Nat):Int))) (BIf (true&&decide (0≤i)) (∃(xs0:List (List Dv)),a[Zam i]? =some [Zai 1 xs0]∧BIf (true&&decide (0≤i)) (∃(xs3:List (List Dv)),c[Zam i]? =some [Zai 1 xs3]∧∃(a6:List Int) (c7:List Int) (z8:Bool), [Zae (Zai 1 xs0),Zae (Zai 1 xs3)]=(Qz30 a6 c7)∧(Zab a6≤9223372036854775807∧z8=decide (a6=c7))∧BIf (!z8) (K .ret (Zae (Zai 1 a)::Zae (Zai 1 c)::Zaq::Zaq::Zae (bo false)::Zae (i64 i)::bds 21 []) [] b) (K .normal (Zae (Zai 1 a)::Zae (Zai 1 c)::bds 3 (Zae (i64 (Zaa .i64 (i+1)))::bds 21 [])) [] b)) False) False) (K (Zcy 0) (Zae (Zai 1 a)::Zae (Zai 1 c)::bds 3 (Zae (i64 i)::bds 21 [])) [] b)):=by kernel_rfl
theorem wr19I {Ev:Env prog} {b:Ev.β} {Q:Exit→St Ev.β→Prop} (a c:List (List Int)) (hl:a.length=c.length) (hb:a.length≤9223372036854775807) (he:∀p∈a,p.length≤9223372036854775807) (h1:a=c→∀i:Int,Q (.exit 0) ⟨tmCmp 21 [] (AAc9 a) (AAc9 c) i, [],b⟩) (h2:a≠c→∀i:Int,Q .ret ⟨(tmCmp 21 [] (AAc9 a) (AAc9 c) i).set 4 (.d (bo false)), [],b⟩):
   WR Ev lp19I (a.length+1) ⟨tmCmp 21 [] (AAc9 a) (AAc9 c) (0:Nat), [],b⟩ Q:=by
 refine WR.scan (X:=⟨T19, [],wlW Ev,Ev.Y,false⟩) (k:=100) [0,1,4,5] mixed (CX.Ok.of CFk9 Zac) a.length (fun i=> !decide (nthL a i=nthL c i)) (fun i=>tmCmp 21 [] (AAc9 a) (AAc9 c) (i:Nat)) (fun i=>(tmCmp 21 [] (AAc9 a) (AAc9 c) (i:Nat)).set 4 (.d (bo false))) [] 0 (fun i hi K k1 k2=> ?_) (fun K k1=> ?_) (fun h=>h1 ?_ _) fun h i=>h2 ?_ _
 · rw [r19,AAd9]
   refine Zbf (by simp<;>omega) (Zbf (by simp) ⟨_,by rw [Zas];exact AHv9 hi,Zbf (by simp) ⟨_,by rw [Zas];exact AHv9 (show i<c.length by omega),nthL a i,nthL c i,_,rfl,⟨he _ (ACo9 hi),rfl⟩,Zaj (fun g=>k1 g) fun g=> ?_⟩⟩)
   rw [AAu9 hi hb];exact k2 g
 · rw [r19,AAd9]
   exact Zct (by simp) k1
 · rw [AYc9 hl] at h;simpa using h
 · rw [AYc9 hl] at h;simpa using h
def wl19I {β:Type}:WLT β:=fun t tm hp b K=>∃(a c:List (List Int)) (z:Bool),t= .loop lp19I∧ABb9 [0,1,5] 0 tm=tmCmp 21 [] (AAc9 a) (AAc9 c) 0∧hp= []∧((a.length=c.length∧a.length≤9223372036854775807∧∀p∈a,p.length≤9223372036854775807)∧z=decide (a=c))∧
 BIf z (∀i:Int,K (.exit 0) (tmCmp 21 [] (AAc9 a) (AAc9 c) i) [] b) (∀i:Int,K .ret ((tmCmp 21 [] (AAc9 a) (AAc9 c) i).set 4 (.d (bo false))) [] b)
theorem BQr9 {Ev:Env prog} (c:Code) (tm:List AV) (hp:List Blk) (b:Ev.β) (K:Exit→List AV→List Blk→Ev.β→Prop) (h:wl19I c tm hp b K):W Ev c ⟨tm,hp,b⟩ (fun e s=>K e s.tm s.hp s.b):=by
 obtain ⟨a,d,z,rfl,htm,rfl,⟨⟨hl,hb,he⟩,hz⟩,hK⟩:=h
 refine W.cast (htm▸AAg9 _ tm 0) (Zbt _) ?_
 exact W.rounds (wr19I (Q:=fun e s=>K e s.tm s.hp s.b) a d hl hb he (fun h=>by rw [hz,decide_eq_true h] at hK;exact hK) fun h=>by rw [hz,decide_eq_false h] at hK;exact hK)
theorem CCx9 (a c:List (List Dv)):wpFn prog ⟨T19, [],wl19I,y,false⟩ 100 f24 [.d (.sl 1 a), .d (.sl 1 c)] b R=(BIf (((Zab a:Nat):Int) !=((Zab c:Nat):Int)) (R (.d (bo false)) b) (∃(a0:List (List Int)) (c1:List (List Int)) (z2:Bool),Zax lp19I=Zax lp19I∧(Zae (Zai 1 a)::Zae (Zai 1 c)::bds 3 (Zae (i64 0)::bds 21 []))=(Zae (Zai 1 (AAc9 a0))::Zae (Zai 1 (AAc9 c1))::bds 3 (Zae (i64 0)::bds 21 []))∧([]:List Blk)= []∧((Zab a0=Zab c1∧Zab a0≤9223372036854775807∧∀(p:List Int),p∈a0→Zab p≤9223372036854775807)∧z2=decide (a0=c1))∧BIf z2 (∀(i:Int),R (.d (bo true)) b) (∀(i:Int),R (.d (bo false)) b))):=by kernel_rfl
theorem CBd9 (a c:List (List Int)) (ha:a.length≤9223372036854775807) (he:∀p∈a,p.length≤9223372036854775807):PCall prog 24 [.d (.sl 1 (AAc9 a)), .d (.sl 1 (AAc9 c))] (.d (bo (decide (a=c)))):=by
 refine Zcd (n:=100) (u:=false) (fun _=>wl19I) mixed CFk9 Zac (fun Ev=>BQr9) func24 (by rfl) (by rfl) fun Ev bb=> ?_
 rw [CCx9,AAd9,AAd9]
 refine Zaj (fun g=> ?_) fun g=>⟨a,c,_,rfl,rfl,rfl,⟨⟨by simp at g;omega,ha,he⟩,rfl⟩,Zaj (fun h i=>by rw [h]) fun h i=>by rw [h]⟩
 rw [decide_eq_false fun h=>by rw [h] at g;simp at g]
def CDx9 (args:List AV) (K:AV→Prop):Prop:=∃(a c:List (List Int)) (z:Bool),args= [.d (.sl 1 (AAc9 a)), .d (.sl 1 (AAc9 c))]∧((a.length≤9223372036854775807∧∀p∈a,p.length≤9223372036854775807)∧z=decide (a=c))∧K (.d (bo z))
theorem BMm9:∀args K,CDx9 args K→∃x,PCall prog 24 args x∧K x:=by
 rintro _ K ⟨a,c,_,rfl,⟨⟨hl,he⟩,rfl⟩,h⟩;exact ⟨_,CBd9 a c hl he,h⟩
def T52:List (Nat×(List AV→(AV→Prop)→Prop)):= [(69,BVj9)]
theorem CFi9:AAf9 prog T52:=Zaf AXo9 Zah
abbrev Qz45 (v0:List Int) (v1:List Int):List AV:= [Zae (Zai 1 (digR v0)),Zae (Zai 1 (digR v1))]
theorem r52 (a c:List (List Dv)) (i:Int):wpc prog ⟨T52, [],wl,y,false⟩ 100 lp52 (tmCmp 21 [] a c i) [] b (maskT [0,1,4,5] K)=(BIf (decide (i<((Zab a:Nat):Int))) (BIf (true&&decide (0≤i)) (∃(xs0:List (List Dv)),a[Zam i]? =some [Zai 1 xs0]∧BIf (true&&decide (0≤i)) (∃(xs3:List (List Dv)),c[Zam i]? =some [Zai 1 xs3]∧∃(a6:List Int) (c7:List Int) (z8:Bool), [Zae (Zai 1 xs0),Zae (Zai 1 xs3)]=(Qz45 a6 c7)∧(Zab a6≤9223372036854775807∧z8=decide (a6=c7))∧BIf (!z8) (K .ret (Zae (Zai 1 a)::Zae (Zai 1 c)::Zaq::Zaq::Zae (bo false)::Zae (i64 i)::bds 21 []) [] b) (K .normal (Zae (Zai 1 a)::Zae (Zai 1 c)::bds 3 (Zae (i64 (Zaa .i64 (i+1)))::bds 21 [])) [] b)) False) False) (K (Zcy 0) (Zae (Zai 1 a)::Zae (Zai 1 c)::bds 3 (Zae (i64 i)::bds 21 [])) [] b)):=by kernel_rfl
theorem wr52 {Ev:Env prog} {b:Ev.β} {Q:Exit→St Ev.β→Prop} (a c:List (List Int)) (hl:a.length=c.length) (hb:a.length≤9223372036854775807) (he:∀p∈a,p.length≤9223372036854775807) (h1:a=c→∀i:Int,Q (.exit 0) ⟨tmCmp 21 [] (AAe9 a) (AAe9 c) i, [],b⟩) (h2:a≠c→∀i:Int,Q .ret ⟨(tmCmp 21 [] (AAe9 a) (AAe9 c) i).set 4 (.d (bo false)), [],b⟩):
   WR Ev lp52 (a.length+1) ⟨tmCmp 21 [] (AAe9 a) (AAe9 c) (0:Nat), [],b⟩ Q:=by
 refine WR.scan (X:=⟨T52, [],wlW Ev,Ev.Y,false⟩) (k:=100) [0,1,4,5] mixed (CX.Ok.of CFi9 Zac) a.length (fun i=> !decide (nthL a i=nthL c i)) (fun i=>tmCmp 21 [] (AAe9 a) (AAe9 c) (i:Nat)) (fun i=>(tmCmp 21 [] (AAe9 a) (AAe9 c) (i:Nat)).set 4 (.d (bo false))) [] 0 (fun i hi K k1 k2=> ?_) (fun K k1=> ?_) (fun h=>h1 ?_ _) fun h i=>h2 ?_ _
 · rw [r52,AAs9]
   refine Zbf (by simp<;>omega) (Zbf (by simp) ⟨_,by rw [Zas];exact AHc9 hi,Zbf (by simp) ⟨_,by rw [Zas];exact AHc9 (show i<c.length by omega),nthL a i,nthL c i,_,rfl,⟨he _ (ACo9 hi),rfl⟩,Zaj (fun g=>k1 g) fun g=> ?_⟩⟩)
   rw [AAu9 hi hb];exact k2 g
 · rw [r52,AAs9]
   exact Zct (by simp) k1
 · rw [AYc9 hl] at h;simpa using h
 · rw [AYc9 hl] at h;simpa using h
def wl52 {β:Type}:WLT β:=fun t tm hp b K=>∃(a c:List (List Int)) (z:Bool),t= .loop lp52∧ABb9 [0,1,5] 0 tm=tmCmp 21 [] (AAe9 a) (AAe9 c) 0∧hp= []∧((a.length=c.length∧a.length≤9223372036854775807∧∀p∈a,p.length≤9223372036854775807)∧z=decide (a=c))∧
 BIf z (∀i:Int,K (.exit 0) (tmCmp 21 [] (AAe9 a) (AAe9 c) i) [] b) (∀i:Int,K .ret ((tmCmp 21 [] (AAe9 a) (AAe9 c) i).set 4 (.d (bo false))) [] b)
theorem BYi9 {Ev:Env prog} (c:Code) (tm:List AV) (hp:List Blk) (b:Ev.β) (K:Exit→List AV→List Blk→Ev.β→Prop) (h:wl52 c tm hp b K):W Ev c ⟨tm,hp,b⟩ (fun e s=>K e s.tm s.hp s.b):=by
 obtain ⟨a,d,z,rfl,htm,rfl,⟨⟨hl,hb,he⟩,hz⟩,hK⟩:=h
 refine W.cast (htm▸AAg9 _ tm 0) (Zbt _) ?_
 exact W.rounds (wr52 (Q:=fun e s=>K e s.tm s.hp s.b) a d hl hb he (fun h=>by rw [hz,decide_eq_true h] at hK;exact hK) fun h=>by rw [hz,decide_eq_false h] at hK;exact hK)
theorem CJa9 (a c:List (List Dv)):wpFn prog ⟨T52, [],wl52,y,false⟩ 100 f68 [.d (.sl 1 a), .d (.sl 1 c)] b R=(BIf (((Zab a:Nat):Int) !=((Zab c:Nat):Int)) (R (.d (bo false)) b) (∃(a0:List (List Int)) (c1:List (List Int)) (z2:Bool),Zax lp52=Zax lp52∧(Zae (Zai 1 a)::Zae (Zai 1 c)::bds 3 (Zae (i64 0)::bds 21 []))=(Zae (Zai 1 (AAe9 a0))::Zae (Zai 1 (AAe9 c1))::bds 3 (Zae (i64 0)::bds 21 []))∧([]:List Blk)= []∧((Zab a0=Zab c1∧Zab a0≤9223372036854775807∧∀(p:List Int),p∈a0→Zab p≤9223372036854775807)∧z2=decide (a0=c1))∧BIf z2 (∀(i:Int),R (.d (bo true)) b) (∀(i:Int),R (.d (bo false)) b))):=by kernel_rfl
theorem BJs9 (a c:List (List Int)) (ha:a.length≤9223372036854775807) (he:∀p∈a,p.length≤9223372036854775807):PCall prog 68 [.d (.sl 1 (AAe9 a)), .d (.sl 1 (AAe9 c))] (.d (bo (decide (a=c)))):=by
 refine Zcd (n:=100) (u:=false) (fun _=>wl52) mixed CFi9 Zac (fun Ev=>BYi9) func68 (by rfl) (by rfl) fun Ev bb=> ?_
 rw [CJa9,AAs9,AAs9]
 refine Zaj (fun g=> ?_) fun g=>⟨a,c,_,rfl,rfl,rfl,⟨⟨by simp at g;omega,ha,he⟩,rfl⟩,Zaj (fun h i=>by rw [h]) fun h i=>by rw [h]⟩
 rw [decide_eq_false fun h=>by rw [h] at g;simp at g]
def BGl9 (args:List AV) (K:AV→Prop):Prop:=∃(a c:List (List Int)) (z:Bool),args= [.d (.sl 1 (AAe9 a)), .d (.sl 1 (AAe9 c))]∧((a.length≤9223372036854775807∧∀p∈a,p.length≤9223372036854775807)∧z=decide (a=c))∧K (.d (bo z))
theorem AZw9:∀args K,BGl9 args K→∃x,PCall prog 68 args x∧K x:=by
 rintro _ K ⟨a,c,_,rfl,⟨⟨hl,he⟩,rfl⟩,h⟩;exact ⟨_,BJs9 a c hl he,h⟩
def wlTm {β:Type}:WLT β:=fun c tm hp b K=>∃(w k:Nat) (z:Nat),c= .loop lpTm∧ABb9 [0,1,5] 0 tm=tmTm w k 0∧hp= []∧((w<1000000∧k<1000000)∧z=lenW w w k)∧∀w' k':Int,K (.exit 0) (tmTm w' k' z) [] b
theorem BXl9 {Ev:Env prog} (c:Code) (tm:List AV) (hp:List Blk) (b:Ev.β) (K:Exit→List AV→List Blk→Ev.β→Prop) (h:wlTm c tm hp b K):W Ev c ⟨tm,hp,b⟩ (fun e s=>K e s.tm s.hp s.b):=by
 obtain ⟨w,k,z,rfl,htm,rfl,⟨⟨hw,hk⟩,rfl⟩,hK⟩:=h
 refine W.cast (htm▸AAg9 _ tm 0) (Zbt _) ?_
 exact W.rounds (wrTm (Q:=fun e s=>K e s.tm s.hp s.b) w w k 0 (by omega) hw hk (by omega) (by simpa using hK))
noncomputable def lp51:Code:=sub [1,1,1,1,0,2,3] (code f131)
def tm51 (r w k:Int) (q:List (List Dv)) (acc u:Int):List AV:= [.d (u64 r), .d (i64 w), .d (i64 k), .bad, .d (.sl 1 q), .bad, .bad, .bad, .bad, .bad, .bad, .d (u64 acc), .d (i64 u)]++Zag 70 .bad
def T51:List (Nat×(List AV→(AV→Prop)→Prop)):= [(184,BFv9),(185,CDp9)]
theorem CFj9:AAf9 prog T51:=Zaf ASr9 (Zaf BMf9 Zah)
theorem BKi9 (w k:Nat):wpFn prog ⟨TTm, [],wlTm,y,false⟩ 100 f182 [.d (i64 w), .d (i64 k)] b R=(∃(w0:Nat) (k1:Nat) (z2:Nat),Zax lpTm=Zax lpTm∧(Zae (i64 (w:Int))::Zae (i64 (k:Int))::bds 3 (Zae (i64 0)::bds 14 []))=(Zae (i64 (w0:Int))::Zae (i64 (k1:Int))::bds 3 (Zae (i64 0)::bds 14 []))∧([]:List Blk)= []∧((w0<1000000∧k1<1000000)∧z2=lenW w0 w0 k1)∧∀(w' k':Int),R (.d (i64 (z2:Int))) b):=by kernel_rfl
abbrev Qz26 (v0:Int) (v1:Int):=Zae (u64 v0)::Zae (i64 v1)::bds 70 []
theorem r51 (r w k:Int) (q:List (List Dv)) (acc u:Int):wpc prog ⟨T51, [],wl,y,false⟩ 100 lp51 (tm51 r w k q acc u) [] b (maskT [0,1,2,4,11,12] K)=(BIf (decide (w>(1:Int))) (∃(k0:Nat) (w1:Nat) (z2:Int), [Zae (i64 k),Zae (i64 w)]= [Zae (i64 (k0:Int)),Zae (i64 (w1:Int))]∧(k0<1000000∧z2=AKc9 k0 w1)∧BIf (decide (z2>k)) (BIf (true&&decide (0≤u)) (∃(x3:Int),q[Zam u]? =some [u64 x3]∧∃(a6:Int) (c7:Int) (z8:Int), [Zae (u64 acc),Zae (u64 x3)]= [Zae (u64 a6),Zae (u64 c7)]∧z8=pairS a6 c7∧BIf (decide (z2≥(0:Int))) (BIf (decide (z2<k)) (BIf (true&&decide (0≤u)) (∃(x9:Int),q[Zam u]? =some [u64 x9]∧∃(a12:Int) (c13:Int) (z14:Int), [Zae (u64 x9),Zae (u64 z8)]= [Zae (u64 a12),Zae (u64 c13)]∧z14=pairS a12 c13∧BIf (decide (z2≥(0:Int))) (K .normal (Zae (u64 r)::Zae (i64 (Zaa .i64 (Zbq (Zaa .i64 (w+1)) (2:Int))))::Zae (i64 (Zaa .i64 (Zbq k (2:Int))))::Zaq::Zae (Zai 1 q)::bds 6 (Zae (u64 z14)::Zae (i64 (Zaa .i64 (u+1)))::bds 70 [])) [] b) (K .normal (Zae (u64 r)::Zae (i64 (Zaa .i64 (Zbq (Zaa .i64 (w+1)) (2:Int))))::Zae (i64 (Zaa .i64 (Zbq k (2:Int))))::Zaq::Zae (Zai 1 q)::bds 6 (Qz26 z14 u)) [] b)) False) (BIf (decide (z2≥(0:Int))) (K .normal (Zae (u64 r)::Zae (i64 (Zaa .i64 (Zbq (Zaa .i64 (w+1)) (2:Int))))::Zae (i64 (Zaa .i64 (Zbq k (2:Int))))::Zaq::Zae (Zai 1 q)::bds 6 (Zae (u64 z8)::Zae (i64 (Zaa .i64 (u+1)))::bds 70 [])) [] b) (K .normal (Zae (u64 r)::Zae (i64 (Zaa .i64 (Zbq (Zaa .i64 (w+1)) (2:Int))))::Zae (i64 (Zaa .i64 (Zbq k (2:Int))))::Zaq::Zae (Zai 1 q)::bds 6 (Qz26 z8 u)) [] b))) (BIf (decide (z2≥(0:Int))) (K .normal (Zae (u64 r)::Zae (i64 (Zaa .i64 (Zbq (Zaa .i64 (w+1)) (2:Int))))::Zae (i64 (Zaa .i64 (Zbq k (2:Int))))::Zaq::Zae (Zai 1 q)::bds 6 (Zae (u64 z8)::Zae (i64 (Zaa .i64 (u+1)))::bds 70 [])) [] b) (K .normal (Zae (u64 r)::Zae (i64 (Zaa .i64 (Zbq (Zaa .i64 (w+1)) (2:Int))))::Zae (i64 (Zaa .i64 (Zbq k (2:Int))))::Zaq::Zae (Zai 1 q)::bds 6 (Qz26 z8 u)) [] b))) False) (BIf (decide (z2≥(0:Int))) (BIf (decide (z2<k)) (BIf (true&&decide (0≤u)) (∃(x15:Int),q[Zam u]? =some [u64 x15]∧∃(a18:Int) (c19:Int) (z20:Int), [Zae (u64 x15),Zae (u64 acc)]= [Zae (u64 a18),Zae (u64 c19)]∧z20=pairS a18 c19∧BIf (decide (z2≥(0:Int))) (K .normal (Zae (u64 r)::Zae (i64 (Zaa .i64 (Zbq (Zaa .i64 (w+1)) (2:Int))))::Zae (i64 (Zaa .i64 (Zbq k (2:Int))))::Zaq::Zae (Zai 1 q)::bds 6 (Zae (u64 z20)::Zae (i64 (Zaa .i64 (u+1)))::bds 70 [])) [] b) (K .normal (Zae (u64 r)::Zae (i64 (Zaa .i64 (Zbq (Zaa .i64 (w+1)) (2:Int))))::Zae (i64 (Zaa .i64 (Zbq k (2:Int))))::Zaq::Zae (Zai 1 q)::bds 6 (Qz26 z20 u)) [] b)) False) (BIf (decide (z2≥(0:Int))) (K .normal (Zae (u64 r)::Zae (i64 (Zaa .i64 (Zbq (Zaa .i64 (w+1)) (2:Int))))::Zae (i64 (Zaa .i64 (Zbq k (2:Int))))::Zaq::Zae (Zai 1 q)::bds 6 (Zae (u64 acc)::Zae (i64 (Zaa .i64 (u+1)))::bds 70 [])) [] b) (K .normal (Zae (u64 r)::Zae (i64 (Zaa .i64 (Zbq (Zaa .i64 (w+1)) (2:Int))))::Zae (i64 (Zaa .i64 (Zbq k (2:Int))))::Zaq::Zae (Zai 1 q)::bds 6 (Qz26 acc u)) [] b))) (BIf (decide (z2≥(0:Int))) (K .normal (Zae (u64 r)::Zae (i64 (Zaa .i64 (Zbq (Zaa .i64 (w+1)) (2:Int))))::Zae (i64 (Zaa .i64 (Zbq k (2:Int))))::Zaq::Zae (Zai 1 q)::bds 6 (Zae (u64 acc)::Zae (i64 (Zaa .i64 (u+1)))::bds 70 [])) [] b) (K .normal (Zae (u64 r)::Zae (i64 (Zaa .i64 (Zbq (Zaa .i64 (w+1)) (2:Int))))::Zae (i64 (Zaa .i64 (Zbq k (2:Int))))::Zaq::Zae (Zai 1 q)::bds 6 (Qz26 acc u)) [] b)))) (K (Zcy 0) (Zae (u64 r)::Zae (i64 w)::Zae (i64 k)::Zaq::Zae (Zai 1 q)::bds 6 (Qz26 acc u)) [] b)):=by kernel_rfl
theorem BTi9 (w k:Nat) (hw:w<1000000) (hk:k<1000000):PCall prog 182 [.d (i64 w), .d (i64 k)] (.d (i64 (lenW w w k))):=by
 refine Zcd (n:=100) (u:=false) (fun _=>wlTm) mixed BWv9 Zac (fun Ev=>BXl9) func182 (by rfl) (by rfl) fun Ev bb=> ?_
 rw [BKi9]
 exact ⟨w,k,_,rfl,rfl,rfl,⟨⟨hw,hk⟩,rfl⟩,fun _ _=>rfl⟩
def BPn9 (args:List AV) (K:AV→Prop):Prop:=∃(w k z:Nat),args= [.d (i64 w), .d (i64 k)]∧((w<1000000∧k<1000000)∧z=lenW w w k)∧K (.d (i64 z))
theorem BGw9:∀args K,BPn9 args K→∃x,PCall prog 182 args x∧K x:=by
 rintro _ K ⟨w,k,_,rfl,⟨⟨h1,h2⟩,rfl⟩,h⟩;exact ⟨_,BTi9 w k h1 h2,h⟩
theorem CIe9 {w:Nat} (h:w<1000000):Zaa Zap (Zbq (Zaa Zap ((w:Int)+1)) 2)=(((w+1) / 2:Nat):Int):=by
 rw [AAl9 (x:=(w:Int)+1) (by omega) (by omega),show Zbq ((w:Int)+1) 2=(((w+1) / 2:Nat):Int) from rfl,AAl9 (by omega) (by omega)]
theorem CIf9 {k:Nat} (h:k<1000000):Zaa Zap (Zbq (k:Int) 2)=((k / 2:Nat):Int):=by
 rw [show Zbq (k:Int) 2=((k / 2:Nat):Int) from rfl,AAl9 (by omega) (by omega)]
theorem wr51 {Ev:Env prog} {b:Ev.β} {Q:Exit→St Ev.β→Prop} (r:Int) (q:List Int) (hq:q.length≤1000000):∀(n w k u:Nat) (acc:Int) (rest:List Int),q.drop u=rest→rest.length=lenW n w k→w≤n+1→w<1000000→k<1000000→
   (∀(w' k' u':Int) (z:Int),AEa9 (walkP n w k) rest acc=some ([],z)→Q (.exit 0) ⟨tm51 r w' k' (digR q) z u', [],b⟩)→WR Ev lp51 (n+1) ⟨tm51 r w k (digR q) acc u, [],b⟩ Q
 | 0,w,k,u,acc,rest,hd,hlen,hn,hw,hk,h=>by
   refine Zbw [0,1,2,4,11,12] mixed (CX.Ok.of (u:=false) CFj9 Zac) (k:=100) ?_
   rw [r51]
   have hr:rest= []:=Zeg.1 (by rw [hlen];rfl)
   exact Zct (by simp<;>omega) (h _ _ _ _ (by rw [hr];rfl))
 | n+1,w,k,u,acc,rest,hd,hlen,hn,hw,hk,h=>by
   refine Zbw [0,1,2,4,11,12] mixed (CX.Ok.of (u:=false) CFj9 Zac) (k:=100) ?_
   rw [r51]
   by_cases h1:1<w
   · rw [lenW,if_pos h1] at hlen
     rw [walkP,if_pos h1] at h
     refine Zbf (by simp<;>omega) ⟨k,w,_,rfl,⟨hk,rfl⟩, ?_⟩
     rw [CIe9 hw,CIf9 hk]
     by_cases h2:sibN k<w
     · rw [if_pos h2] at hlen
       rw [decide_eq_true h2] at h
       have ho:AKc9 k w=(sibN k:Int):=by rw [AKc9,if_neg (by omega)]
       obtain ⟨x,rest',rfl⟩:∃x rest',rest=x::rest':=by
         cases rest with
         |nil=>simp at hlen;omega
         |cons x l=>exact ⟨x,l,rfl⟩
       obtain ⟨hu,hx,hd'⟩:=AAw9 hd
       have hx':(digR q)[Zam (u:Int)]? =some [u64 x]:=by rw [Zas];simp [digR,hx]
       have hlen':rest'.length=lenW n ((w+1) / 2) (k / 2):=by simp at hlen;omega
       have hw2:∀z,Zaa Zap ((u:Int)+1)=z↔((u+1:Nat):Int)=z:=fun z=>by rw [AAl9 (by omega) (by omega)];simp
       have hwu:Zaa Zap ((u:Int)+1)=((u+1:Nat):Int):=by rw [AAl9 (by omega) (by omega)];simp
       rw [ho,hwu]
       by_cases hodd:k % 2=1
       · have hs:sibN k=k - 1:=by rw [sibN,if_neg (by omega)]
         have hb:(k % 2==1)=true:=by simp [hodd]
         rw [hb] at h
         refine Zct (by simp<;>omega) (Zbf (by simp) (Zbf (by simp<;>omega) (Zbf (by simp) ⟨x,hx',x,acc,_,rfl,rfl,Zbf (by simp) ?_⟩)))
         refine wr51 r q hq n ((w+1) / 2) (k / 2) (u+1) (pairS x acc) rest' hd' hlen' (by omega) (by omega) (by omega) fun w' k' u' z hz=>h w' k' u' z ?_
         rw [APq9];exact hz
       · have hs:sibN k=k+1:=by rw [sibN,if_pos (by omega)]
         have hb:(k % 2==1)=false:=by simp;omega
         rw [hb] at h
         refine Zbf (by simp<;>omega) (Zbf (by simp) ⟨x,hx',acc,x,_,rfl,rfl,Zbf (by simp) (Zct (by simp<;>omega) (Zbf (by simp) ?_))⟩)
         refine wr51 r q hq n ((w+1) / 2) (k / 2) (u+1) (pairS acc x) rest' hd' hlen' (by omega) (by omega) (by omega) fun w' k' u' z hz=>h w' k' u' z ?_
         rw [APr9];exact hz
     · rw [if_neg h2,Nat.zero_add] at hlen
       rw [decide_eq_false h2] at h
       have ho:AKc9 k w= -1:=by rw [AKc9,if_pos (by omega)]
       rw [ho]
       refine Zct (by simp<;>omega) (Zct (by simp) (Zct (by simp) ?_))
       refine wr51 r q hq n ((w+1) / 2) (k / 2) u acc rest hd hlen (by omega) (by omega) (by omega) fun w' k' u' z hz=>h w' k' u' z ?_
       rw [APs9];exact hz
   · rw [lenW,if_neg h1] at hlen
     rw [walkP,if_neg h1] at h
     have hr:rest= []:=Zeg.1 hlen
     exact Zct (by simp<;>omega) (h _ _ _ _ (by rw [hr];rfl))
theorem AFx9:∀(n w k:Nat) (q:List Int) (s:Int),(q.length<lenW n w k→AEa9 (walkP n w k) q s=none)∧(lenW n w k≤q.length→∃z,AEa9 (walkP n w k) q s=some (q.drop (lenW n w k),z))
 |0,w,k,q,s=>⟨fun h=>by simp [lenW] at h,fun _=>⟨s,rfl⟩⟩
 | n+1,w,k,q,s=>by
   by_cases h1:1<w
   · rw [lenW,if_pos h1,walkP,if_pos h1]
     by_cases h2:sibN k<w
     · rw [if_pos h2,decide_eq_true h2]
       cases q with
       |nil=>exact ⟨fun _=>ASm9 _ _ _,fun h=>by simp at h⟩
       | cons x q=>
         cases hb:k % 2==1 with
         | true=>
           rw [APq9]
           have:=AFx9 n ((w+1) / 2) (k / 2) q (pairS x s)
           refine ⟨fun h=>this.1 (by simp at h;omega),fun h=> ?_⟩
           obtain ⟨z,hz⟩:=this.2 (by simp at h;omega)
           exact ⟨z,by rw [hz,Zfe 1,List.drop_succ_cons]⟩
         | false=>
           rw [APr9]
           have:=AFx9 n ((w+1) / 2) (k / 2) q (pairS s x)
           refine ⟨fun h=>this.1 (by simp at h;omega),fun h=> ?_⟩
           obtain ⟨z,hz⟩:=this.2 (by simp at h;omega)
           exact ⟨z,by rw [hz,Zfe 1,List.drop_succ_cons]⟩
     · rw [if_neg h2,decide_eq_false h2,APs9,Nat.zero_add]
       exact AFx9 n ((w+1) / 2) (k / 2) q s
   · rw [lenW,if_neg h1,walkP,if_neg h1]
     exact ⟨fun h=>by simp at h,fun _=>⟨s,rfl⟩⟩
def wl51 {β:Type}:WLT β:=fun c tm hp b K=>∃(r acc:Int) (w k:Nat) (q:List Int) (z:Int),c= .loop lp51∧ABb9 [0,1,2,4,11,12] 0 tm=tm51 r w k (digR q) acc 0∧hp= []∧((w<1000000∧k<1000000∧q.length≤1000000)∧AEa9 (walkS w k) q acc=some ([],z))∧∀w' k' u':Int,K (.exit 0) (tm51 r w' k' (digR q) z u') [] b
theorem BYj9 {Ev:Env prog} (c:Code) (tm:List AV) (hp:List Blk) (b:Ev.β) (K:Exit→List AV→List Blk→Ev.β→Prop) (h:wl51 c tm hp b K):W Ev c ⟨tm,hp,b⟩ (fun e s=>K e s.tm s.hp s.b):=by
 obtain ⟨r,acc,w,k,q,z,rfl,htm,rfl,⟨⟨hw,hk,hq⟩,hz⟩,hK⟩:=h
 refine W.cast (htm▸AAg9 _ tm 0) (Zbt _) ?_
 refine W.rounds (wr51 (Q:=fun e s=>K e s.tm s.hp s.b) r q hq w w k 0 acc q rfl ?_ (by omega) hw hk fun w' k' u' z' hz'=> ?_)
 · have h2:=AFx9 w w k q acc
   rcases Nat.lt_or_ge q.length (lenW w w k) with h|h
   · rw [walkS,h2.1 h] at hz;cases hz
   · obtain ⟨z',hz'⟩:=h2.2 h
     rw [walkS,hz'] at hz
     simp only [Option.some.injEq,Prod.mk.injEq,List.drop_eq_nil_iff] at hz
     omega
 · rw [walkS,hz'] at hz
   simp only [Option.some.injEq,Prod.mk.injEq,true_and] at hz
   rw [hz];exact hK _ _ _
def TCk:List (Nat×(List AV→(AV→Prop)→Prop)):= [(182,BPn9),(183,CDf9)]
theorem CLo9:AAf9 prog TCk:=Zaf BGw9 (Zaf BLw9 Zah)
theorem BId9 (r n i:Int) (p q:List (List Dv)):wpFn prog ⟨TCk, [],wl51,y,false⟩ 100 f131 [.d (u64 r), .d (i64 n), .d (i64 i), .d (.sl 1 p), .d (.sl 1 q)] b R=(BIf (decide (n<(1:Int))) (R (.d (bo false)) b) (BIf (decide (n>(16:Int))) (R (.d (bo false)) b) (BIf (decide (i<(0:Int))) (R (.d (bo false)) b) (BIf (decide (i≥n)) (R (.d (bo false)) b) (BIf (decide (((Zab p:Nat):Int)>(256:Int))) (R (.d (bo false)) b) (∃(w0:Nat) (k1:Nat) (z2:Nat), [Zae (i64 n),Zae (i64 i)]= [Zae (i64 (w0:Int)),Zae (i64 (k1:Int))]∧((w0<1000000∧k1<1000000)∧z2=lenW w0 w0 k1)∧BIf (((Zab q:Nat):Int) !=(z2:Int)) (R (.d (bo false)) b) (∃(p3:List Int) (z4:Int), [Zae (Zai 1 p)]= [Zae (Zai 1 (AAa9 p3))]∧(Zab p3≤9223372036854775807∧z4=leafS p3)∧∃(r5:Int) (acc6:Int) (w7:Nat) (k8:Nat) (q9:List Int) (z10:Int),Zax lp51=Zax lp51∧(Zae (u64 r)::Zae (i64 n)::Zae (i64 i)::Zaq::Zae (Zai 1 q)::bds 6 (Zae (u64 z4)::Zae (i64 0)::bds 70 []))=(Zae (u64 r5)::Zae (i64 (w7:Int))::Zae (i64 (k8:Int))::Zaq::Zae (Zai 1 (digR q9))::bds 6 (Zae (u64 acc6)::Zae (i64 0)::bds 70 []))∧([]:List Blk)= []∧((w7<1000000∧k8<1000000∧Zab q9≤1000000)∧AEa9 (walkS w7 k8) q9 acc6=some ([],z10))∧∀(w' k' u':Int),R (.d (bo (z10==r5))) b))))))):=by kernel_rfl
theorem BJg9 (n:Int):wpFn prog ⟨[], [],wl,y,false⟩ 100 f75 [.d (i64 n)] b R=(R (Zae (i64 (Zaa Zap (Zbq (Zaa Zap (Zaa Zap (n+256) - (1:Int))) (256:Int))))) b):=by kernel_rfl
theorem BDz9:∀(n w k:Nat),lenW n w k≤n
 |0,w,k=>by simp [lenW]
 | n+1,w,k=>by
   have:=BDz9 n ((w+1) / 2) (k / 2)
   rw [lenW];split
   · split<;>omega
   · omega
theorem BSq9 (r n i:Int) (p q:List Int):PCall prog 131 [.d (u64 r), .d (i64 n), .d (i64 i), .d (.sl 1 (AAa9 p)), .d (.sl 1 (digR q))] (.d (bo (ACw9 r n i p q))):=by
 refine Zcd (n:=100) (u:=false) (fun _=>wl51) mixed CLo9 Zac (fun Ev=>BYj9) func131 (by rfl) (by rfl) fun Ev bb=> ?_
 rw [BId9,AAh9,AAn9]
 refine Zaj (fun g=>by rw [ACw9,g];rfl) fun g1=>Zaj (fun g=>by rw [ACw9,g1,g];rfl) fun g2=>Zaj (fun g=>by rw [ACw9,g1,g2,g];rfl) fun g3=>Zaj (fun g=>by rw [ACw9,g1,g2,g3,g];rfl) fun g4=>Zaj (fun g=>by rw [ACw9,g1,g2,g3,g4,g];rfl) fun g5=> ?_
 have n1:=of_decide_eq_false g1
 have n2:=of_decide_eq_false g2
 have n3:=of_decide_eq_false g3
 have n4:=of_decide_eq_false g4
 have n5:=of_decide_eq_false g5
 obtain ⟨w,rfl⟩:=Zcb (show 0≤n by omega)
 obtain ⟨k,rfl⟩:=Zcb (show 0≤i by omega)
 have hk:ACw9 r w k p q=topS r (AEa9 (walkS w k) q (leafS p)):=by rw [ACw9,g1,g2,g3,g4,g5,Zas,Zas];rfl
 have hlen:=BDz9 w w k
 have hF:=AFx9 w w k q (leafS p)
 refine ⟨w,k,_,rfl,⟨⟨by omega,by omega⟩,rfl⟩,Zaj (fun g=> ?_) fun g=> ?_⟩
 · rw [hk]
   have hne:q.length≠lenW w w k:=by simp at g;omega
   rcases Nat.lt_or_ge q.length (lenW w w k) with h|h
   · rw [walkS,hF.1 h];rfl
   · obtain ⟨z,hz⟩:=hF.2 h
     rw [walkS,hz]
     have:(q.drop (lenW w w k)).isEmpty=false:=by
       cases hd:q.drop (lenW w w k) with
       |nil=>have:=ABm9 hd;omega
       |cons=>rfl
     rw [topS,this];rfl
 · have he:q.length=lenW w w k:=by simp at g;omega
   obtain ⟨z,hz⟩:=hF.2 (by omega)
   rw [List.drop_eq_nil_of_le (by omega)] at hz
   refine ⟨p,_,rfl,⟨by omega,rfl⟩,r,leafS p,w,k,q,z,rfl,rfl,rfl,⟨⟨by omega,by omega,by omega⟩,hz⟩,fun _ _ _=> ?_⟩
   rw [hk,walkS,hz];rfl
def BFw9 (args:List AV) (K:AV→Prop):Prop:=∃(r n i:Int) (p q:List Int) (z:Bool),args= [.d (u64 r), .d (i64 n), .d (i64 i), .d (.sl 1 (AAa9 p)), .d (.sl 1 (digR q))]∧z=ACw9 r n i p q∧K (.d (bo z))
theorem ASs9:∀args K,BFw9 args K→∃x,PCall prog 131 args x∧K x:=by
 rintro _ K ⟨r,n,i,p,q,_,rfl,rfl,h⟩;exact ⟨_,BSq9 r n i p q,h⟩
theorem BTe9 (n:Int):PCall prog 75 [.d (i64 n)] (.d (i64 (ABj9 n))):=by
 refine Zaz (n:=100) (u:=false) mixed Zah Zac func75 (by rfl) (by rfl) fun Ev bb=> ?_
 rw [BJg9];rfl
def ATb9 (args:List AV) (K:AV→Prop):Prop:=∃(n z:Int),args= [.d (i64 n)]∧z=ABj9 n∧K (.d (i64 z))
theorem AIv9:∀args K,ATb9 args K→∃x,PCall prog 75 args x∧K x:=by
 rintro _ K ⟨n,_,rfl,rfl,h⟩;exact ⟨_,BTe9 n,h⟩
noncomputable def lp26:Code:=sub [1,1,0,1,2,3] (code f80)
def tm26 (i:Int):List AV:= [.bad, .ptr 0 0, .bad, .d (i64 i)]++Zag 56 .bad
def T26:List (Nat×(List AV→(AV→Prop)→Prop)):= [(75,ATb9),(131,BFw9),(76,BGo9),(142,BPi9)]
theorem BXd9:AAf9 prog T26:=Zaf AIv9 (Zaf ASs9 (Zaf AOf9 (Zaf BGm9 Zah)))
theorem r26 (s:SprT) (i:Int):wpc prog ⟨T26, [],wl,y,false⟩ 100 lp26 (tm26 i) [blkSI s] b (maskT [1,2,3] K)=(BIf (decide (i<((Zab (AAc9 (SprT.ps s)):Nat):Int))) (∃(n0:Int) (z1:Int), [Zae (i64 (NotT.n (SprT.no s)))]= [Zae (i64 n0)]∧z1=ABj9 n0∧BIf (true&&decide (0≤i)) (∃(xs2:List (List Dv)),(AAc9 (SprT.ps s))[Zam i]? =some [Zai 1 xs2]∧BIf (true&&decide (0≤i)) (∃(xs5:List (List Dv)),(AAe9 (SprT.qs s))[Zam i]? =some [Zai 1 xs5]∧∃(r8I:Int) (n9:Int) (i10:Int) (p11:List Int) (q12:List Int) (z13:Bool), [Zae (u64 (NotT.r (SprT.no s))),Zae (i64 z1),Zae (i64 i),Zae (Zai 1 xs2),Zae (Zai 1 xs5)]=(Qz51 r8I n9 i10 p11 q12)∧z13=ACw9 r8I n9 i10 p11 q12∧BIf (!z13) (K .ret (Zaq::Zbe 0 0::Zae (bo false)::Zae (i64 i)::bds 56 []) [Blk.mk (Qz1 s) false false 0] b) (K .normal (Zaq::Zbe 0 0::Zaq::Zae (i64 (Zaa .i64 (i+1)))::bds 56 []) [Blk.mk (Qz1 s) false false 0] b)) False) False) (K (Zcy 0) (Zaq::Zbe 0 0::Zaq::Zae (i64 i)::bds 56 []) [Blk.mk (Qz1 s) false false 0] b)):=by kernel_rfl
noncomputable def lp12a:Code:=sub [1,1,0,1,2,3] (code f46)
noncomputable def lp12b:Code:=sub [1,1,1,0,1,2,3] (code f46)
noncomputable def lp12c:Code:=sub [1,1,1,1,0,1,2,3] (code f46)
def AOt9 (i:Int):List AV:= [.bad, .ptr 0 0, .bad, .d (i64 i)]++Zag 67 .bad
def AOs9 (i:Int):List AV:= [.bad, .ptr 0 0, .bad, .bad, .d (i64 i)]++Zag 66 .bad
def tm12c (i:Int):List AV:= [.bad, .ptr 0 0, .bad, .bad, .bad, .d (i64 i)]++Zag 65 .bad
theorem r12a (s:SprT) (i:Int):wpc prog ⟨[], [],wl,y,false⟩ 100 lp12a (AOt9 i) [blkSI s] b (maskT [1,2,3] K)=(BIf (decide (i<((Zab (AAc9 (SprT.ps s)):Nat):Int))) (BIf (true&&decide (0≤i)) (∃(xs0:List (List Dv)),(AAc9 (SprT.ps s))[Zam i]? =some [Zai 1 xs0]∧BIf (decide (((Zab xs0:Nat):Int)>(1000:Int))) (K .ret (Zaq::Zbe 0 0::Zae (bo false)::Zae (i64 i)::bds 67 []) [Blk.mk (Qz1 s) false false 0] b) (K .normal (Zaq::Zbe 0 0::Zaq::Zae (i64 (Zaa .i64 (i+1)))::bds 67 []) [Blk.mk (Qz1 s) false false 0] b)) False) (K (Zcy 0) (Zaq::Zbe 0 0::Zaq::Zae (i64 i)::bds 67 []) [Blk.mk (Qz1 s) false false 0] b)):=by kernel_rfl
theorem r12b (s:SprT) (i:Int):wpc prog ⟨[], [],wl,y,false⟩ 100 lp12b (AOs9 i) [blkSI s] b (maskT [1,2,4] K)=(BIf (decide (i<((Zab (AAe9 (SprT.qs s)):Nat):Int))) (BIf (true&&decide (0≤i)) (∃(xs0:List (List Dv)),(AAe9 (SprT.qs s))[Zam i]? =some [Zai 1 xs0]∧BIf (decide (((Zab xs0:Nat):Int)>(40:Int))) (K .ret (Zaq::Zbe 0 0::Zae (bo false)::Zaq::Zae (i64 i)::bds 66 []) [Blk.mk (Qz1 s) false false 0] b) (K .normal (Zaq::Zbe 0 0::Zaq::Zaq::Zae (i64 (Zaa .i64 (i+1)))::bds 66 []) [Blk.mk (Qz1 s) false false 0] b)) False) (K (Zcy 2) (Zaq::Zbe 0 0::Zaq::Zaq::Zae (i64 i)::bds 66 []) [Blk.mk (Qz1 s) false false 0] b)):=by kernel_rfl
theorem r12c (s:SprT) (i:Int):wpc prog ⟨[], [],wl,y,false⟩ 100 lp12c (tm12c i) [blkSI s] b (maskT [1,2,5] K)=(BIf (decide (i<((Zab (SprT.rows s):Nat):Int))) (BIf (true&&decide (0≤i)) (∃(x0:Int) (xs1:List (List Dv)),(SprT.rows s)[Zam i]? =some [i64 x0,Zai 1 xs1]∧BIf (decide (((Zab xs1:Nat):Int)>(100:Int))) (K .ret (Zaq::Zbe 0 0::Zae (bo false)::Zaq::Zaq::Zae (i64 i)::bds 65 []) [Blk.mk (Qz1 s) false false 0] b) (K .normal (Zaq::Zbe 0 0::bds 3 (Zae (i64 (Zaa .i64 (i+1)))::bds 65 [])) [Blk.mk (Qz1 s) false false 0] b)) False) (K (Zcy 4) (Zaq::Zbe 0 0::bds 3 (Zae (i64 i)::bds 65 [])) [Blk.mk (Qz1 s) false false 0] b)):=by kernel_rfl
theorem wr26 {Ev:Env prog} {b:Ev.β} {Q:Exit→St Ev.β→Prop} (s:SprT) (hl:s.ps.length≤1000000):∀(ps qs:List (List Int)) (k:Nat),s.ps.drop k=ps→s.qs.drop k=qs→k≤s.ps.length→ps.length=qs.length→
   (allP s k ps qs=true→∀i:Int,Q (.exit 0) ⟨tm26 i, [blkSI s],b⟩)→(allP s k ps qs=false→∀i:Int,Q .ret ⟨(tm26 i).set 2 (.d (bo false)), [blkSI s],b⟩)→
   WR Ev lp26 (ps.length+1) ⟨tm26 k, [blkSI s],b⟩ Q
 | [],qs,k,hd,hd2,hk,hlen,h1,h2=>by
   refine Zbw [1,2,3] mixed (CX.Ok.of (u:=false) BXd9 Zac) (k:=100) ?_
   rw [r26,AAd9]
   have:=ABm9 hd
   exact Zct (by simp<;>omega) (h1 (by rw [allP];intros;simp_all) _)
 |p::ps, [],k,hd,hd2,hk,hlen,h1,h2=>by simp at hlen
 | p::ps,q::qs,k,hd,hd2,hk,hlen,h1,h2=>by
   refine Zbw [1,2,3] mixed (CX.Ok.of (u:=false) BXd9 Zac) (k:=100) ?_
   rw [r26,AAd9]
   obtain ⟨hk',hr,hd'⟩:=AAw9 hd
   obtain ⟨hk2,hr2,hd2'⟩:=AAw9 hd2
   refine Zbf (by simp<;>omega) ⟨_,_,rfl,rfl,Zbf (by simp) ⟨AAa9 p,by simp [AAc9,hr],Zbf (by simp) ⟨digR q,by simp [AAe9,hr2],_,_,_,p,q,_,rfl,rfl,Zaj (fun g=> ?_) fun g=> ?_⟩⟩⟩
   · have g:ABl9 s k p q=false:=by unfold ABl9;simpa using g
     exact h2 (by rw [allP,g];rfl) _
   · have g:ABl9 s k p q=true:=by unfold ABl9;simpa using g
     rw [allP,g,Bool.true_and] at h1 h2
     rw [AAu9 hk' (by omega)]
     exact wr26 s hl ps qs (k+1) hd' hd2' hk' (by simpa using hlen) h1 h2
def wl26 {β:Type}:WLT β:=fun c tm hp b K=>∃(s:SprT) (z:Bool),c= .loop lp26∧ABb9 [1,3] 0 tm=tm26 0∧hp= [blkSI s]∧((s.ps.length≤1000000∧s.qs.length=s.ps.length)∧z=allP s 0 s.ps s.qs)∧
 BIf z (∀i:Int,K (.exit 0) (tm26 i) [blkSI s] b) (∀i:Int,K .ret ((tm26 i).set 2 (.d (bo false))) [blkSI s] b)
theorem BYt9 {Ev:Env prog} (c:Code) (tm:List AV) (hp:List Blk) (b:Ev.β) (K:Exit→List AV→List Blk→Ev.β→Prop) (h:wl26 c tm hp b K):W Ev c ⟨tm,hp,b⟩ (fun e s=>K e s.tm s.hp s.b):=by
 obtain ⟨s,z,rfl,htm,rfl,⟨⟨hl,hlen⟩,hz⟩,hK⟩:=h
 refine W.cast (htm▸AAg9 _ tm 0) (Zbt _) ?_
 exact W.rounds (wr26 (Q:=fun e s=>K e s.tm s.hp s.b) s hl s.ps s.qs 0 rfl rfl (Zdb _) hlen.symm (fun h=>by rw [hz,h] at hK;exact hK) fun h=>by rw [hz,h] at hK;exact hK)
def BNk9 (s:SprT):Prop:=∀r∈s.rows,∃(m:Int) (xs:List (List Dv)),r= [i64 m, .sl 1 xs]
def BSb9:List Dv→Nat
 | [_, .sl _ xs]=>xs.length
 |_=>0
def nthR (l:List (List Dv)) (i:Nat):List Dv:=l.getD i []
theorem CBt9 {l:List (List Dv)} {i:Nat} (h:i<l.length):l[i]? =some (nthR l i):=by simp [nthR,h]
theorem BTz9 {l:List (List Dv)} {i:Nat} (h:i<l.length):nthR l i∈l:=by
 rw [nthR,List.getD_eq_getElem?_getD,Zbk h];exact List.getElem_mem h
def anyP (ps:List (List Int)):Bool:=(Zbn ps.length).any fun i=>decide (((nthL ps i).length:Int)>1000)
def anyQ (qs:List (List Int)):Bool:=(Zbn qs.length).any fun i=>decide (((nthL qs i).length:Int)>40)
def anyR (rs:List (List Dv)):Bool:=(Zbn rs.length).any fun i=>decide ((BSb9 (nthR rs i):Int)>100)
theorem wr12a {Ev:Env prog} {b:Ev.β} {Q:Exit→St Ev.β→Prop} (s:SprT) (hb:s.ps.length≤9223372036854775807) (h1:anyP s.ps=false→∀i:Int,Q (.exit 0) ⟨AOt9 i, [blkSI s],b⟩) (h2:anyP s.ps=true→∀i:Int,Q .ret ⟨(AOt9 i).set 2 (.d (bo false)), [blkSI s],b⟩):
   WR Ev lp12a (s.ps.length+1) ⟨AOt9 (0:Nat), [blkSI s],b⟩ Q:=by
 refine WR.scan (X:=⟨[], [],wlW Ev,Ev.Y,false⟩) (k:=100) [1,2,3] mixed (CX.Ok.of Zah Zac) s.ps.length (fun i=>decide (((nthL s.ps i).length:Int)>1000)) (fun i=>AOt9 (i:Nat)) (fun i=>(AOt9 (i:Nat)).set 2 (.d (bo false))) [blkSI s] 0 (fun i hi K k1 k2=> ?_) (fun K k1=> ?_) (fun h=>h1 h _) fun h i=>h2 h _
 · rw [r12a,AAd9]
   refine Zbf (by simp<;>omega) (Zbf (by simp) ⟨_,by rw [Zas];exact AHv9 hi,Zaj (fun g=>k1 (by rw [AAh9] at g;exact g)) fun g=> ?_⟩)
   rw [AAu9 hi hb];exact k2 (by rw [AAh9] at g;exact g)
 · rw [r12a,AAd9]
   exact Zct (by simp) k1
theorem wr12b {Ev:Env prog} {b:Ev.β} {Q:Exit→St Ev.β→Prop} (s:SprT) (hb:s.qs.length≤9223372036854775807) (h1:anyQ s.qs=false→∀i:Int,Q (.exit 2) ⟨AOs9 i, [blkSI s],b⟩) (h2:anyQ s.qs=true→∀i:Int,Q .ret ⟨(AOs9 i).set 2 (.d (bo false)), [blkSI s],b⟩):
   WR Ev lp12b (s.qs.length+1) ⟨AOs9 (0:Nat), [blkSI s],b⟩ Q:=by
 refine WR.scan (X:=⟨[], [],wlW Ev,Ev.Y,false⟩) (k:=100) [1,2,4] mixed (CX.Ok.of Zah Zac) s.qs.length (fun i=>decide (((nthL s.qs i).length:Int)>40)) (fun i=>AOs9 (i:Nat)) (fun i=>(AOs9 (i:Nat)).set 2 (.d (bo false))) [blkSI s] 2 (fun i hi K k1 k2=> ?_) (fun K k1=> ?_) (fun h=>h1 h _) fun h i=>h2 h _
 · rw [r12b,AAs9]
   refine Zbf (by simp<;>omega) (Zbf (by simp) ⟨_,by rw [Zas];exact AHc9 hi,Zaj (fun g=>k1 (by rw [AAn9] at g;exact g)) fun g=> ?_⟩)
   rw [AAu9 hi hb];exact k2 (by rw [AAn9] at g;exact g)
 · rw [r12b,AAs9]
   exact Zct (by simp) k1
theorem wr12c {Ev:Env prog} {b:Ev.β} {Q:Exit→St Ev.β→Prop} (s:SprT) (ho:BNk9 s) (hb:s.rows.length≤9223372036854775807) (h1:anyR s.rows=false→∀i:Int,Q (.exit 4) ⟨tm12c i, [blkSI s],b⟩) (h2:anyR s.rows=true→∀i:Int,Q .ret ⟨(tm12c i).set 2 (.d (bo false)), [blkSI s],b⟩):
   WR Ev lp12c (s.rows.length+1) ⟨tm12c (0:Nat), [blkSI s],b⟩ Q:=by
 refine WR.scan (X:=⟨[], [],wlW Ev,Ev.Y,false⟩) (k:=100) [1,2,5] mixed (CX.Ok.of Zah Zac) s.rows.length (fun i=>decide ((BSb9 (nthR s.rows i):Int)>100)) (fun i=>tm12c (i:Nat)) (fun i=>(tm12c (i:Nat)).set 2 (.d (bo false))) [blkSI s] 4 (fun i hi K k1 k2=> ?_) (fun K k1=> ?_) (fun h=>h1 h _) fun h i=>h2 h _
 · rw [r12c]
   obtain ⟨m,xs,he⟩:=ho _ (BTz9 hi)
   rw [he] at k1 k2
   refine Zbf (by simp<;>omega) (Zbf (by simp) ⟨m,xs,by rw [Zas,CBt9 hi,he],Zaj (fun g=>k1 g) fun g=> ?_⟩)
   rw [AAu9 hi hb];exact k2 g
 · rw [r12c]
   exact Zct (by simp) k1
def wl12I {β:Type}:WLT β:=fun c tm hp b K=>match cidO c with
 |5=>∃(s:SprT) (z:Bool),c= .loop lp12a∧ABb9 [1,3] 0 tm=AOt9 0∧hp= [blkSI s]∧(s.ps.length≤9223372036854775807∧z=anyP s.ps)∧BIf z (∀i:Int,K .ret ((AOt9 i).set 2 (.d (bo false))) [blkSI s] b) (∀i:Int,K (.exit 0) (AOt9 i) [blkSI s] b)
 |10=>∃(s:SprT) (z:Bool),c= .loop lp12b∧ABb9 [1,4] 0 tm=AOs9 0∧hp= [blkSI s]∧(s.qs.length≤9223372036854775807∧z=anyQ s.qs)∧BIf z (∀i:Int,K .ret ((AOs9 i).set 2 (.d (bo false))) [blkSI s] b) (∀i:Int,K (.exit 2) (AOs9 i) [blkSI s] b)
 |15=>∃(s:SprT) (z:Bool),c= .loop lp12c∧ABb9 [1,5] 0 tm=tm12c 0∧hp= [blkSI s]∧((BNk9 s∧s.rows.length≤9223372036854775807)∧z=anyR s.rows)∧BIf z (∀i:Int,K .ret ((tm12c i).set 2 (.d (bo false))) [blkSI s] b) (∀i:Int,K (.exit 4) (tm12c i) [blkSI s] b)
 |_=>False
theorem BQs9 {Ev:Env prog} (c:Code) (tm:List AV) (hp:List Blk) (b:Ev.β) (K:Exit→List AV→List Blk→Ev.β→Prop) (h:wl12I c tm hp b K):W Ev c ⟨tm,hp,b⟩ (fun e s=>K e s.tm s.hp s.b):=by
 unfold wl12I at h
 split at h
 · obtain ⟨s,z,rfl,htm,rfl,⟨hb,hz⟩,hK⟩:=h
   refine W.cast (htm▸AAg9 _ tm 0) (Zbt _) ?_
   exact W.rounds (wr12a (Q:=fun e s=>K e s.tm s.hp s.b) s hb (fun h=>by rw [hz,h] at hK;exact hK) fun h=>by rw [hz,h] at hK;exact hK)
 · obtain ⟨s,z,rfl,htm,rfl,⟨hb,hz⟩,hK⟩:=h
   refine W.cast (htm▸AAg9 _ tm 0) (Zbt _) ?_
   exact W.rounds (wr12b (Q:=fun e s=>K e s.tm s.hp s.b) s hb (fun h=>by rw [hz,h] at hK;exact hK) fun h=>by rw [hz,h] at hK;exact hK)
 · obtain ⟨s,z,rfl,htm,rfl,⟨⟨ho,hb⟩,hz⟩,hK⟩:=h
   refine W.cast (htm▸AAg9 _ tm 0) (Zbt _) ?_
   exact W.rounds (wr12c (Q:=fun e s=>K e s.tm s.hp s.b) s ho hb (fun h=>by rw [hz,h] at hK;exact hK) fun h=>by rw [hz,h] at hK;exact hK)
 · exact h.elim
theorem BJe9 (s:SprT):wpFn prog ⟨T26, [],wl26,y,false⟩ 100 f80 [spV s] b R=(∃(a0:Int) (n1:Int) (r2:Int) (t3:Int) (z4:Bool),(Qz32 s)=(Qz39 a0 n1 r2 t3)∧z4=AAi9 a0 n1 t3∧BIf (!z4) (R (.d (bo false)) b) (∃(n5:Int) (z6:Int), [Zae (i64 (NotT.n (SprT.no s)))]= [Zae (i64 n5)]∧z6=ABj9 n5∧BIf (decide (((Zab (AAc9 (SprT.ps s)):Nat):Int)>z6)) (R (.d (bo false)) b) (BIf (((Zab (AAe9 (SprT.qs s)):Nat):Int) !=((Zab (AAc9 (SprT.ps s)):Nat):Int)) (R (.d (bo false)) b) (∃(ps7:List (List Int)) (z8:Bool), [Zae (Zai 1 (AAc9 (SprT.ps s)))]= [Zae (Zai 1 (AAc9 ps7))]∧(Zab ps7≤9223372036854775807∧z8= !AAx9 ps7)∧BIf (!z8) (R (.d (bo false)) b) (∃(s9:SprT) (z10:Bool),Zax lp26=Zax lp26∧(Zaq::Zbe 0 0::Zaq::Zae (i64 0)::bds 56 [])=(Zaq::Zbe 0 0::Zaq::Zae (i64 0)::bds 56 [])∧ [Blk.mk (Qz1 s) false false 0]= [Blk.mk (Qz1 s9) false false 0]∧((Zab (SprT.ps s9)≤1000000∧Zab (SprT.qs s9)=Zab (SprT.ps s9))∧z10=allP s9 0 (SprT.ps s9) (SprT.qs s9))∧BIf z10 (∀(i:Int),R (.d (bo true)) b) (∀(i:Int),R (.d (bo false)) b)))))):=by kernel_rfl
abbrev Qz52:=Zaq::Zbe 0 0::Zaq::Zaq::Zae (i64 0)::bds 66 []
theorem CIk9 (s:SprT):wpFn prog ⟨[], [],wl12I,y,false⟩ 100 f46 [spV s] b R=(BIf (decide (((Zab (AAc9 (SprT.ps s)):Nat):Int)>(20:Int))) (R (.d (bo false)) b) (BIf (decide (((Zab (AAe9 (SprT.qs s)):Nat):Int)>(20:Int))) (R (.d (bo false)) b) (BIf (decide (((Zab (SprT.rows s):Nat):Int)>(40:Int))) (R (.d (bo false)) b) (BIf (decide (((Zab (digR (SprT.pf s)):Nat):Int)>(40:Int))) (R (.d (bo false)) b) (∃(s0:SprT) (z1:Bool),Zax lp12a=Zax lp12a∧(Zaq::Zbe 0 0::Zaq::Zae (i64 0)::bds 67 [])=(Zaq::Zbe 0 0::Zaq::Zae (i64 0)::bds 67 [])∧ [Blk.mk (Qz1 s) false false 0]= [Blk.mk (Qz1 s0) false false 0]∧(Zab (SprT.ps s0)≤9223372036854775807∧z1=anyP (SprT.ps s0))∧BIf z1 (∀(i:Int),R (.d (bo false)) b) (∀(i:Int),∃(s2:SprT) (z3:Bool),Zax lp12b=Zax lp12b∧Qz52=Qz52∧ [Blk.mk (Qz1 s0) false false 0]= [Blk.mk (Qz1 s2) false false 0]∧(Zab (SprT.qs s2)≤9223372036854775807∧z3=anyQ (SprT.qs s2))∧BIf z3 (∀(i:Int),R (.d (bo false)) b) (∀(i:Int),∃(s4:SprT) (z5:Bool),Zax lp12c=Zax lp12c∧(Zaq::Zbe 0 0::bds 3 (Zae (i64 0)::bds 65 []))=(Zaq::Zbe 0 0::bds 3 (Zae (i64 0)::bds 65 []))∧ [Blk.mk (Qz1 s2) false false 0]= [Blk.mk (Qz1 s4) false false 0]∧(((∀(r:List Dv),r∈SprT.rows s4→∃(m6:Int) (xs7:List (List Dv)),r= [i64 m6,Zai 1 xs7])∧Zab (SprT.rows s4)≤9223372036854775807)∧z5=anyR (SprT.rows s4))∧BIf z5 (∀(i:Int),R (.d (bo false)) b) (∀(i:Int),R (.d (bo true)) b)))))))):=by kernel_rfl
theorem BSy9 (s:SprT) (hl:s.ps.length≤9223372036854775807):PCall prog 80 [spV s] (.d (bo (ABt9 s))):=by
 refine Zcd (n:=100) (u:=false) (fun _=>wl26) mixed BXd9 Zac (fun Ev=>BYt9) func80 (by rfl) (by rfl) fun Ev bb=> ?_
 rw [BJe9]
 refine ⟨_,_,_,_,_,rfl,rfl,Zaj (fun g=> ?_) fun g1=>⟨_,_,rfl,rfl,Zaj (fun g=> ?_) fun g2=>Zaj (fun g=> ?_) fun g3=>⟨_,_,rfl,⟨hl,rfl⟩,Zaj (fun g=> ?_) fun g4=>⟨s,_,rfl,rfl,rfl,⟨⟨?_, ?_⟩,rfl⟩,Zaj (fun g5 _=> ?_) fun g5 _=> ?_⟩⟩⟩⟩
 · have:AAi9 s.no.v s.no.n s.no.t=false:=by simpa using g
   rw [ABt9,this];rfl
 · rw [AAd9] at g
   have h1:AAi9 s.no.v s.no.n s.no.t=true:=by simpa using g1
   rw [ABt9,h1,g];rfl
 · rw [AAd9,AAs9] at g
   rw [AAd9] at g2
   have h1:AAi9 s.no.v s.no.n s.no.t=true:=by simpa using g1
   rw [ABt9,h1,g2,g];rfl
 · rw [AAd9,AAs9] at g3
   rw [AAd9] at g2
   have h1:AAi9 s.no.v s.no.n s.no.t=true:=by simpa using g1
   have h4:AAx9 s.ps=true:=by simpa using g
   rw [ABt9,h1,g2,g3,h4];rfl
 · rw [AAd9] at g2
   have h1:AAi9 s.no.v s.no.n s.no.t=true:=by simpa using g1
   have h6:ACl9 s.no.n=true:=by simp only [AAi9,Zan] at h1;exact h1.2.2.1
   obtain ⟨k,hk,hk1,hk2⟩:=AFe9 h6
   rw [hk,AGi9 (by omega)] at g2
   simp at g2;omega
 · rw [AAd9,AAs9] at g3
   simp at g3;omega
 · rw [AAd9] at g2
   rw [AAd9,AAs9] at g3
   have h1:AAi9 s.no.v s.no.n s.no.t=true:=by simpa using g1
   have h4:AAx9 s.ps=false:=by simpa using g4
   rw [ABt9,h1,g2,g3,h4,g5];rfl
 · rw [AAd9] at g2
   rw [AAd9,AAs9] at g3
   have h1:AAi9 s.no.v s.no.n s.no.t=true:=by simpa using g1
   have h4:AAx9 s.ps=false:=by simpa using g4
   rw [ABt9,h1,g2,g3,h4,g5];rfl
def BPf9 (args:List AV) (K:AV→Prop):Prop:=∃(s:SprT) (z:Bool),args= [spV s]∧(s.ps.length≤9223372036854775807∧z=ABt9 s)∧K (.d (bo z))
theorem ASv9:∀args K,BPf9 args K→∃x,PCall prog 80 args x∧K x:=by
 rintro _ K ⟨s,_,rfl,⟨hl,rfl⟩,h⟩;exact ⟨_,BSy9 s hl,h⟩
def fewSI (s:SprT):Bool:= !decide ((s.ps.length:Int)>20)&&(!decide ((s.qs.length:Int)>20)&&(!decide ((s.rows.length:Int)>40)&&(!decide ((s.pf.length:Int)>40)&&(!anyP s.ps&&(!anyQ s.qs&& !anyR s.rows)))))
theorem pcFew (s:SprT) (ho:BNk9 s):PCall prog 46 [spV s] (.d (bo (fewSI s))):=by
 refine Zcd (n:=100) (u:=false) (fun _=>wl12I) mixed Zah Zac (fun Ev=>BQs9) func46 (by rfl) (by rfl) fun Ev bb=> ?_
 rw [CIk9,AAd9,AAs9,AAn9]
 refine Zaj (fun g=>by rw [fewSI,g];rfl) fun g1=>Zaj (fun g=>by rw [fewSI,g1,g];rfl) fun g2=>Zaj (fun g=>by rw [fewSI,g1,g2,g];rfl) fun g3=>Zaj (fun g=>by rw [fewSI,g1,g2,g3,g];rfl) fun g4=> ?_
 have n1:=of_decide_eq_false g1
 have n2:=of_decide_eq_false g2
 have n3:=of_decide_eq_false g3
 refine ⟨s,_,rfl,rfl,rfl,⟨by omega,rfl⟩,Zaj (fun g _=>by rw [fewSI,g1,g2,g3,g4,g];rfl) fun g5 _=>⟨s,_,rfl,rfl,rfl,⟨by omega,rfl⟩,Zaj (fun g _=>by rw [fewSI,g1,g2,g3,g4,g5,g];rfl) fun g6 _=>⟨s,_,rfl,rfl,rfl,⟨⟨ho,by omega⟩,rfl⟩,Zaj (fun g _=>by rw [fewSI,g1,g2,g3,g4,g5,g6,g];rfl) fun g7 _=>by rw [fewSI,g1,g2,g3,g4,g5,g6,g7];rfl⟩⟩⟩
def cFew (args:List AV) (K:AV→Prop):Prop:=∃(s:SprT) (z:Bool),args= [spV s]∧(BNk9 s∧z=fewSI s)∧K (.d (bo z))
theorem CEa9:∀args K,cFew args K→∃x,PCall prog 46 args x∧K x:=by
 rintro _ K ⟨s,_,rfl,⟨hl,rfl⟩,h⟩;exact ⟨_,pcFew s hl,h⟩
def APd9 (p:List Int) (i:Nat):List Int:=(p.drop (i*256)).take 256
theorem AZf9 (p:List Int) (i:Nat):APd9 (p.drop 256) i=APd9 p (i+1):=by
 rw [APd9,APd9,List.drop_drop];congr 2;omega
theorem AMh9:∀(n:Nat) (p:List Int),p.length≤n→ADd9 256 n p=(Zbn ((p.length+255) / 256)).map (APd9 p)
 | 0,p,h=>by
   have:p= []:=Zeg.1 (by omega)
   subst this;rfl
 | n+1,p,h=>by
   rw [ADd9]
   cases hp:p with
   |nil=>rfl
   | cons a l=>
     rw [if_neg (by simp),←hp]
     have hl:1≤p.length:=by rw [hp];simp
     rw [AMh9 n (p.drop 256) (by simp;omega)]
     have e:(p.length+255) / 256=((p.drop 256).length+255) / 256+1:=by rw [List.length_drop];omega
     rw [e,List.range_succ_eq_map,Zcz,List.map_map]
     refine congr (congrArg _ ?_) (List.map_congr_left fun i _=>AZf9 p i)
     rw [APd9];simp
theorem ADr9 (p:List Int):ADn9 p=(Zbn ((p.length+255) / 256)).map fun i=>padS (APd9 p i):=by
 rw [ADn9,AMh9 _ _ (Zbb _),List.map_map];rfl
theorem APc9 (p:List Int) (i:Nat):(APd9 p i).length≤256:=by rw [APd9,List.length_take];omega
theorem BMt9 {p:List Int}:∀r∈AAa9 p,r.length=1:=by
 intro r hr;simp only [AAa9,Zbo] at hr;obtain ⟨_,_,rfl⟩:=hr;rfl
theorem AXl9 (f:Int→Bool):∀l:List Int,l.dropWhile f= []↔∀x∈l,f x=true
 | []=>by simp
 | a::l=>by
   rw [Zdu]
   split
   · rename_i h
     rw [AXl9 f l]
     refine ⟨fun g x hx=> ?_,fun g x hx=>g x (Zaw _ hx)⟩
     rcases Zcw.1 hx with rfl|hx
     · exact h
     · exact g x hx
   · rename_i h
     exact ⟨fun g=>(by cases g),fun g=>absurd (g a (Zay ..)) h⟩
theorem AVn9 (l:List Int):(0<(trimS l).length)↔l.all (· ==0)=false:=by
 have key:trimS l= []↔∀x∈l,x=0:=by
   rw [trimS,AXl9]
   constructor
   · intro h x hx
     have hx':x∈l.reverse:=List.mem_reverse.2 hx
     rw [←List.takeWhile_append_dropWhile (p:=(· ==(0:Int))) (l:=l.reverse)] at hx'
     rcases Zcl.1 hx' with h1|h1
     · simpa using (Zbm.1 (List.all_takeWhile (p:=(· ==(0:Int))) (l:=l.reverse)) x h1)
     · have:=h x (by rw [trimR,List.mem_reverse];exact h1)
       simpa using this
   · intro h x hx
     rw [trimR,List.mem_reverse] at hx
     have:=h x (List.mem_reverse.1 ((Zfb _).subset hx))
     simp [this]
 constructor
 · intro h
   cases hl:l.all (· ==0) with
   |false=>rfl
   | true=>
     have:trimS l= []:=key.2 fun x hx=>by simpa using Zbm.1 hl x hx
     rw [this] at h;simp at h
 · intro h
   apply Classical.byContradiction
   intro hc
   have:trimS l= []:=Zeg.1 (by omega)
   have:=key.1 this
   have:l.all (· ==0)=true:=Zbm.2 fun x hx=>by simp [this x hx]
   rw [this] at h;cases h
noncomputable def lp22:Code:=sub [1,1,1,1,1,1,0,1,2,3] (code f60)
def tm22 (p q:List (List Dv)) (i:Int):List AV:= [.bad, .d (.sl 1 p), .d (.sl 1 q), .ptr 0 0, .bad, .bad, .ptr 1 0, .bad, .bad, .ptr 2 0, .d (i64 i)]++Zag 92 .bad
theorem r22 (s:SprT) (b1:Blk) (p q X Y:List (List Dv)) (i:Int):wpc prog ⟨[], [],wl,y,false⟩ 100 lp22 (tm22 p q i) [blkSI s,b1,outB s (.own 33 1 X) (.own 28 1 Y)] b (maskT [1,2,3,6,9,10] K)=(BIf (decide (i<((Zab (AAc9 (SprT.ps s)):Nat):Int))) (BIf (true&&decide (0≤i)) (∃(xs0:List (List Dv)),(AAc9 (SprT.ps s))[Zam i]? =some [Zai 1 xs0]∧BIf (decide (Zab xs0*1≤140737488355328)) (BIf (true&&decide (0≤i)) (∃(xs3:List (List Dv)),(AAe9 (SprT.qs s))[Zam i]? =some [Zai 1 xs3]∧BIf (decide (Zab xs3*8≤140737488355328)) (BIf (true&&decide ((Zab X+1)*24≤140737488355328)) (BIf (true&&decide ((Zab Y+1)*24≤140737488355328)) (K .normal (Zaq::Zae (Zai 1 p)::Zae (Zai 1 q)::Zbe 0 0::Zaq::Zaq::Zbe 1 0::Zaq::Zaq::Zbe 2 0::Zae (i64 (Zaa .i64 (i+1)))::bds 92 []) [Blk.mk (Qz1 s) false false 0,b1,Blk.mk [Zae (i64 (NotT.v (SprT.no s))),Zae (i64 (NotT.n (SprT.no s))),Zae (u64 (NotT.r (SprT.no s))),Zae (i64 (NotT.t (SprT.no s))),AV.own 33 1 (X++ [[Zai 1 xs0]]),AV.own 28 1 (Y++ [[Zai 1 xs3]]),Zae (Zfa (.slice none 0 0)),Zae (Zfa (.slice none 0 0)),Zae (i64 (SprT.i1 s)),Zae (i64 (SprT.i2 s)),Zae (i64 (SprT.i3 s)),Zae (i64 (SprT.i4 s)),Zae (i64 (SprT.i5 s))] false false 0] b) False) False) False) False) False) False) (K (Zcy 0) (Zaq::Zae (Zai 1 p)::Zae (Zai 1 q)::Zbe 0 0::Zaq::Zaq::Zbe 1 0::Zaq::Zaq::Zbe 2 0::Zae (i64 i)::bds 92 []) [Blk.mk (Qz1 s) false false 0,b1,Blk.mk (Qz17 s X Y) false false 0] b)):=by kernel_rfl
theorem BIj9 {p:List Int} (h:ACl9 p.length=true):areS (ADn9 p)=true:=by
 obtain ⟨k,hk,hk1,hk2⟩:=AFe9 h
 have hl:(ADn9 p).length=(p.length+255) / 256:=by rw [ADr9];simp
 have ha:AOi9 (ADn9 p)=false:=by
   rw [AOi9,List.any_eq_false]
   intro q hq
   rw [ADr9] at hq
   obtain ⟨i,_,rfl⟩:=Zbo.1 hq
   have:=APf9 (APc9 p i)
   simp;omega
 rw [areS,ha,hl]
 have:p.length=k:=by omega
 rw [decide_eq_true (by omega),decide_eq_true (by omega)];rfl
theorem wr22 {Ev:Env prog} {b:Ev.β} {Q:Exit→St Ev.β→Prop} (s:SprT) (b1:Blk) (p q:List (List Dv)) (hl:s.ps.length≤1000000) (hP:∀x∈s.ps,x.length≤1000000) (hQ:∀x∈s.qs,x.length≤1000000) (hlen:s.qs.length=s.ps.length):∀(ps qs:List (List Int)) (k:Nat) (X Y:List (List Int)),s.ps.drop k=ps→s.qs.drop k=qs→k≤s.ps.length→X.length≤k→Y.length≤k→
   (∀i:Int,Q (.exit 0) ⟨tm22 p q i, [blkSI s,b1,outB s (.own 33 1 (AAc9 (X++ps))) (.own 28 1 (AAe9 (Y++qs)))],b⟩)→
   WR Ev lp22 (ps.length+1) ⟨tm22 p q k, [blkSI s,b1,outB s (.own 33 1 (AAc9 X)) (.own 28 1 (AAe9 Y))],b⟩ Q
 | [],qs,k,X,Y,hd,hd2,hk,hX,hY,h=>by
   refine Zbw [1,2,3,6,9,10] mixed (CX.Ok.of (u:=false) Zah Zac) (k:=100) ?_
   rw [r22,AAd9]
   have h1:=ABm9 hd
   have h2:qs= []:=by rw [←hd2];exact List.drop_eq_nil_of_le (by omega)
   subst h2
   rw [Zef,Zef] at h
   exact Zct (by simp<;>omega) (h _)
 | x::ps, [],k,X,Y,hd,hd2,hk,hX,hY,h=>by
   have h1:=(AAw9 hd).1
   have h2:=ABm9 hd2
   omega
 | x::ps,z::qs,k,X,Y,hd,hd2,hk,hX,hY,h=>by
   refine Zbw [1,2,3,6,9,10] mixed (CX.Ok.of (u:=false) Zah Zac) (k:=100) ?_
   rw [r22,AAd9]
   obtain ⟨hk',hr,hd'⟩:=AAw9 hd
   obtain ⟨hk2,hr2,hd2'⟩:=AAw9 hd2
   have b1':=hP x (Zbh hr)
   have b2':=hQ z (Zbh hr2)
   refine Zbf (by simp<;>omega) (Zbf (by simp) ⟨AAa9 x,by simp [AAc9,hr],Zbf (by rw [AAh9];simp<;>omega) (Zbf (by simp) ⟨digR z,by simp [AAe9,hr2],Zbf (by rw [AAn9];simp<;>omega) (Zbf (by simp [AAd9]<;>omega) (Zbf (by simp [AAs9]<;>omega) ?_))⟩)⟩)
   rw [AGn9,AFv9,AAu9 hk' (by omega)]
   refine wr22 s b1 p q hl hP hQ hlen ps qs (k+1) (X++ [x]) (Y++ [z]) hd' hd2' hk' (by simp;omega) (by simp;omega) fun i=> ?_
   have:=h i
   rw [Zcg,Zcg];exact this
theorem three {α:Type} {l:List α} {x y:α} (h0:l[0]? =some x) (h:l[2]? =some y) (hl:l.length=3):∃a,l= [x,a,y]:=by
 match l,h0,h,hl with
 | [a,b,c],h0,h,_=>simp at h h0;subst h;subst h0;exact ⟨b,rfl⟩
def wl22 {β:Type}:WLT β:=fun c tm hp b K=>∃(s:SprT) (p q:List (List Dv)),c= .loop lp22∧ABb9 [1,2,3,6,9,10] 0 tm=tm22 p q 0∧(hp[0]? =some (blkSI s)∧hp[2]? =some (outB s nilV nilV)∧hp.length=3)∧(s.ps.length≤1000000∧(∀x∈s.ps,x.length≤1000000)∧(∀x∈s.qs,x.length≤1000000)∧s.qs.length=s.ps.length)∧
 ∀i:Int,K (.exit 0) (tm22 p q i) (hp.set 2 (outB s (.own 33 1 (AAc9 s.ps)) (.own 28 1 (AAe9 s.qs)))) b
theorem BYu9 {Ev:Env prog} (c:Code) (tm:List AV) (hp:List Blk) (b:Ev.β) (K:Exit→List AV→List Blk→Ev.β→Prop) (h:wl22 c tm hp b K):W Ev c ⟨tm,hp,b⟩ (fun e s=>K e s.tm s.hp s.b):=by
 obtain ⟨s,p,q,rfl,htm,⟨e0,e2,el⟩,⟨h1,h2,h3,h4⟩,hK⟩:=h
 obtain ⟨b1,rfl⟩:=three e0 e2 el
 refine W.cast (htm▸AAg9 _ tm 0) (hp':= [blkSI s,b1,outB s (.own 33 1 (AAc9 [])) (.own 28 1 (AAe9 []))]) (LeH.at [blkSI s,b1] [] (.cons .rfl (.cons .rfl (.cons .rfl (.cons .rfl (.cons (LeA.nilOwn rfl) (.cons (LeA.nilOwn rfl) (LeL.refl _)))))))) ?_
 exact W.rounds (wr22 (Q:=fun e s=>K e s.tm s.hp s.b) s b1 p q h1 h2 h3 h4 _ _ 0 [] [] rfl rfl (Zdb _) (Zdb _) (Zdb _) hK)
def T22:List (Nat×(List AV→(AV→Prop)→Prop)):= [(80,BPf9),(75,ATb9),(131,BFw9)]
theorem CLs9:AAf9 prog T22:=Zaf ASv9 (Zaf AIv9 (Zaf ASs9 Zah))
abbrev Qz37 (v0:List (List Dv)) (v1:List (List Dv)):=Zaq::Zae (Zai 1 v0)::Zae (Zai 1 v1)::Zbe 0 0::Zaq::Zaq::Zbe 1 0::Zaq::Zaq::Zbe 2 0::Zae (i64 0)::bds 92 []
theorem CAb9 (s:SprT) (p q:List (List Dv)):wpFn prog ⟨T22, [],wl22,y,false⟩ 100 f60 [spV s, .d (.sl 1 p), .d (.sl 1 q)] b R=(∃(s0:SprT) (z1:Bool), [Zbc (Qz1 s)]= [Zbc (Qz1 s0)]∧(Zab (SprT.ps s0)≤9223372036854775807∧z1=ABt9 s0)∧BIf (!z1) (R (.tup [Zbc Qz3,Zae (i64 1)]) b) (BIf (((Zab p:Nat):Int) !=(256:Int)) (R (.tup [Zbc Qz3,Zae (i64 1)]) b) (∃(n2:Int) (z3:Int), [Zae (i64 (NotT.n (SprT.no s)))]= [Zae (i64 n2)]∧z3=ABj9 n2∧BIf (((Zab (AAc9 (SprT.ps s)):Nat):Int)==z3) (R (.tup [Zbc Qz3,Zae (i64 10)]) b) (∃(r4:Int) (n5:Int) (i6:Int) (p7:List Int) (q8:List Int) (z9:Bool), [Zae (u64 (NotT.r (SprT.no s))),Zae (i64 z3),Zae (i64 ((Zab (AAc9 (SprT.ps s)):Nat):Int)),Zae (Zai 1 p),Zae (Zai 1 q)]=(Qz51 r4 n5 i6 p7 q8)∧z9=ACw9 r4 n5 i6 p7 q8∧BIf (!z9) (R (.tup [Zbc Qz3,Zae (i64 12)]) b) (∃(s10:SprT) (p11:List (List Dv)) (q12:List (List Dv)),Zax lp22=Zax lp22∧(Qz37 p q)=(Qz37 p11 q12)∧(some (Blk.mk (Qz1 s) false false 0)=some (Blk.mk (Qz1 s10) false false 0)∧some (Qz6 s)=some (Qz6 s10)∧3=3)∧(Zab (SprT.ps s10)≤1000000∧(∀(x:List Int),x∈SprT.ps s10→Zab x≤1000000)∧(∀(x:List Int),x∈SprT.qs s10→Zab x≤1000000)∧Zab (SprT.qs s10)=Zab (SprT.ps s10))∧∀(i:Int),BIf (decide (Zab p11*1≤140737488355328)) (BIf (decide (Zab q12*8≤140737488355328)) (BIf (true&&decide ((Zab (AAc9 (SprT.ps s10))+1)*24≤140737488355328)) (BIf (true&&decide ((Zab (AAe9 (SprT.qs s10))+1)*24≤140737488355328)) (R (.tup [Zbc [Zae (i64 (NotT.v (SprT.no s10))),Zae (i64 (NotT.n (SprT.no s10))),Zae (u64 (NotT.r (SprT.no s10))),Zae (i64 (NotT.t (SprT.no s10))),Zae (Zai 1 (AAc9 (SprT.ps s10)++ [[Zai 1 p11]])),Zae (Zai 1 (AAe9 (SprT.qs s10)++ [[Zai 1 q12]])),Zae (Zfa (.slice none 0 0)),Zae (Zfa (.slice none 0 0)),Zae (i64 (SprT.i1 s10)),Zae (i64 (SprT.i2 s10)),Zae (i64 (SprT.i3 s10)),Zae (i64 (SprT.i4 s10)),Zae (i64 (SprT.i5 s10))],Zae (i64 0)]) b) False) False) False) False))))):=by kernel_rfl
theorem CGi9 (s:SprT) (p q:List Int) (hl:s.ps.length≤9223372036854775807) (hq:q.length≤1000000) (hqs:∀x∈s.qs,x.length≤1000000):
   PCall prog 60 [spV s, .d (.sl 1 (AAa9 p)), .d (.sl 1 (digR q))] (.tup [spV (putS s p q).1, .d (i64 (putS s p q).2)]):=by
 refine Zck (n:=100) (u:=false) (fun _=>wl22) mixed CLs9 Zac (fun Ev=>BYu9) func60 (by rfl) (by rfl) fun Ev bb=> ?_
 rw [CAb9]
 have bad:∀e:Int,putS s p q=(BAh9,e)→LeV (AV.tup [Zbc [Zae (i64 (0:Int)),Zae (i64 (0:Int)),Zae (u64 (0:Int)),Zae (i64 (0:Int)),Zae (Zfa (Zbp none 0 0)),Zae (Zfa (Zbp none 0 0)),Zae (Zfa (Zbp none 0 0)),Zae (Zfa (Zbp none 0 0)),Zae (i64 (0:Int)),Zae (i64 (0:Int)),Zae (i64 (0:Int)),Zae (i64 (0:Int)),Zae (i64 (0:Int))],Zae (i64 e)])
     (.tup [spV (putS s p q).1, .d (i64 (putS s p q).2)]):=by
   intro e he
   rw [he]
   exact LeV.tups (.cons (LeV.aggs (.cons .rfl (.cons .rfl (.cons .rfl (.cons .rfl (.cons (.nil rfl) (.cons (.nil rfl) (.cons (.nil rfl) (.cons (.nil rfl) (Zen _)))))))))) (.cons .rfl .nil))
 have good:∀ps' qs',putS s p q=(⟨s.no,ps',qs', [], [],s.i1,s.i2,s.i3,s.i4,s.i5⟩,0)→LeV (AV.tup [Zbc [.d (i64 s.no.v), .d (i64 s.no.n), .d (u64 s.no.r), .d (i64 s.no.t), .d (.sl 1 (AAc9 ps')), .d (.sl 1 (AAe9 qs')),Zae (Zfa (Zbp none 0 0)),Zae (Zfa (Zbp none 0 0)), .d (i64 s.i1), .d (i64 s.i2), .d (i64 s.i3), .d (i64 s.i4), .d (i64 s.i5)],Zae (i64 0)])
     (.tup [spV (putS s p q).1, .d (i64 (putS s p q).2)]):=by
   intro ps' qs' he
   rw [he]
   exact LeV.tups (.cons (LeV.aggs (.cons .rfl (.cons .rfl (.cons .rfl (.cons .rfl (.cons .rfl (.cons .rfl (.cons (.nil rfl) (.cons (.nil rfl) (Zen _)))))))))) (.cons .rfl .nil))
 refine ⟨s,_,rfl,⟨hl,rfl⟩,Zaj (fun g=>bad 1 (by rw [putS,if_pos (.inl (by simpa using g))])) fun g1=>Zaj (fun g=>bad 1 (by rw [putS,if_pos (.inr (by rw [AAh9] at g;simp at g;omega))])) fun g2=>⟨_,_,rfl,rfl,Zaj (fun g=>bad 10 ?_) fun g3=>⟨_,_,_,p,q,_,rfl,rfl,Zaj (fun g=>bad 12 ?_) fun g4=> ?_⟩⟩⟩
 all_goals
   have h1:ABt9 s=true:=by simpa using g1
   have h2:p.length=256:=by rw [AAh9] at g2;simp at g2;omega
   have hn:¬(ABt9 s=false∨p.length≠256):=by rw [h1,h2];simp
 · rw [AAd9] at g
   rw [putS,if_neg hn,if_pos (by simpa using g)]
 · rw [AAd9] at g3 g
   rw [putS,if_neg hn,if_neg (by simpa using g3),if_pos (by unfold ABl9;simpa using g)]
 rw [AAd9] at g3
 obtain ⟨f1,f2,f3,f4,f5⟩:=AHa9 h1
 have h4:ABl9 s s.ps.length p q=true:=by rw [AAd9] at g4;unfold ABl9;simpa using g4
 have hput:putS s p q=(⟨s.no,s.ps++ [p],s.qs++ [q], [], [],s.i1,s.i2,s.i3,s.i4,s.i5⟩,0):=by
   rw [putS,if_neg hn,if_neg (by simpa using g3),if_neg (by rw [h4];simp)]
 refine ⟨s,AAa9 p,digR q,rfl,rfl,⟨rfl,rfl,rfl⟩,⟨by omega,fun x hx=>by rw [f3 x hx];decide,hqs,f2⟩,fun _=>Zbf (by rw [AAh9];simp<;>omega) (Zbf (by rw [AAn9];simp<;>omega) (Zbf (by simp [AAd9]<;>omega) (Zbf (by simp [AAs9]<;>omega) ?_)))⟩
 rw [AGn9,AFv9]
 exact good _ _ hput
def BIk9 (p:List Int):List (List Int)×Int:=if ACl9 p.length then (ADn9 p,0) else ([],1)
def BOz9 (args:List AV) (K:AV→Prop):Prop:=∃(p:List Int) (q:List (List Int)) (e:Int),args= [.d (.sl 1 (AAa9 p))]∧(p.length≤9223372036854775807∧(q,e)=BIk9 p)∧K (.tup [.d (.sl 1 (AAc9 q)), .d (i64 e)])
theorem BFy9:∀args K,BOz9 args K→∃x,PCall prog 27 args x∧K x:=by
 rintro _ K ⟨p,q,e,rfl,⟨hl,he⟩,h⟩
 have h1:=BOg9 p hl
 rw [BIk9] at he
 split at he
 · rename_i hz
   rw [if_pos hz] at h1
   cases he;exact ⟨_,h1,h⟩
 · rename_i hz
   rw [if_neg hz] at h1
   cases he;exact ⟨_,h1,h⟩
def smpF (i:Nat):Int:=Zaa .u8 (Zaa .i64 ((i:Int)*7))
def smp:List Int:=(Zbn 300).map smpF
structure TrT where
 iv:Int
 bg:Int
 fi:Int
 ct:Int
 sd:Int
def trL (t:TrT):List AV:= [.d (i64 t.iv), .d (i64 t.bg), .d (i64 t.fi), .d (i64 t.ct), .d (i64 t.sd)]
def trV (t:TrT):AV:= .agg (trL t)
def trB (t:TrT):Blk:=⟨trL t,false,false,0⟩
def noL (n:NotT):List AV:= [.d (i64 n.v), .d (i64 n.n), .d (u64 n.r), .d (i64 n.t)]
def spL (s:SprT):List AV:= [.d (i64 s.no.v), .d (i64 s.no.n), .d (u64 s.no.r), .d (i64 s.no.t), .d (.sl 1 (AAc9 s.ps)), .d (.sl 1 (AAe9 s.qs)), .d (.sl 2 s.rows), .d (.sl 1 (digR s.pf)), .d (i64 s.i1), .d (i64 s.i2), .d (i64 s.i3), .d (i64 s.i4), .d (i64 s.i5)]
def inS (n lo hi:Int):Bool:=decide (lo≤n)&&decide (n≤hi)
theorem in_nf (n lo hi:Int):wpFn prog ⟨[], [],wl,y,false⟩ 100 f186 [.d (i64 n), .d (i64 lo), .d (i64 hi)] b R=(BIf (decide (n≥lo)) (R (Zae (bo (decide (n≤hi)))) b) (R (Zae (bo false)) b)):=by kernel_rfl
theorem pcIn (n lo hi:Int):PCall prog 186 [.d (i64 n), .d (i64 lo), .d (i64 hi)] (.d (bo (inS n lo hi))):=by
 refine Zaz (n:=100) (u:=false) mixed Zah Zac func186 (by rfl) (by rfl) fun Ev bb=> ?_
 rw [in_nf]
 have e:inS n lo hi=(decide (n≥lo)&&decide (n≤hi)):=rfl
 rw [e]
 exact Zaj (fun h=>by rw [h];rfl) fun h=>by rw [h];rfl
def cIn (args:List AV) (K:AV→Prop):Prop:=∃(n lo hi:Int),args= [.d (i64 n), .d (i64 lo), .d (i64 hi)]∧K (.d (bo (inS n lo hi)))
theorem CDz9:∀args K,cIn args K→∃x,PCall prog 186 args x∧K x:=by
 rintro _ K ⟨n,lo,hi,rfl,h⟩;exact ⟨_,pcIn n lo hi,h⟩
def TIn:List (Nat×(List AV→(AV→Prop)→Prop)):= [(186,cIn)]
theorem CFc9:AAf9 prog TIn:=Zaf CDz9 Zah
def ADm9 (x:Int):Bool:=inS x 0 1000000000
def ABn9 (x:Int):Bool:=inS x 0 999999984
theorem BQw9 (n:Int):wpFn prog ⟨TIn, [],wl,y,false⟩ 100 f140 [.d (i64 n)] b R=(∃(n0:Int) (lo1:Int) (hi2:Int), [Zae (i64 n),Zae (i64 0),Zae (i64 1000000000)]= [Zae (i64 n0),Zae (i64 lo1),Zae (i64 hi2)]∧R (.d (bo (inS n0 lo1 hi2))) b):=by kernel_rfl
theorem BUr9 (n:Int):wpFn prog ⟨TIn, [],wl,y,false⟩ 100 f135 [.d (i64 n)] b R=(∃(n0:Int) (lo1:Int) (hi2:Int), [Zae (i64 n),Zae (i64 0),Zae (i64 999999984)]= [Zae (i64 n0),Zae (i64 lo1),Zae (i64 hi2)]∧R (.d (bo (inS n0 lo1 hi2))) b):=by kernel_rfl
theorem CAi9 (n:Int):PCall prog 140 [.d (i64 n)] (.d (bo (ADm9 n))):=by
 refine Zaz (n:=100) (u:=false) mixed CFc9 Zac func140 (by rfl) (by rfl) fun Ev bb=> ?_
 rw [BQw9]
 exact ⟨_,_,_,rfl,rfl⟩
theorem CBh9 (n:Int):PCall prog 135 [.d (i64 n)] (.d (bo (ABn9 n))):=by
 refine Zaz (n:=100) (u:=false) mixed CFc9 Zac func135 (by rfl) (by rfl) fun Ev bb=> ?_
 rw [BUr9]
 exact ⟨_,_,_,rfl,rfl⟩
def BVi9 (args:List AV) (K:AV→Prop):Prop:=∃(n:Int),args= [.d (i64 n)]∧K (.d (bo (ADm9 n)))
def BWb9 (args:List AV) (K:AV→Prop):Prop:=∃(n:Int),args= [.d (i64 n)]∧K (.d (bo (ABn9 n)))
theorem AXn9:∀args K,BVi9 args K→∃x,PCall prog 140 args x∧K x:=by
 rintro _ K ⟨n,rfl,h⟩;exact ⟨_,CAi9 n,h⟩
theorem AXy9:∀args K,BWb9 args K→∃x,PCall prog 135 args x∧K x:=by
 rintro _ K ⟨n,rfl,h⟩;exact ⟨_,CBh9 n,h⟩
def TIv:List (Nat×(List AV→(AV→Prop)→Prop)):= [(186,cIn),(135,BWb9),(140,BVi9)]
theorem CLj9:AAf9 prog TIv:=Zaf CDz9 (Zaf AXy9 (Zaf AXn9 Zah))
def TFi:List (Nat×(List AV→(AV→Prop)→Prop)):= [(153,c58)]
theorem CLm9:AAf9 prog TFi:=Zaf CEf9 Zah
abbrev Qz38 (v0:Int) (v1:Int) (v2:Int):List AV:= [Zae (i64 v0),Zae (i64 v1),Zae (i64 v2)]
theorem BEk9 (t:TrT):wpFn prog ⟨TIv, [],wl,y,false⟩ 100 f134 [trV t] b R=(∃(n0:Int) (lo1:Int) (hi2:Int), [Zae (i64 (TrT.iv t)),Zae (i64 1),Zae (i64 8)]=(Qz38 n0 lo1 hi2)∧BIf (!inS n0 lo1 hi2) (R (.d (bo false)) b) (BIf (Zaa .i64 ((BitVec.toNat (Zar 64 (TrT.iv t)&&&Zar 64 (Zaa .i64 (TrT.iv t - (1:Int)))):Nat):Int) !=(0:Int)) (R (.d (bo false)) b) (∃(n3:Int), [Zae (i64 (TrT.bg t))]= [Zae (i64 n3)]∧BIf (!ABn9 n3) (R (.d (bo false)) b) (∃(n4:Int), [Zae (i64 (TrT.sd t))]= [Zae (i64 n4)]∧BIf (!ADm9 n4) (R (.d (bo false)) b) (∃(n5:Int) (lo6:Int) (hi7:Int), [Zae (i64 (TrT.fi t)),Zae (i64 (Zaa .i64 (TrT.bg t+Zaa .i64 (Zbq (TrT.iv t) (2:Int))))),Zae (i64 (Zaa .i64 (Zaa .i64 (TrT.bg t+TrT.iv t) - (1:Int))))]=(Qz38 n5 lo6 hi7)∧BIf (inS n5 lo6 hi7) (∃(n8:Int) (lo9:Int) (hi10:Int), [Zae (i64 (TrT.ct t)),Zae (i64 0),Zae (i64 100)]=(Qz38 n8 lo9 hi10)∧R (.d (bo (inS n8 lo9 hi10))) b) (R (.d (bo false)) b)))))):=by kernel_rfl
theorem BWm9 (s n:Int):wpFn prog ⟨TFi, [],wl,y,false⟩ 100 f187 [.d (u64 s), .d (i64 n)] b R=(BIf (decide (n<(1:Int))) (R (.d (i64 0)) b) (BIf (decide (n>(1000000000:Int))) (R (.d (i64 0)) b) (∃(x0:Int), [Zae (u64 s)]= [Zae (u64 x0)]∧BIf (decide (n=(0:Int))||false) False (R (.d (i64 (Zdv (AKd9 x0) n))) b)))):=by kernel_rfl
def ABf9 (t:TrT):Bool:=(decide (t.iv=1)||decide (t.iv=2)||decide (t.iv=4)||decide (t.iv=8))&&ABn9 t.bg&&ADm9 t.sd&&(decide (t.bg+t.iv / 2≤t.fi)&&decide (t.fi≤t.bg+t.iv - 1))&&inS t.ct 0 100
theorem ACg9 {n lo hi:Int}:inS n lo hi=true↔lo≤n∧n≤hi:=by simp [inS]
theorem BOf9 {n:Int} (h:inS n 1 8=true):(Zaa Zap ((BitVec.toNat (Zar 64 n&&&Zar 64 (Zaa Zap (n - 1))):Nat):Int) !=0)= !(decide (n=1)||decide (n=2)||decide (n=4)||decide (n=8)):=by
 rw [ACg9] at h
 obtain ⟨h1,h2⟩:=h
 have:n=1∨n=2∨n=3∨n=4∨n=5∨n=6∨n=7∨n=8:=by omega
 rcases this with rfl|rfl|rfl|rfl|rfl|rfl|rfl|rfl<;>rfl
theorem CBu9 {n:Int} (h:inS n 1 8=false):(decide (n=1)||decide (n=2)||decide (n=4)||decide (n=8))=false:=by
 have h':¬(1≤n∧n≤8):=fun hc=>by rw [ACg9.2 hc] at h;cases h
 simp only [Bool.or_eq_false_iff,decide_eq_false_iff_not]
 omega
theorem ABh9 {t:TrT}:ABf9 t=true↔(t.iv=1∨t.iv=2∨t.iv=4∨t.iv=8)∧(0≤t.bg∧t.bg≤999999984)∧(0≤t.sd∧t.sd≤1000000000)∧(t.bg+t.iv / 2≤t.fi∧t.fi≤t.bg+t.iv - 1)∧0≤t.ct∧t.ct≤100:=by
 simp only [ABf9,Zan,Bool.or_eq_true,decide_eq_true_eq,ABn9,ADm9,ACg9,and_assoc,or_assoc]
theorem nbt {x:Bool} (h:(!x)=true):x=false:=by cases x<;>first|rfl|cases h
theorem nbf {x:Bool} (h:(!x)=false):x=true:=by cases x<;>first|rfl|cases h
theorem wr64 {x:Int} (h1: -9223372036854775808≤x) (h2:x≤9223372036854775807):Zaa .i64 x=x:=AAl9 h1 (by omega)
theorem BJw9 (t:TrT):PCall prog 134 [trV t] (.d (bo (ABf9 t))):=by
 refine Zaz (n:=100) (u:=false) mixed CLj9 Zac func134 (by rfl) (by rfl) fun Ev bb=> ?_
 rw [BEk9]
 refine ⟨_,_,_,rfl,Zaj (fun g=> ?_) fun g1=>Zaj (fun g=> ?_) fun g2=>⟨_,rfl,Zaj (fun g=> ?_) fun g3=>⟨_,rfl,Zaj (fun g=> ?_) fun g4=>⟨_,_,_,rfl, ?_⟩⟩⟩⟩
 · have g:inS t.iv 1 8=false:=by simpa using g
   rw [show ABf9 t=false by simp only [ABf9,CBu9 g,Bool.false_and]]
 · have g1:inS t.iv 1 8=true:=by simpa using g1
   rw [BOf9 g1] at g
   rw [show ABf9 t=false by simp only [ABf9,nbt g,Bool.false_and]]
 · rw [show ABf9 t=false by simp only [ABf9,nbt g,Bool.false_and,Zdk]]
 · rw [show ABf9 t=false by simp only [ABf9,nbt g,Bool.false_and,Zdk]]
 · have g1:inS t.iv 1 8=true:=by simpa using g1
   rw [BOf9 g1] at g2
   have g3:ABn9 t.bg=true:=by simpa using g3
   have g4:ADm9 t.sd=true:=by simpa using g4
   have g2:(decide (t.iv=1)||decide (t.iv=2)||decide (t.iv=4)||decide (t.iv=8))=true:=nbf g2
   have b1:=ACg9.1 g1
   have b3:=ACg9.1 g3
   have e1:Zaa Zap (t.bg+Zaa Zap (Zbq t.iv 2))=t.bg+t.iv / 2:=by
     rw [Zdf (by omega),wr64 (x:=t.iv / 2) (by omega) (by omega),wr64 (by omega) (by omega)]
   have e2:Zaa Zap (Zaa Zap (t.bg+t.iv) - 1)=t.bg+t.iv - 1:=by
     rw [wr64 (x:=t.bg+t.iv) (by omega) (by omega),wr64 (by omega) (by omega)]
   have ev:ABf9 t=(inS t.fi (t.bg+t.iv / 2) (t.bg+t.iv - 1)&&inS t.ct 0 100):=by
     simp only [ABf9,g2,g3,g4,Bool.true_and];rfl
   rw [e1,e2,ev]
   refine Zaj (fun h=> ?_) fun h=> ?_
   · rw [h,Bool.true_and];exact ⟨_,_,_,rfl,rfl⟩
   · rw [h];rfl
def BGy9 (args:List AV) (K:AV→Prop):Prop:=∃(t:TrT),args= [trV t]∧K (.d (bo (ABf9 t)))
theorem AZz9:∀args K,BGy9 args K→∃x,PCall prog 134 args x∧K x:=by
 rintro _ K ⟨n,rfl,h⟩;exact ⟨_,BJw9 n,h⟩
def AFn9 (s n:Int):Int:=if n<1∨n>1000000000 then 0 else Zdv (AKd9 s) n
theorem CBn9 (s n:Int):PCall prog 187 [.d (u64 s), .d (i64 n)] (.d (i64 (AFn9 s n))):=by
 refine Zaz (n:=100) (u:=false) mixed CLm9 Zac func187 (by rfl) (by rfl) fun Ev bb=> ?_
 rw [BWm9]
 refine Zaj (fun h=> ?_) fun h1=>Zaj (fun h=> ?_) fun h2=>⟨_,rfl,Zct ?_ ?_⟩
 · rw [AFn9,if_pos (.inl (of_decide_eq_true h))]
 · rw [AFn9,if_pos (.inr (of_decide_eq_true h))]
 · have h1:=of_decide_eq_false h1
   simp;omega
 · have h1:=of_decide_eq_false h1
   have h2:=of_decide_eq_false h2
   rw [AFn9,if_neg (by omega)]
def CEe9 (args:List AV) (K:AV→Prop):Prop:=∃(s n:Int),args= [.d (u64 s), .d (i64 n)]∧K (.d (i64 (AFn9 s n)))
theorem BMr9:∀args K,CEe9 args K→∃x,PCall prog 187 args x∧K x:=by
 rintro _ K ⟨s,n,rfl,h⟩;exact ⟨_,CBn9 s n,h⟩
def TBe:List (Nat×(List AV→(AV→Prop)→Prop)):= [(187,CEe9)]
theorem CFf9:AAf9 prog TBe:=Zaf BMr9 Zah
theorem BMx9 (b0:Blk) (t:TrT) (l f:Int):wpc prog ⟨TBe, [],wl,y,false⟩ 100 (code f136) (ABc9 f136 [.ptr 1 0, .d (i64 l), .d (i64 f)]) [b0,trB t] b (fnKS prog f136 RS)=(∃(s0:Int) (n1:Int), [Zae (u64 (Zaa .u64 (Zaa .u64 ((1000003:Int)*Zaa .u64 (TrT.sd t))+Zaa .u64 f))),Zae (i64 (Zaa .i64 (l - Zaa .i64 (Zbq l (2:Int)))))]= [Zae (u64 s0),Zae (i64 n1)]∧RS (AV.tup []) [b0,Blk.mk [Zae (i64 l),Zae (i64 f),Zae (i64 (Zaa .i64 (Zaa .i64 (f+Zaa .i64 (Zbq l (2:Int)))+AFn9 s0 n1))),Zae (i64 0),Zae (i64 (TrT.sd t))] false false 0] b):=by kernel_rfl
theorem BMw9 (b0 b1:Blk) (t:TrT) (l f:Int):wpc prog ⟨TBe, [],wl,y,false⟩ 100 (code f136) (ABc9 f136 [.ptr 2 0, .d (i64 l), .d (i64 f)]) [b0,b1,trB t] b (fnKS prog f136 RS)=(∃(s0:Int) (n1:Int), [Zae (u64 (Zaa .u64 (Zaa .u64 ((1000003:Int)*Zaa .u64 (TrT.sd t))+Zaa .u64 f))),Zae (i64 (Zaa .i64 (l - Zaa .i64 (Zbq l (2:Int)))))]= [Zae (u64 s0),Zae (i64 n1)]∧RS (AV.tup []) [b0,b1,Blk.mk [Zae (i64 l),Zae (i64 f),Zae (i64 (Zaa .i64 (Zaa .i64 (f+Zaa .i64 (Zbq l (2:Int)))+AFn9 s0 n1))),Zae (i64 0),Zae (i64 (TrT.sd t))] false false 0] b):=by kernel_rfl
theorem AIa9 (s:Int) {n:Int} (h1:1≤n) (h2:n≤1000000000):0≤AFn9 s n∧AFn9 s n<n:=by
 have h:=AMc9 s
 rw [AFn9,if_neg (by omega),Int.tmod_eq_emod_of_nonneg h.1]
 exact ⟨Int.emod_nonneg _ (by omega),Int.emod_lt_of_pos _ (by omega)⟩
def AEf9 (sd l f:Int):TrT:=⟨l,f,f+l / 2+AFn9 (1000003*sd+f) (l - l / 2),0,sd⟩
def lenS (l:Int):Prop:=l=1∨l=2∨l=4∨l=8
theorem BAb9 {sd l f:Int} (hl:lenS l) (hf:ABn9 f=true) (hs:ADm9 sd=true):ABf9 (AEf9 sd l f)=true:=by
 have hf:=ACg9.1 hf
 have hs:=ACg9.1 hs
 unfold lenS at hl
 have hb:=AIa9 (1000003*sd+f) (n:=l - l / 2) (by omega) (by omega)
 rw [ABh9]
 refine ⟨hl,hf,hs,⟨?_, ?_⟩,by simp [AEf9],by simp [AEf9]⟩<;>(simp only [AEf9];omega)
theorem AUx9 {sd l f:Int} (hl:lenS l) (hf:ABn9 f=true) (hs:ADm9 sd=true):
   Zaa IntKind.u64 (Zaa IntKind.u64 (1000003*Zaa IntKind.u64 sd)+Zaa IntKind.u64 f)=1000003*sd+f∧
   Zaa Zap (l - Zaa Zap (Zbq l 2))=l - l / 2∧
   Zaa Zap (Zaa Zap (f+Zaa Zap (Zbq l 2))+AFn9 (1000003*sd+f) (l - l / 2))=f+l / 2+AFn9 (1000003*sd+f) (l - l / 2):=by
 have hf:=ACg9.1 hf
 have hs:=ACg9.1 hs
 unfold lenS at hl
 have hb:=AIa9 (1000003*sd+f) (n:=l - l / 2) (by omega) (by omega)
 have e1:Zaa Zap (Zbq l 2)=l / 2:=by
   rw [Zdf (by omega),wr64 (by omega) (by omega)]
 rw [e1]
 refine ⟨?_,wr64 (by omega) (by omega), ?_⟩
 · rw [ADp9 (x:=sd) (by omega) (by omega),ADp9 (x:=f) (by omega) (by omega),ADp9 (x:=1000003*sd) (by omega) (by omega),ADp9 (by omega) (by omega)]
 · rw [wr64 (x:=f+l / 2) (by omega) (by omega),wr64 (by omega) (by omega)]
theorem ATg9:Tryz.f136.body=some (code f136):=by rfl
theorem BRq9 (b0:Blk) (t:TrT) (l f:Int) (hl:lenS l) (hf:ABn9 f=true) (hs:ADm9 t.sd=true):SCall prog 136 [.ptr 1 0, .d (i64 l), .d (i64 f)] [b0,trB t] (.tup []) [b0,trB (AEf9 t.sd l f)]:=by
 refine SCall.ofWp (n:=100) (u:=false) mixed CFf9 Zac func136 ATg9 (by rfl) fun Ev b=> ?_
 rw [BMx9]
 obtain ⟨e1,e2,e3⟩:=AUx9 hl hf hs
 rw [e1,e2]
 refine ⟨_,_,rfl,rfl, ?_⟩
 rw [e3];rfl
theorem BRp9 (b0 b1:Blk) (t:TrT) (l f:Int) (hl:lenS l) (hf:ABn9 f=true) (hs:ADm9 t.sd=true):SCall prog 136 [.ptr 2 0, .d (i64 l), .d (i64 f)] [b0,b1,trB t] (.tup []) [b0,b1,trB (AEf9 t.sd l f)]:=by
 refine SCall.ofWp (n:=100) (u:=false) mixed CFf9 Zac func136 ATg9 (by rfl) fun Ev b=> ?_
 rw [BMw9]
 obtain ⟨e1,e2,e3⟩:=AUx9 hl hf hs
 rw [e1,e2]
 refine ⟨_,_,rfl,rfl, ?_⟩
 rw [e3];rfl
def BRw9 (args:List AV) (hp:List Blk) (K:AV→List Blk→Prop):Prop:=match hp with
 | [b0,b1]=>∃(t:TrT) (l f:Int),args= [.ptr 1 0, .d (i64 l), .d (i64 f)]∧b1=trB t∧(lenS l∧ABn9 f=true∧ADm9 t.sd=true)∧K (.tup []) [b0,trB (AEf9 t.sd l f)]
 | [b0,b1,b2]=>∃(t:TrT) (l f:Int),args= [.ptr 2 0, .d (i64 l), .d (i64 f)]∧b2=trB t∧(lenS l∧ABn9 f=true∧ADm9 t.sd=true)∧K (.tup []) [b0,b1,trB (AEf9 t.sd l f)]
 |_=>False
theorem BIt9:∀args hp K,BRw9 args hp K→∃x hp',SCall prog 136 args hp x hp'∧K x hp':=by
 intro args hp K h
 unfold BRw9 at h
 split at h
 · obtain ⟨t,l,f,rfl,rfl,⟨h1,h2,h3⟩,h⟩:=h
   exact ⟨_,_,BRq9 _ t l f h1 h2 h3,h⟩
 · obtain ⟨t,l,f,rfl,rfl,⟨h1,h2,h3⟩,h⟩:=h
   exact ⟨_,_,BRp9 _ _ t l f h1 h2 h3,h⟩
 · exact h.elim
def TTi:List (Nat×(List AV→(AV→Prop)→Prop)):= [(140,BVi9),(135,BWb9),(134,BGy9)]
theorem BNb9:AAf9 prog TTi:=Zaf AXn9 (Zaf AXy9 (Zaf AZz9 Zah))
def STi:List (Nat×(List AV→List Blk→(AV→List Blk→Prop)→Prop)):= [(136,BRw9)]
theorem BNi9:AAk9 prog STi:=Zci BIt9 Zac
abbrev Qz16:List AV:= [Zbc [Zae (i64 0),Zae (i64 0),Zae (i64 0),Zae (i64 0),Zae (i64 0)],Zae (i64 1)]
theorem BZj9 (s f:Int):wpFn prog ⟨TTi,STi,wl,y,false⟩ 100 f72 [.d (i64 s), .d (i64 f)] b R=(∃(n0:Int), [Zae (i64 s)]= [Zae (i64 n0)]∧BIf (!ADm9 n0) (R (.tup Qz16) b) (∃(n1:Int), [Zae (i64 f)]= [Zae (i64 n1)]∧BIf (!ABn9 n1) (R (.tup Qz16) b) (∃(t2:TrT) (l3:Int) (f4:Int), [Zbe 1 0,Zae (i64 1),Zae (i64 f)]= [Zbe 1 0,Zae (i64 l3),Zae (i64 f4)]∧Blk.mk [Zae (i64 0),Zae (i64 0),Zae (i64 0),Zae (i64 0),Zae (i64 s)] false false 0=Blk.mk (trL t2) false false 0∧((l3=(1:Int)∨l3=(2:Int)∨l3=(4:Int)∨l3=(8:Int))∧ABn9 f4=true∧ADm9 (TrT.sd t2)=true)∧R (.tup [Zbc (trL (AEf9 (TrT.sd t2) l3 f4)),Zae (i64 0)]) b))):=by kernel_rfl
theorem BIb9 (t:TrT) (f:Int):wpFn prog ⟨TTi,STi,wl,y,false⟩ 100 f73 [trV t, .d (i64 f)] b R=(∃(t0:TrT), [Zbc (trL t)]= [Zbc (trL t0)]∧BIf (!ABf9 t0) (R (.agg (trL t)) b) (∃(n1:Int), [Zae (i64 f)]= [Zae (i64 n1)]∧BIf (!ABn9 n1) (R (.agg (trL t)) b) (BIf (TrT.iv t==(1:Int)) (R (.agg (trL t)) b) (∃(t2:TrT) (l3:Int) (f4:Int), [Zbe 2 0,Zae (i64 1),Zae (i64 f)]= [Zbe 2 0,Zae (i64 l3),Zae (i64 f4)]∧Blk.mk (trL t) false false 0=Blk.mk (trL t2) false false 0∧((l3=(1:Int)∨l3=(2:Int)∨l3=(4:Int)∨l3=(8:Int))∧ABn9 f4=true∧ADm9 (TrT.sd t2)=true)∧R (.agg (trL (AEf9 (TrT.sd t2) l3 f4))) b)))):=by kernel_rfl
theorem BRc9 (t:TrT):wpFn prog ⟨TTi,STi,wl,y,false⟩ 100 f74 [trV t] b R=(∃(t0:TrT), [Zbc (trL t)]= [Zbc (trL t0)]∧BIf (ABf9 t0) (∃(z1:Int),(z1=if Zaa .i64 (TrT.ct t+(1:Int))<(100:Int) then Zaa .i64 (TrT.ct t+(1:Int)) else (100:Int))∧R (.agg [Zae (i64 (TrT.iv t)),Zae (i64 (TrT.bg t)),Zae (i64 (TrT.fi t)),Zae (i64 z1),Zae (i64 (TrT.sd t))]) b) (R (.agg (trL t)) b)):=by kernel_rfl
theorem BRa9 (t:TrT) (f:Int):wpFn prog ⟨TTi,STi,wl,y,false⟩ 100 f63 [trV t, .d (i64 f)] b R=(∃(t0:TrT), [Zbc (trL t)]= [Zbc (trL t0)]∧BIf (!ABf9 t0) (R (.tup [Zbc (trL t),Zae (bo false)]) b) (∃(n1:Int), [Zae (i64 f)]= [Zae (i64 n1)]∧BIf (!ABn9 n1) (R (.tup [Zbc (trL t),Zae (bo false)]) b) (BIf (decide (f<TrT.bg t)) (R (.tup [Zbc (trL t),Zae (bo false)]) b) (BIf (decide (f≥Zaa .i64 (TrT.bg t+TrT.iv t))) (∃(z2:Int),(z2=if Zaa .i64 ((2:Int)*TrT.iv t)<(8:Int) then Zaa .i64 ((2:Int)*TrT.iv t) else (8:Int))∧∃(t3:TrT) (l4:Int) (f5:Int), [Zbe 2 0,Zae (i64 z2),Zae (i64 f)]= [Zbe 2 0,Zae (i64 l4),Zae (i64 f5)]∧Blk.mk (trL t) false false 0=Blk.mk (trL t3) false false 0∧((l4=(1:Int)∨l4=(2:Int)∨l4=(4:Int)∨l4=(8:Int))∧ABn9 f5=true∧ADm9 (TrT.sd t3)=true)∧BIf (f==TrT.fi (AEf9 (TrT.sd t3) l4 f5)) (R (.tup [Zbc (trL (AEf9 (TrT.sd t3) l4 f5)),Zae (bo true)]) b) (R (.tup [Zbc (trL (AEf9 (TrT.sd t3) l4 f5)),Zae (bo false)]) b)) (BIf (f==TrT.fi t) (R (.tup [Zbc (trL t),Zae (bo (decide (TrT.ct t<(2:Int))))]) b) (R (.tup [Zbc (trL t),Zae (bo false)]) b)))))):=by kernel_rfl
def zeroT:TrT:=⟨0,0,0,0,0⟩
def newT (s f:Int):TrT×Int:=if ADm9 s&&ABn9 f then (AEf9 s 1 f,0) else (zeroT,1)
def ACs9 (t:TrT) (f:Int):TrT:=if ABf9 t&&ABn9 f&& !(t.iv==1) then AEf9 t.sd 1 f else t
def hearT (t:TrT):TrT:=if ABf9 t then ⟨t.iv,t.bg,t.fi,min 100 (t.ct+1),t.sd⟩ else t
def AFl9 (t:TrT) (f:Int):TrT:=if t.bg+t.iv≤f then AEf9 t.sd (min 8 (2*t.iv)) f else t
def tickT (t:TrT) (f:Int):TrT×Bool:=if ABf9 t&&ABn9 f&&decide (t.bg≤f) then (AFl9 t f,f==(AFl9 t f).fi&&decide ((AFl9 t f).ct<2)) else (t,false)
theorem CGc9 (s f:Int):PCall prog 72 [.d (i64 s), .d (i64 f)] (.tup [trV (newT s f).1, .d (i64 (newT s f).2)]):=by
 refine Zaz (n:=100) (u:=false) mixed BNb9 BNi9 func72 (by rfl) (by rfl) fun Ev bb=> ?_
 rw [BZj9]
 refine ⟨_,rfl,Zaj (fun g=> ?_) fun g1=>⟨_,rfl,Zaj (fun g=> ?_) fun g2=> ?_⟩⟩
 · rw [newT,nbt g];rfl
 · rw [newT,nbt g,Zdk];rfl
 · refine ⟨⟨0,0,0,0,s⟩,_,_,rfl,rfl,⟨.inl rfl,nbf g2,nbf g1⟩, ?_⟩
   rw [newT,nbf g1,nbf g2];rfl
def cTNew (args:List AV) (K:AV→Prop):Prop:=∃(s f:Int) (z:TrT) (e:Int),args= [.d (i64 s), .d (i64 f)]∧(z,e)=newT s f∧K (.tup [trV z, .d (i64 e)])
theorem BVk9:∀args K,cTNew args K→∃x,PCall prog 72 args x∧K x:=by
 rintro _ K ⟨s,f,z,e,rfl,he,h⟩
 have:=CGc9 s f
 rw [←he] at this
 exact ⟨_,this,h⟩
theorem AVw9 {t:TrT} (h:ABf9 t=true):ADm9 t.sd=true:=ACg9.2 (ABh9.1 h).2.2.1
theorem BSo9 (t:TrT) (f:Int):PCall prog 73 [trV t, .d (i64 f)] (trV (ACs9 t f)):=by
 refine Zaz (n:=100) (u:=false) mixed BNb9 BNi9 func73 (by rfl) (by rfl) fun Ev bb=> ?_
 rw [BIb9]
 refine ⟨t,rfl,Zaj (fun g=> ?_) fun g1=>⟨_,rfl,Zaj (fun g=> ?_) fun g2=>Zaj (fun g=> ?_) fun g3=> ?_⟩⟩
 · rw [ACs9,nbt g];rfl
 · rw [ACs9,nbt g,Zdk];rfl
 · rw [ACs9,g,Bool.not_true,Zdk];rfl
 · refine ⟨t,_,_,rfl,rfl,⟨.inl rfl,nbf g2,AVw9 (nbf g1)⟩, ?_⟩
   rw [ACs9,nbf g1,nbf g2,g3];rfl
def BOy9 (args:List AV) (K:AV→Prop):Prop:=∃(t:TrT) (f:Int) (z:TrT),args= [trV t, .d (i64 f)]∧z=ACs9 t f∧K (trV z)
theorem BFu9:∀args K,BOy9 args K→∃x,PCall prog 73 args x∧K x:=by
 rintro _ K ⟨t,f,_,rfl,rfl,h⟩;exact ⟨_,BSo9 t f,h⟩
theorem CAl9 (t:TrT):PCall prog 74 [trV t] (trV (hearT t)):=by
 refine Zaz (n:=100) (u:=false) mixed BNb9 BNi9 func74 (by rfl) (by rfl) fun Ev bb=> ?_
 rw [BRc9]
 refine ⟨t,rfl,Zaj (fun g=>⟨_,rfl, ?_⟩) fun g=> ?_⟩
 · have h:=ABh9.1 g
   rw [hearT,g,if_pos rfl,wr64 (by omega) (by omega)]
   have e:(if t.ct+1<100 then t.ct+1 else 100)=min 100 (t.ct+1):=by omega
   rw [e];rfl
 · rw [hearT,g];rfl
def BVl9 (args:List AV) (K:AV→Prop):Prop:=∃(t z:TrT),args= [trV t]∧z=hearT t∧K (trV z)
theorem AXp9:∀args K,BVl9 args K→∃x,PCall prog 74 args x∧K x:=by
 rintro _ K ⟨t,_,rfl,rfl,h⟩;exact ⟨_,CAl9 t,h⟩
theorem AVq9 {t:TrT} {f:Int} (h:ABf9 t=true) (hf:ABn9 f=true):Zaa .i64 (t.bg+t.iv)=t.bg+t.iv∧(if Zaa Zap (2*t.iv)<8 then Zaa Zap (2*t.iv) else 8)=min 8 (2*t.iv)∧lenS (min 8 (2*t.iv)):=by
 have h:=ABh9.1 h
 refine ⟨wr64 (by omega) (by omega), ?_, ?_⟩
 · rw [wr64 (by omega) (by omega)];omega
 · unfold lenS;omega
theorem CAh9 (t:TrT) (f:Int):PCall prog 63 [trV t, .d (i64 f)] (.tup [trV (tickT t f).1, .d (bo (tickT t f).2)]):=by
 refine Zaz (n:=100) (u:=false) mixed BNb9 BNi9 func63 (by rfl) (by rfl) fun Ev bb=> ?_
 rw [BRa9]
 refine ⟨t,rfl,Zaj (fun g=> ?_) fun g1=>⟨_,rfl,Zaj (fun g=> ?_) fun g2=>Zaj (fun g=> ?_) fun g3=> ?_⟩⟩
 · rw [tickT,nbt g];rfl
 · rw [tickT,nbt g,Zdk];rfl
 · have g:=of_decide_eq_true g
   rw [tickT,decide_eq_false (p:=t.bg≤f) (by omega),Zdk];rfl
 have g3:=of_decide_eq_false g3
 obtain ⟨e1,e2,e3⟩:=AVq9 (nbf g1) (nbf g2)
 have e:tickT t f=(AFl9 t f,f==(AFl9 t f).fi&&decide ((AFl9 t f).ct<2)):=by rw [tickT,nbf g1,nbf g2,decide_eq_true (p:=t.bg≤f) (by omega)];rfl
 rw [e,e1,e2]
 refine Zaj (fun g=> ?_) fun g=> ?_
 · have el:AFl9 t f=AEf9 t.sd (min 8 (2*t.iv)) f:=by rw [AFl9,if_pos (by simpa using g)]
   rw [el]
   refine ⟨_,rfl,t,_,_,rfl,rfl,⟨e3,nbf g2,AVw9 (nbf g1)⟩,Zaj (fun h=> ?_) fun h=> ?_⟩
   · rw [h];rfl
   · rw [h];rfl
 · have el:AFl9 t f=t:=by rw [AFl9,if_neg (by simpa using g)]
   rw [el]
   refine Zaj (fun h=> ?_) fun h=> ?_
   · rw [h];rfl
   · rw [h];rfl
def CDe9 (args:List AV) (K:AV→Prop):Prop:=∃(t:TrT) (f:Int) (z:TrT) (e:Bool),args= [trV t, .d (i64 f)]∧(z,e)=tickT t f∧K (.tup [trV z, .d (bo e)])
theorem BLv9:∀args K,CDe9 args K→∃x,PCall prog 63 args x∧K x:=by
 rintro _ K ⟨t,f,z,e,rfl,he,h⟩
 have:=CAh9 t f
 rw [←he] at this
 exact ⟨_,this,h⟩
def TRb:List (Nat×(List AV→(AV→Prop)→Prop)):= [(216,BVw9),(215,BWa9)]
theorem CLf9:AAf9 prog TRb:=Zaf AXw9 (Zaf AXx9 Zah)
theorem BMv9 (s n:Int):wpFn prog ⟨TRb, [],wl,y,false⟩ 100 f188 [.d (u64 s), .d (i64 n)] b R=(BIf (decide (n<(1:Int))) (R (.d (i64 0)) b) (BIf (decide (n>(1000000000:Int))) (R (.d (i64 0)) b) (∃(x0:Int), [Zae (u64 s)]= [Zae (u64 x0)]∧∃(x1:Int), [Zae (u64 (nextS x0))]= [Zae (u64 x1)]∧BIf (decide (n=(0:Int))||false) False (R (.d (i64 (Zdv (halfS x1) n))) b)))):=by kernel_rfl
theorem BJc9 (n:Int):wpFn prog ⟨[], [],wl,y,false⟩ 100 f26 [.d (i64 n)] b R=(BIf (decide (n≥(0:Int))) (R (Zae (bo (decide (n≤(999999984:Int))))) b) (R (Zae (bo false)) b)):=by kernel_rfl
theorem BTf9 (s n:Int):PCall prog 188 [.d (u64 s), .d (i64 n)] (.d (i64 (AFn9 s n))):=by
 refine Zaz (n:=100) (u:=false) mixed CLf9 Zac func188 (by rfl) (by rfl) fun Ev bb=> ?_
 rw [BMv9]
 refine Zaj (fun h=> ?_) fun h1=>Zaj (fun h=> ?_) fun h2=>⟨_,rfl,_,rfl,Zct ?_ ?_⟩
 · rw [AFn9,if_pos (.inl (of_decide_eq_true h))]
 · rw [AFn9,if_pos (.inr (of_decide_eq_true h))]
 · have h1:=of_decide_eq_false h1
   simp;omega
 · have h1:=of_decide_eq_false h1
   have h2:=of_decide_eq_false h2
   rw [AFn9,if_neg (by omega)];rfl
def BPk9 (args:List AV) (K:AV→Prop):Prop:=∃(s n:Int),args= [.d (u64 s), .d (i64 n)]∧K (.d (i64 (AFn9 s n)))
theorem BGp9:∀args K,BPk9 args K→∃x,PCall prog 188 args x∧K x:=by
 rintro _ K ⟨s,n,rfl,h⟩;exact ⟨_,BTf9 s n,h⟩
theorem BTc9 (n:Int):PCall prog 26 [.d (i64 n)] (.d (bo (ABn9 n))):=by
 refine Zaz (n:=100) (u:=false) mixed Zah Zac func26 (by rfl) (by rfl) fun Ev bb=> ?_
 rw [BJc9]
 have e:ABn9 n=(decide (n≥0)&&decide (n≤999999984)):=rfl
 rw [e]
 exact Zaj (fun h=>by rw [h];rfl) fun h=>by rw [h];rfl
def ATa9 (args:List AV) (K:AV→Prop):Prop:=∃(n:Int) (z:Bool),args= [.d (i64 n)]∧z=ABn9 n∧K (.d (bo z))
theorem AIu9:∀args K,ATa9 args K→∃x,PCall prog 26 args x∧K x:=by
 rintro _ K ⟨n,_,rfl,rfl,h⟩;exact ⟨_,BTc9 n,h⟩
def TRv:List (Nat×(List AV→(AV→Prop)→Prop)):= [(26,ATa9),(188,BPk9)]
theorem CEu9:AAf9 prog TRv:=Zaf AIu9 (Zaf BGp9 Zah)
theorem BIu9 (t:TrT):wpFn prog ⟨TRv, [],wl,y,false⟩ 100 f82 [trV t] b R=(∃(n0:Int) (z1:Bool), [Zae (i64 (TrT.bg t))]= [Zae (i64 n0)]∧z1=ABn9 n0∧BIf (TrT.iv t !=(1:Int)) (BIf (TrT.iv t !=(2:Int)) (BIf (TrT.iv t !=(4:Int)) (BIf (TrT.iv t !=(8:Int)) (R (.d (bo false)) b) (BIf (!z1) (R (.d (bo false)) b) (BIf (decide (TrT.sd t<(0:Int))) (R (.d (bo false)) b) (BIf (decide (TrT.sd t>(1000000000:Int))) (R (.d (bo false)) b) (BIf (decide (TrT.ct t<(0:Int))) (R (.d (bo false)) b) (BIf (decide (TrT.ct t>(100:Int))) (R (.d (bo false)) b) (BIf (decide (TrT.fi t≥Zaa .i64 (TrT.bg t+Zaa .i64 (Zbq (TrT.iv t) (2:Int))))) (R (.d (bo (decide (TrT.fi t≤Zaa .i64 (Zaa .i64 (TrT.bg t+TrT.iv t) - (1:Int)))))) b) (R (.d (bo false)) b)))))))) (BIf (!z1) (R (.d (bo false)) b) (BIf (decide (TrT.sd t<(0:Int))) (R (.d (bo false)) b) (BIf (decide (TrT.sd t>(1000000000:Int))) (R (.d (bo false)) b) (BIf (decide (TrT.ct t<(0:Int))) (R (.d (bo false)) b) (BIf (decide (TrT.ct t>(100:Int))) (R (.d (bo false)) b) (BIf (decide (TrT.fi t≥Zaa .i64 (TrT.bg t+Zaa .i64 (Zbq (TrT.iv t) (2:Int))))) (R (.d (bo (decide (TrT.fi t≤Zaa .i64 (Zaa .i64 (TrT.bg t+TrT.iv t) - (1:Int)))))) b) (R (.d (bo false)) b)))))))) (BIf (!z1) (R (.d (bo false)) b) (BIf (decide (TrT.sd t<(0:Int))) (R (.d (bo false)) b) (BIf (decide (TrT.sd t>(1000000000:Int))) (R (.d (bo false)) b) (BIf (decide (TrT.ct t<(0:Int))) (R (.d (bo false)) b) (BIf (decide (TrT.ct t>(100:Int))) (R (.d (bo false)) b) (BIf (decide (TrT.fi t≥Zaa .i64 (TrT.bg t+Zaa .i64 (Zbq (TrT.iv t) (2:Int))))) (R (.d (bo (decide (TrT.fi t≤Zaa .i64 (Zaa .i64 (TrT.bg t+TrT.iv t) - (1:Int)))))) b) (R (.d (bo false)) b)))))))) (BIf (!z1) (R (.d (bo false)) b) (BIf (decide (TrT.sd t<(0:Int))) (R (.d (bo false)) b) (BIf (decide (TrT.sd t>(1000000000:Int))) (R (.d (bo false)) b) (BIf (decide (TrT.ct t<(0:Int))) (R (.d (bo false)) b) (BIf (decide (TrT.ct t>(100:Int))) (R (.d (bo false)) b) (BIf (decide (TrT.fi t≥Zaa .i64 (TrT.bg t+Zaa .i64 (Zbq (TrT.iv t) (2:Int))))) (R (.d (bo (decide (TrT.fi t≤Zaa .i64 (Zaa .i64 (TrT.bg t+TrT.iv t) - (1:Int)))))) b) (R (.d (bo false)) b)))))))):=by kernel_rfl
theorem AUb9 (s l f:Int):wpFn prog ⟨TRv, [],wl,y,false⟩ 100 f138 [.d (i64 s), .d (i64 l), .d (i64 f)] b R=(∃(s0:Int) (n1:Int), [Zae (u64 (Zaa .u64 (Zaa .i64 (Zaa .i64 ((1000003:Int)*s)+f)))),Zae (i64 (Zaa .i64 (l - Zaa .i64 (Zbq l (2:Int)))))]= [Zae (u64 s0),Zae (i64 n1)]∧R (.agg [Zae (i64 l),Zae (i64 f),Zae (i64 (Zaa .i64 (Zaa .i64 (f+Zaa .i64 (Zbq l (2:Int)))+AFn9 s0 n1))),Zae (i64 0),Zae (i64 s)]) b):=by kernel_rfl
theorem rtail (t:TrT) (K:AV→Prop) (hl:lenS t.iv) (hK:K (.d (bo (ABf9 t)))):
   BIf (!ABn9 t.bg) (K (.d (bo false))) (BIf (decide (t.sd<0)) (K (.d (bo false))) (BIf (decide (t.sd>1000000000)) (K (.d (bo false))) (BIf (decide (t.ct<0)) (K (.d (bo false))) (BIf (decide (t.ct>100)) (K (.d (bo false)))
     (BIf (decide (t.fi≥Zaa Zap (t.bg+Zaa Zap (Zbq t.iv 2)))) (K (.d (bo (decide (t.fi≤Zaa Zap (Zaa Zap (t.bg+t.iv) - 1)))))) (K (.d (bo false)))))))):=by
 have no:¬ABf9 t=true→K (.d (bo false)):=fun h=>by rw [Zez.2 h] at hK;exact hK
 unfold lenS at hl
 refine Zaj (fun g=>no fun h=> ?_) fun g1=>Zaj (fun g=>no fun h=> ?_) fun g2=>Zaj (fun g=>no fun h=> ?_) fun g3=>Zaj (fun g=>no fun h=> ?_) fun g4=>Zaj (fun g=>no fun h=> ?_) fun g5=> ?_
 · have:=ABh9.1 h
   rw [ABn9,ACg9.2 this.2.1] at g;cases g
 · have:=ABh9.1 h;have:=of_decide_eq_true g;omega
 · have:=ABh9.1 h;have:=of_decide_eq_true g;omega
 · have:=ABh9.1 h;have:=of_decide_eq_true g;omega
 · have:=ABh9.1 h;have:=of_decide_eq_true g;omega
 have b1:=ACg9.1 (nbf g1)
 have g2:=of_decide_eq_false g2
 have g3:=of_decide_eq_false g3
 have g4:=of_decide_eq_false g4
 have g5:=of_decide_eq_false g5
 have e1:Zaa Zap (t.bg+Zaa Zap (Zbq t.iv 2))=t.bg+t.iv / 2:=by
   rw [Zdf (by omega),wr64 (x:=t.iv / 2) (by omega) (by omega),wr64 (by omega) (by omega)]
 have e2:Zaa Zap (Zaa Zap (t.bg+t.iv) - 1)=t.bg+t.iv - 1:=by
   rw [wr64 (x:=t.bg+t.iv) (by omega) (by omega),wr64 (by omega) (by omega)]
 rw [e1,e2]
 refine Zaj (fun g=> ?_) fun g=>no fun h=> ?_
 · have g:=of_decide_eq_true g
   have e:decide (t.fi≤t.bg+t.iv - 1)=ABf9 t:=by
     rw [Bool.eq_iff_iff,ABh9,decide_eq_true_eq];omega
   rw [e];exact hK
 · have:=ABh9.1 h;have:=of_decide_eq_false g;omega
theorem BSx9 (t:TrT):PCall prog 82 [trV t] (.d (bo (ABf9 t))):=by
 refine Zaz (n:=100) (u:=false) mixed CEu9 Zac func82 (by rfl) (by rfl) fun Ev bb=> ?_
 rw [BIu9]
 refine ⟨_,_,rfl,rfl,Zaj (fun h1=>Zaj (fun h2=>Zaj (fun h3=>Zaj (fun h4=> ?_) fun h4=> ?_) fun h3=> ?_) fun h2=> ?_) fun h1=> ?_⟩
 · have e:ABf9 t=false:=by
     rw [Zez]
     intro h
     have:=ABh9.1 h
     simp only [bne_iff_ne] at h1 h2 h3 h4
     omega
   rw [e]
 · exact rtail t (fun y=>y= .d (bo (ABf9 t))) (.inr (.inr (.inr (by simpa using h4)))) rfl
 · exact rtail t (fun y=>y= .d (bo (ABf9 t))) (.inr (.inr (.inl (by simpa using h3)))) rfl
 · exact rtail t (fun y=>y= .d (bo (ABf9 t))) (.inr (.inl (by simpa using h2))) rfl
 · exact rtail t (fun y=>y= .d (bo (ABf9 t))) (.inl (by simpa using h1)) rfl
def AUr9 (args:List AV) (K:AV→Prop):Prop:=∃(t:TrT) (z:Bool),args= [trV t]∧z=ABf9 t∧K (.d (bo z))
theorem AOe9:∀args K,AUr9 args K→∃x,PCall prog 82 args x∧K x:=by
 rintro _ K ⟨n,_,rfl,rfl,h⟩;exact ⟨_,BSx9 n,h⟩
theorem AZh9 (s l f:Int) (hl:lenS l) (hf:ABn9 f=true) (hs:ADm9 s=true):PCall prog 138 [.d (i64 s), .d (i64 l), .d (i64 f)] (trV (AEf9 s l f)):=by
 refine Zaz (n:=100) (u:=false) mixed CEu9 Zac func138 (by rfl) (by rfl) fun Ev bb=> ?_
 rw [AUb9]
 obtain ⟨e1,e2,e3⟩:=AUx9 hl hf hs
 have hf:=ACg9.1 hf
 have hs:=ACg9.1 hs
 have e4:Zaa IntKind.u64 (Zaa Zap (Zaa Zap (1000003*s)+f))=1000003*s+f:=by
   rw [wr64 (x:=1000003*s) (by omega) (by omega),wr64 (by omega) (by omega),ADp9 (by omega) (by omega)]
 rw [e2,e4]
 refine ⟨_,_,rfl, ?_⟩
 rw [e3];rfl
def ASz9 (args:List AV) (K:AV→Prop):Prop:=∃(s l f:Int) (z:TrT),args= [.d (i64 s), .d (i64 l), .d (i64 f)]∧((lenS l∧ABn9 f=true∧ADm9 s=true)∧z=AEf9 s l f)∧K (trV z)
theorem ASy9:∀args K,ASz9 args K→∃x,PCall prog 138 args x∧K x:=by
 rintro _ K ⟨s,l,f,_,rfl,⟨⟨h1,h2,h3⟩,rfl⟩,h⟩;exact ⟨_,AZh9 s l f h1 h2 h3,h⟩
def TRtm:List (Nat×(List AV→(AV→Prop)→Prop)):= [(26,ATa9),(82,AUr9),(138,ASz9)]
theorem AYf9:AAf9 prog TRtm:=Zaf AIu9 (Zaf AOe9 (Zaf ASy9 Zah))
theorem BZv9 (s f:Int):wpFn prog ⟨TRtm, [],wl,y,false⟩ 100 f77 [.d (i64 s), .d (i64 f)] b R=(∃(n0:Int) (z1:Bool), [Zae (i64 f)]= [Zae (i64 n0)]∧z1=ABn9 n0∧BIf (!z1) (R (.tup Qz16) b) (BIf (decide (s<(0:Int))) (R (.tup Qz16) b) (BIf (decide (s>(1000000000:Int))) (R (.tup Qz16) b) (∃(s2:Int) (l3:Int) (f4:Int) (z5:TrT), [Zae (i64 s),Zae (i64 1),Zae (i64 f)]=(Qz38 s2 l3 f4)∧(((l3=(1:Int)∨l3=(2:Int)∨l3=(4:Int)∨l3=(8:Int))∧ABn9 f4=true∧ADm9 s2=true)∧z5=AEf9 s2 l3 f4)∧R (.tup [Zbc (trL z5),Zae (i64 0)]) b)))):=by kernel_rfl
theorem BIx9 (t:TrT) (f:Int):wpFn prog ⟨TRtm, [],wl,y,false⟩ 100 f78 [trV t, .d (i64 f)] b R=(∃(t0:TrT) (z1:Bool), [Zbc (trL t)]= [Zbc (trL t0)]∧z1=ABf9 t0∧∃(n2:Int) (z3:Bool), [Zae (i64 f)]= [Zae (i64 n2)]∧z3=ABn9 n2∧BIf (!z1) (R (.agg (trL t)) b) (BIf (!z3) (R (.agg (trL t)) b) (BIf (TrT.iv t==(1:Int)) (R (.agg (trL t)) b) (∃(s4:Int) (l5:Int) (f6:Int) (z7:TrT), [Zae (i64 (TrT.sd t)),Zae (i64 1),Zae (i64 f)]=(Qz38 s4 l5 f6)∧(((l5=(1:Int)∨l5=(2:Int)∨l5=(4:Int)∨l5=(8:Int))∧ABn9 f6=true∧ADm9 s4=true)∧z7=AEf9 s4 l5 f6)∧R (.agg (trL z7)) b)))):=by kernel_rfl
theorem BSc9 (t:TrT):wpFn prog ⟨TRtm, [],wl,y,false⟩ 100 f79 [trV t] b R=(∃(t0:TrT) (z1:Bool), [Zbc (trL t)]= [Zbc (trL t0)]∧z1=ABf9 t0∧BIf z1 (BIf (decide (TrT.ct t<(100:Int))) (R (.agg [Zae (i64 (TrT.iv t)),Zae (i64 (TrT.bg t)),Zae (i64 (TrT.fi t)),Zae (i64 (Zaa .i64 (TrT.ct t+(1:Int)))),Zae (i64 (TrT.sd t))]) b) (R (.agg (trL t)) b)) (R (.agg (trL t)) b)):=by kernel_rfl
theorem BRy9 (t:TrT) (f:Int):wpFn prog ⟨TRtm, [],wl,y,false⟩ 100 f65 [trV t, .d (i64 f)] b R=(∃(t0:TrT) (z1:Bool), [Zbc (trL t)]= [Zbc (trL t0)]∧z1=ABf9 t0∧∃(n2:Int) (z3:Bool), [Zae (i64 f)]= [Zae (i64 n2)]∧z3=ABn9 n2∧BIf (!z1) (R (.tup [Zbc (trL t),Zae (bo false)]) b) (BIf (!z3) (R (.tup [Zbc (trL t),Zae (bo false)]) b) (BIf (decide (f<TrT.bg t)) (R (.tup [Zbc (trL t),Zae (bo false)]) b) (BIf (decide (f>Zaa .i64 (Zaa .i64 (TrT.bg t+TrT.iv t) - (1:Int)))) (∃(z4:Int),(z4=if Zaa .i64 ((2:Int)*TrT.iv t)<(8:Int) then Zaa .i64 ((2:Int)*TrT.iv t) else (8:Int))∧∃(s5:Int) (l6:Int) (f7:Int) (z8:TrT), [Zae (i64 (TrT.sd t)),Zae (i64 z4),Zae (i64 f)]=(Qz38 s5 l6 f7)∧(((l6=(1:Int)∨l6=(2:Int)∨l6=(4:Int)∨l6=(8:Int))∧ABn9 f7=true∧ADm9 s5=true)∧z8=AEf9 s5 l6 f7)∧BIf (TrT.fi z8==f) (R (.tup [Zbc (trL z8),Zae (bo (decide (TrT.ct z8≤(1:Int))))]) b) (R (.tup [Zbc (trL z8),Zae (bo false)]) b)) (BIf (TrT.fi t==f) (R (.tup [Zbc (trL t),Zae (bo (decide (TrT.ct t≤(1:Int))))]) b) (R (.tup [Zbc (trL t),Zae (bo false)]) b)))))):=by kernel_rfl
theorem CGj9 (s f:Int):PCall prog 77 [.d (i64 s), .d (i64 f)] (.tup [trV (newT s f).1, .d (i64 (newT s f).2)]):=by
 refine Zaz (n:=100) (u:=false) mixed AYf9 Zac func77 (by rfl) (by rfl) fun Ev bb=> ?_
 rw [BZv9]
 have no:ADm9 s=false→newT s f=(zeroT,1):=fun h=>by rw [newT,h];rfl
 refine ⟨_,_,rfl,rfl,Zaj (fun g=> ?_) fun g1=>Zaj (fun g=> ?_) fun g2=>Zaj (fun g=> ?_) fun g3=> ?_⟩
 · rw [newT,nbt g,Zdk];rfl
 · rw [no (Zez.2 fun h=>by have:=ACg9.1 h;have:=of_decide_eq_true g;omega)];rfl
 · rw [no (Zez.2 fun h=>by have:=ACg9.1 h;have:=of_decide_eq_true g;omega)];rfl
 · have hs:ADm9 s=true:=ACg9.2 (by have:=of_decide_eq_false g2;have:=of_decide_eq_false g3;omega)
   refine ⟨_,_,_,_,rfl,⟨⟨.inl rfl,nbf g1,hs⟩,rfl⟩, ?_⟩
   rw [newT,hs,nbf g1];rfl
def cRNew (args:List AV) (K:AV→Prop):Prop:=∃(s f:Int) (z:TrT) (e:Int),args= [.d (i64 s), .d (i64 f)]∧(z,e)=newT s f∧K (.tup [trV z, .d (i64 e)])
theorem BVs9:∀args K,cRNew args K→∃x,PCall prog 77 args x∧K x:=by
 rintro _ K ⟨s,f,z,e,rfl,he,h⟩
 have:=CGj9 s f
 rw [←he] at this
 exact ⟨_,this,h⟩
theorem BTa9 (t:TrT) (f:Int):PCall prog 78 [trV t, .d (i64 f)] (trV (ACs9 t f)):=by
 refine Zaz (n:=100) (u:=false) mixed AYf9 Zac func78 (by rfl) (by rfl) fun Ev bb=> ?_
 rw [BIx9]
 refine ⟨t,_,rfl,rfl,_,_,rfl,rfl,Zaj (fun g=> ?_) fun g1=>Zaj (fun g=> ?_) fun g2=>Zaj (fun g=> ?_) fun g3=> ?_⟩
 · rw [ACs9,nbt g];rfl
 · rw [ACs9,nbt g,Zdk];rfl
 · rw [ACs9,g,Bool.not_true,Zdk];rfl
 · refine ⟨_,_,_,_,rfl,⟨⟨.inl rfl,nbf g2,AVw9 (nbf g1)⟩,rfl⟩, ?_⟩
   rw [ACs9,nbf g1,nbf g2,g3];rfl
def BPh9 (args:List AV) (K:AV→Prop):Prop:=∃(t:TrT) (f:Int) (z:TrT),args= [trV t, .d (i64 f)]∧z=ACs9 t f∧K (trV z)
theorem BGk9:∀args K,BPh9 args K→∃x,PCall prog 78 args x∧K x:=by
 rintro _ K ⟨t,f,_,rfl,rfl,h⟩;exact ⟨_,BTa9 t f,h⟩
theorem CAv9 (t:TrT):PCall prog 79 [trV t] (trV (hearT t)):=by
 refine Zaz (n:=100) (u:=false) mixed AYf9 Zac func79 (by rfl) (by rfl) fun Ev bb=> ?_
 rw [BSc9]
 refine ⟨t,_,rfl,rfl,Zaj (fun g=>Zaj (fun g1=> ?_) fun g1=> ?_) fun g=> ?_⟩
 · have h:=ABh9.1 g
   have g1:=of_decide_eq_true g1
   rw [hearT,g,if_pos rfl,wr64 (by omega) (by omega),show min 100 (t.ct+1)=t.ct+1 by omega];rfl
 · have h:=ABh9.1 g
   have g1:=of_decide_eq_false g1
   rw [hearT,g,if_pos rfl,show min 100 (t.ct+1)=t.ct by omega];rfl
 · rw [hearT,g];rfl
def CDq9 (args:List AV) (K:AV→Prop):Prop:=∃(t z:TrT),args= [trV t]∧z=hearT t∧K (trV z)
theorem BMg9:∀args K,CDq9 args K→∃x,PCall prog 79 args x∧K x:=by
 rintro _ K ⟨t,_,rfl,rfl,h⟩;exact ⟨_,CAv9 t,h⟩
theorem CAs9 (t:TrT) (f:Int):PCall prog 65 [trV t, .d (i64 f)] (.tup [trV (tickT t f).1, .d (bo (tickT t f).2)]):=by
 refine Zaz (n:=100) (u:=false) mixed AYf9 Zac func65 (by rfl) (by rfl) fun Ev bb=> ?_
 rw [BRy9]
 refine ⟨t,_,rfl,rfl,_,_,rfl,rfl,Zaj (fun g=> ?_) fun g1=>Zaj (fun g=> ?_) fun g2=>Zaj (fun g=> ?_) fun g3=> ?_⟩
 · rw [tickT,nbt g];rfl
 · rw [tickT,nbt g,Zdk];rfl
 · have g:=of_decide_eq_true g
   rw [tickT,decide_eq_false (p:=t.bg≤f) (by omega),Zdk];rfl
 have g3:=of_decide_eq_false g3
 obtain ⟨e1,e2,e3⟩:=AVq9 (nbf g1) (nbf g2)
 have hv:=ABh9.1 (nbf g1)
 have e:tickT t f=(AFl9 t f,f==(AFl9 t f).fi&&decide ((AFl9 t f).ct<2)):=by rw [tickT,nbf g1,nbf g2,decide_eq_true (p:=t.bg≤f) (by omega)];rfl
 have d2:∀x:Int,decide (x≤1)=decide (x<2):=fun x=>decide_eq_decide.2 (by omega)
 have sy:∀x:Int,(x==f)=(f==x):=fun x=>BEq.comm
 rw [e,e1,e2,wr64 (x:=t.bg+t.iv - 1) (by omega) (by omega)]
 refine Zaj (fun g=> ?_) fun g=> ?_
 · have g:=of_decide_eq_true g
   have el:AFl9 t f=AEf9 t.sd (min 8 (2*t.iv)) f:=by rw [AFl9,if_pos (by omega)]
   rw [el]
   refine ⟨_,rfl,_,_,_,_,rfl,⟨⟨e3,nbf g2,AVw9 (nbf g1)⟩,rfl⟩, ?_⟩
   rw [d2,sy]
   refine Zaj (fun h=> ?_) fun h=> ?_
   · rw [h];rfl
   · rw [h];rfl
 · have g:=of_decide_eq_false g
   have el:AFl9 t f=t:=by rw [AFl9,if_neg (by omega)]
   rw [el,d2,sy]
   refine Zaj (fun h=> ?_) fun h=> ?_
   · rw [h];rfl
   · rw [h];rfl
def CDk9 (args:List AV) (K:AV→Prop):Prop:=∃(t:TrT) (f:Int) (z:TrT) (e:Bool),args= [trV t, .d (i64 f)]∧(z,e)=tickT t f∧K (.tup [trV z, .d (bo e)])
theorem BMb9:∀args K,CDk9 args K→∃x,PCall prog 65 args x∧K x:=by
 rintro _ K ⟨t,f,z,e,rfl,he,h⟩
 have:=CAs9 t f
 rw [←he] at this
 exact ⟨_,this,h⟩
end Go.Proofs.YtibhflogmbfpcaaGreatDoor.Am
