import Derived.Test.YtibhflogmbfpcaaGreatDoorP6J3
import Derived.Test.YtibhflogmbfpcaaGreatDoorP6J2
import Derived.Test.YtibhflogmbfpcaaGreatDoorTie
import Derived.Test.YtibhflogmbfpcaaGreatDoorCards
import Derived.ProofKit
import Derived.LaidMore
import Derived.OpenShut
import Derived.Stop.Joined
import Derived.Lay
import Derived.LaidOnce
import Derived.SevenTiedAt
import Derived.JoinedOf
set_option linter.unusedSimpArgs false
set_option linter.unusedVariables false
namespace Go.Proofs.YtibhflogmbfpcaaGreatDoor.Am
open Go Go.RowKit Go.Proofs Tryz
open AV renaming agg → Zbl, bad → Zaz, d → Zae, ptr → Zbf, rptr → Zcq
open BIf renaming f → Zea, of → Zar, t → Zbt
open BitVec renaming ofInt → Zao
open Bool renaming and_eq_true → Zam
open CallsOk renaming cons → Zag, nil → Zaj
open Go.Code renaming loop → Zbq
open Dv renaming sl → Zal
open Int renaming toNat → Zat, toNat_natCast → Zba
open Go.IntKind renaming i64 → Zax, wrap → Zaa
open List renaming length → Zac, mem_map → Zbe, mem_of_getElem? → Zbb, range → Zbd, replicate → Zad
open NotT renaming n → Zbv, r → Zca, t → Zbz, v → Zbm
open PCall renaming ofFn → Zbi
open SCallsOk renaming cons → Zcc, nil → Zaf
open SprT renaming no → Zby, ps → Zdt
open Go.Value renaming slice → Zbn
variable {β:Type} (wl:WLT β) (y:YieldT β) (b:β) (R:AV→β→Prop) (RS:AV→List Blk→β→Prop) (K:Exit→List AV→List Blk→β→Prop) (Kh:Exit→List Blk→β→Prop) (Q:β→Prop)
open AV (bad)
set_option linter.unusedVariables false
set_option maxRecDepth 20000
def allP (s:SprT):Nat→List (List Int)→List (List Int)→Bool
 |k,p::ps,q::qs=>provedS s k p q&&allP s (k+1) ps qs
 |_,_,_=>true
theorem proofs_len (qs:List (List Int)):(proofsR qs).length=qs.length:=by simp [proofsR]
theorem wr45 {Ev:Env prog} {b:Ev.β} {Q:Exit→St Ev.β→Prop} (s:SprT) (hl:s.ps.length≤1000000):∀(ps qs:List (List Int)) (k:Nat),s.ps.drop k=ps→s.qs.drop k=qs→k≤s.ps.length→ps.length=qs.length→
   (allP s k ps qs=true→∀i:Int,Q (.exit 0) ⟨tm45 (partsR s.ps) s.ps.length i, [blkSI s],b⟩)→(allP s k ps qs=false→∀i:Int,Q .ret ⟨(tm45 (partsR s.ps) s.ps.length i).set 2 (.d (bo false)), [blkSI s],b⟩)→
   WR Ev lp45 (ps.length+1) ⟨tm45 (partsR s.ps) s.ps.length k, [blkSI s],b⟩ Q
 | [],qs,k,hd,hd2,hk,hlen,h1,h2=>by
   refine WR.ofMaskT [1,2,42,43,44] mixed (CX.Ok.of (u:=false) TPd_ok Zaf) (k:=100) ?_
   rw [r45]
   have:=drop_nil hd
   exact Zea (by simp<;>omega) (h1 (by rw [allP];intros;simp_all) _)
 |p::ps, [],k,hd,hd2,hk,hlen,h1,h2=>by simp at hlen
 | p::ps,q::qs,k,hd,hd2,hk,hlen,h1,h2=>by
   refine WR.ofMaskT [1,2,42,43,44] mixed (CX.Ok.of (u:=false) TPd_ok Zaf) (k:=100) ?_
   rw [r45]
   obtain ⟨hk',hr,hd'⟩:=drop_cons hd
   obtain ⟨hk2,hr2,hd2'⟩:=drop_cons hd2
   refine Zbt (by simp<;>omega) (Zbt (by simp) ⟨bytesR p,by simp [partsR,hr],Zbt (by simp) ⟨digR q,by simp [proofsR,hr2],s,k,p,q,_,rfl,rfl,Zar (fun g=> ?_) fun g=> ?_⟩⟩)
   · have g:provedS s k p q=false:=by simpa using g
     exact h2 (by rw [allP,g];rfl) _
   · have g:provedS s k p q=true:=by simpa using g
     rw [allP,g,Bool.true_and] at h1 h2
     rw [wrap_succ hk' (by omega)]
     exact wr45 s hl ps qs (k+1) hd' hd2' hk' (by simpa using hlen) h1 h2
def wl45 {β:Type}:WLT β:=fun c tm hp b K=>∃(s:SprT) (z:Bool),c= .loop lp45∧maskTm [1,42,43,44] 0 tm=tm45 (partsR s.ps) (partsR s.ps).length 0∧hp= [blkSI s]∧((s.ps.length≤1000000∧s.qs.length=s.ps.length)∧z=allP s 0 s.ps s.qs)∧
 BIf z (∀i:Int,K (.exit 0) (tm45 (partsR s.ps) (partsR s.ps).length i) [blkSI s] b) (∀i:Int,K .ret ((tm45 (partsR s.ps) (partsR s.ps).length i).set 2 (.d (bo false))) [blkSI s] b)
theorem wl45_ok {Ev:Env prog} (c:Code) (tm:List AV) (hp:List Blk) (b:Ev.β) (K:Exit→List AV→List Blk→Ev.β→Prop) (h:wl45 c tm hp b K):W Ev c ⟨tm,hp,b⟩ (fun e s=>K e s.tm s.hp s.b):=by
 obtain ⟨s,z,rfl,htm,rfl,⟨⟨hl,hlen⟩,hz⟩,hK⟩:=h
 rw [partsR_len] at htm hK
 refine W.cast (htm▸maskTm_le _ tm 0) (LeH.refl _) ?_
 exact W.rounds (wr45 (Q:=fun e s=>K e s.tm s.hp s.b) s hl s.ps s.qs 0 rfl rfl (Nat.zero_le _) hlen.symm (fun h=>by rw [hz,h] at hK;exact hK) fun h=>by rw [hz,h] at hK;exact hK)
abbrev Qz23 (v0:SprT):=Zaz::Zbf 0 0::bds 40 (Zae (Zal 1 (partsR (Zdt v0)))::Zae (i64 ((Zac (partsR (Zdt v0)):Nat):Int))::Zae (i64 0)::bds 16 [])
theorem sound_nf (s:SprT):wpFn prog ⟨TSs, [],wl45,y,false⟩ 100 f88 [spV s] b R=(∃(a0:Int) (n1:Int) (r2:Int) (t3:Int) (z4:Bool), [Zbl [Zae (i64 (Zbm (Zby s))),Zae (i64 (Zbv (Zby s))),Zae (u64 (Zca (Zby s))),Zae (i64 (Zbz (Zby s)))]]= [Zbl [Zae (i64 a0),Zae (i64 n1),Zae (u64 r2),Zae (i64 t3)]]∧z4=announcedS a0 n1 t3∧BIf (!z4) (R (.d (bo false)) b) (∃(n5:Int) (z6:Int), [Zae (i64 (Zbv (Zby s)))]= [Zae (i64 n5)]∧z6=countS n5∧BIf (decide (((Zac (partsR (Zdt s)):Nat):Int)>z6)) (R (.d (bo false)) b) (BIf (((Zac (proofsR (SprT.qs s)):Nat):Int) !=((Zac (partsR (Zdt s)):Nat):Int)) (R (.d (bo false)) b) (∃(ps7:List (List Int)) (z8:Bool), [Zae (Zal 1 (partsR (Zdt s)))]= [Zae (Zal 1 (partsR ps7))]∧(Zac ps7≤9223372036854775807∧z8= !anyOther ps7)∧BIf (!z8) (R (.d (bo false)) b) (∃(s9:SprT) (z10:Bool),Zbq lp45=Zbq lp45∧(Qz23 s)=(Qz23 s9)∧ [Blk.mk (Qz1 s) false false 0]= [Blk.mk (Qz1 s9) false false 0]∧((Zac (Zdt s9)≤1000000∧Zac (SprT.qs s9)=Zac (Zdt s9))∧z10=allP s9 0 (Zdt s9) (SprT.qs s9))∧BIf z10 (∀(i:Int),R (.d (bo true)) b) (∀(i:Int),R (.d (bo false)) b)))))):=by kernel_rfl
def soundS (s:SprT):Bool:=announcedS s.no.v s.no.n s.no.t&&(!decide ((s.ps.length:Int)>countS s.no.n)&&(!((s.qs.length:Int) !=s.ps.length)&&(!anyOther s.ps&&allP s 0 s.ps s.qs)))
noncomputable def lp21aI:Code:=sub [1,1,1,1,0,1,2,3] (code f53)
noncomputable def lp21bI:Code:=sub [1,1,1,1,1,0,1,2,3] (code f53)
def outB (s:SprT) (X Y:AV):Blk:=⟨[.d (i64 s.no.v), .d (i64 s.no.n), .d (u64 s.no.r), .d (i64 s.no.t),X,Y,nilV,nilV, .d (i64 s.i1), .d (i64 s.i2), .d (i64 s.i3), .d (i64 s.i4), .d (i64 s.i5)],false,false,0⟩
def tm21aI (pf rows:List (List Dv)) (n i:Int):List AV:= [.bad, .bad, .d (.sl 1 pf), .bad, .bad, .bad, .ptr 1 0, .bad, .ptr 2 0, .ptr 3 0]++Zad 52 .bad++ [.d (.sl 1 rows), .d (i64 n), .d (i64 i)]++Zad 32 .bad
def tm21bI (rows:List (List Dv)) (n i:Int):List AV:= [.bad, .bad, .bad, .bad, .bad, .bad, .ptr 1 0, .bad, .ptr 2 0, .ptr 3 0]++Zad 72 .bad++ [.d (.sl 1 rows), .d (i64 n), .d (i64 i)]++Zad 12 .bad
def TPa:List (Nat×(List AV→(AV→Prop)→Prop)):= [(120,cCloneB),(51,cClone50)]
theorem TPa_ok:CallsOk prog TPa:=Zag cCloneB_ok (Zag cClone50_ok Zaj)
abbrev Qz5 (v0:SprT) (v1:List (List Dv)):List AV:= [Zae (i64 (Zbm (Zby v0))),Zae (i64 (Zbv (Zby v0))),Zae (u64 (Zca (Zby v0))),Zae (i64 (Zbz (Zby v0))),AV.own 33 1 v1,Zae (Dv.s (.slice none 0 0)),Zae (Dv.s (.slice none 0 0)),Zae (Dv.s (.slice none 0 0)),Zae (i64 (SprT.i1 v0)),Zae (i64 (SprT.i2 v0)),Zae (i64 (SprT.i3 v0)),Zae (i64 (SprT.i4 v0)),Zae (i64 (SprT.i5 v0))]
theorem r21a (s:SprT) (b0 b1 b2:Blk) (J:List Blk) (pf rows acc:List (List Dv)) (n i:Int):wpc prog ⟨TPa, [],wl,y,false⟩ 100 lp21aI (tm21aI pf rows n i) ([b0,b1,b2,outB s (.own 33 1 acc) nilV]++J) b (maskT [2,6,8,9,62,63,64] K)=(BIf (decide (i<n)) (BIf (true&&decide (0≤i)) (∃(xs0:List (List Dv)),rows[Zat i]? =some [Zal 1 xs0]∧∃(xs3:List (List Dv)), [Zae (Zal 1 xs0)]= [Zae (Zal 1 xs3)]∧Zac xs3≤1000000∧BIf (true&&decide ((Zac acc+1)*24≤140737488355328)) (K .normal (Zaz::Zaz::Zae (Zal 1 pf)::bds 3 (Zbf 1 0::Zaz::Zbf 2 0::Zbf 3 0::bds 52 (Zae (Zal 1 rows)::Zae (i64 n)::Zae (i64 (Zaa .i64 (i+1)))::bds 32 []))) (b0::b1::b2::Blk.mk [Zae (i64 (Zbm (Zby s))),Zae (i64 (Zbv (Zby s))),Zae (u64 (Zca (Zby s))),Zae (i64 (Zbz (Zby s))),AV.own 33 1 (acc++ [[Zal 1 xs3]]),Zae (Dv.s (.slice none 0 0)),Zae (Dv.s (.slice none 0 0)),Zae (Dv.s (.slice none 0 0)),Zae (i64 (SprT.i1 s)),Zae (i64 (SprT.i2 s)),Zae (i64 (SprT.i3 s)),Zae (i64 (SprT.i4 s)),Zae (i64 (SprT.i5 s))] false false 0::List.append._f [] PUnit.unit J) b) False) False) (K (Exit.exit 1) (Zaz::Zaz::Zae (Zal 1 pf)::bds 3 (Zbf 1 0::Zaz::Zbf 2 0::Zbf 3 0::bds 52 (Zae (Zal 1 rows)::Zae (i64 n)::Zae (i64 i)::bds 32 []))) (b0::b1::b2::Blk.mk (Qz5 s acc) false false 0::List.append._f [] PUnit.unit J) b)):=by kernel_rfl
abbrev Qz17 (v0:SprT) (v1:List (List Dv)) (v2:List (List Dv)):List AV:= [Zae (i64 (Zbm (Zby v0))),Zae (i64 (Zbv (Zby v0))),Zae (u64 (Zca (Zby v0))),Zae (i64 (Zbz (Zby v0))),AV.own 33 1 v1,AV.own 28 1 v2,Zae (Dv.s (.slice none 0 0)),Zae (Dv.s (.slice none 0 0)),Zae (i64 (SprT.i1 v0)),Zae (i64 (SprT.i2 v0)),Zae (i64 (SprT.i3 v0)),Zae (i64 (SprT.i4 v0)),Zae (i64 (SprT.i5 v0))]
theorem r21b (s:SprT) (b0 b1 b2:Blk) (J:List Blk) (X:List (List Dv)) (rows acc:List (List Dv)) (n i:Int):wpc prog ⟨TPa, [],wl,y,false⟩ 100 lp21bI (tm21bI rows n i) ([b0,b1,b2,outB s (.own 33 1 X) (.own 28 1 acc)]++J) b (maskT [6,8,9,82,83,84] K)=(BIf (decide (i<n)) (BIf (true&&decide (0≤i)) (∃(xs0:List (List Dv)),rows[Zat i]? =some [Zal 1 xs0]∧∃(xs3:List (List Dv)), [Zae (Zal 1 xs0)]= [Zae (Zal 1 xs3)]∧Zac xs3≤1000000∧BIf (true&&decide ((Zac acc+1)*24≤140737488355328)) (K .normal (bds 6 (Zbf 1 0::Zaz::Zbf 2 0::Zbf 3 0::bds 72 (Zae (Zal 1 rows)::Zae (i64 n)::Zae (i64 (Zaa .i64 (i+1)))::bds 12 []))) (b0::b1::b2::Blk.mk [Zae (i64 (Zbm (Zby s))),Zae (i64 (Zbv (Zby s))),Zae (u64 (Zca (Zby s))),Zae (i64 (Zbz (Zby s))),AV.own 33 1 X,AV.own 28 1 (acc++ [[Zal 1 xs3]]),Zae (Dv.s (.slice none 0 0)),Zae (Dv.s (.slice none 0 0)),Zae (i64 (SprT.i1 s)),Zae (i64 (SprT.i2 s)),Zae (i64 (SprT.i3 s)),Zae (i64 (SprT.i4 s)),Zae (i64 (SprT.i5 s))] false false 0::List.append._f [] PUnit.unit J) b) False) False) (K (Exit.exit 3) (bds 6 (Zbf 1 0::Zaz::Zbf 2 0::Zbf 3 0::bds 72 (Zae (Zal 1 rows)::Zae (i64 n)::Zae (i64 i)::bds 12 []))) (b0::b1::b2::Blk.mk (Qz17 s X acc) false false 0::List.append._f [] PUnit.unit J) b)):=by kernel_rfl
theorem pcSound (s:SprT) (hl:s.ps.length≤9223372036854775807):PCall prog 88 [spV s] (.d (bo (soundS s))):=by
 refine PCall.ofFnW (n:=100) (u:=false) (fun _=>wl45) mixed TSs_ok Zaf (fun Ev=>wl45_ok) func88 (by rfl) (by rfl) fun Ev bb=> ?_
 rw [sound_nf]
 refine ⟨_,_,_,_,_,rfl,rfl,Zar (fun g=> ?_) fun g1=>⟨_,_,rfl,rfl,Zar (fun g=> ?_) fun g2=>Zar (fun g=> ?_) fun g3=>⟨_,_,rfl,⟨hl,rfl⟩,Zar (fun g=> ?_) fun g4=>⟨s,_,rfl,rfl,rfl,⟨⟨?_, ?_⟩,rfl⟩,Zar (fun g5 _=> ?_) fun g5 _=> ?_⟩⟩⟩⟩
 · have:announcedS s.no.v s.no.n s.no.t=false:=by simpa using g
   rw [soundS,this];rfl
 · rw [partsR_len] at g
   have h1:announcedS s.no.v s.no.n s.no.t=true:=by simpa using g1
   rw [soundS,h1,g];rfl
 · rw [partsR_len,proofs_len] at g
   rw [partsR_len] at g2
   have h1:announcedS s.no.v s.no.n s.no.t=true:=by simpa using g1
   rw [soundS,h1,g2,g];rfl
 · rw [partsR_len,proofs_len] at g3
   rw [partsR_len] at g2
   have h1:announcedS s.no.v s.no.n s.no.t=true:=by simpa using g1
   have h4:anyOther s.ps=true:=by simpa using g
   rw [soundS,h1,g2,g3,h4];rfl
 · rw [partsR_len] at g2
   have h1:announcedS s.no.v s.no.n s.no.t=true:=by simpa using g1
   have h6:sizedS s.no.n=true:=by simp only [announcedS,Zam] at h1;exact h1.2.2.1
   obtain ⟨k,hk,hk1,hk2⟩:=sized_nat h6
   rw [hk,countS_eq (by omega)] at g2
   simp at g2;omega
 · rw [partsR_len,proofs_len] at g3
   simp at g3;omega
 · rw [partsR_len] at g2
   rw [partsR_len,proofs_len] at g3
   have h1:announcedS s.no.v s.no.n s.no.t=true:=by simpa using g1
   have h4:anyOther s.ps=false:=by simpa using g4
   rw [soundS,h1,g2,g3,h4,g5];rfl
 · rw [partsR_len] at g2
   rw [partsR_len,proofs_len] at g3
   have h1:announcedS s.no.v s.no.n s.no.t=true:=by simpa using g1
   have h4:anyOther s.ps=false:=by simpa using g4
   rw [soundS,h1,g2,g3,h4,g5];rfl
def cSound (args:List AV) (K:AV→Prop):Prop:=∃(s:SprT) (z:Bool),args= [spV s]∧(s.ps.length≤9223372036854775807∧z=soundS s)∧K (.d (bo z))
theorem cSound_ok:∀args K,cSound args K→∃x,PCall prog 88 args x∧K x:=by
 rintro _ K ⟨s,_,rfl,⟨hl,rfl⟩,h⟩;exact ⟨_,pcSound s hl,h⟩
theorem parts_app1 (ps:List (List Int)) (p:List Int):partsR ps++ [[.sl 1 (bytesR p)]]=partsR (ps++ [p]):=by simp [partsR]
theorem proofs_app1 (ps:List (List Int)) (p:List Int):proofsR ps++ [[.sl 1 (digR p)]]=proofsR (ps++ [p]):=by simp [proofsR]
theorem wr21aI {Ev:Env prog} {b:Ev.β} {Q:Exit→St Ev.β→Prop} (s:SprT) (b0 b1 b2:Blk) (J:List Blk) (pf:List (List Dv)) (L:List (List Int)) (hl:L.length≤1000000) (hL:∀p∈L,p.length≤1000000):∀(rest:List (List Int)) (k:Nat) (acc:List (List Int)),L.drop k=rest→k≤L.length→acc.length≤k→
   (∀i:Int,Q (.exit 1) ⟨tm21aI pf (partsR L) L.length i, [b0,b1,b2,outB s (.own 33 1 (partsR (acc++rest))) nilV]++J,b⟩)→WR Ev lp21aI (rest.length+1) ⟨tm21aI pf (partsR L) L.length k, [b0,b1,b2,outB s (.own 33 1 (partsR acc)) nilV]++J,b⟩ Q
 | [],k,acc,hd,hk,ha,h=>by
   refine WR.ofMaskT [2,6,8,9,62,63,64] mixed (CX.Ok.of (u:=false) TPa_ok Zaf) (k:=100) ?_
   rw [r21a]
   have:=drop_nil hd
   rw [List.append_nil] at h
   exact Zea (by simp<;>omega) (h _)
 | p::rest,k,acc,hd,hk,ha,h=>by
   refine WR.ofMaskT [2,6,8,9,62,63,64] mixed (CX.Ok.of (u:=false) TPa_ok Zaf) (k:=100) ?_
   rw [r21a]
   obtain ⟨hk',hr,hd'⟩:=drop_cons hd
   refine Zbt (by simp<;>omega) (Zbt (by simp) ⟨bytesR p,by simp [partsR,hr],_,rfl,by rw [bytesR_len];exact hL p (Zbb hr),Zbt (by simp [partsR_len]<;>omega) ?_⟩)
   rw [parts_app1,wrap_succ hk' (by omega)]
   refine wr21aI s b0 b1 b2 J pf L hl hL rest (k+1) (acc++ [p]) hd' hk' (by simp<;>omega) ?_
   rw [List.append_assoc];exact h
theorem wr21bI {Ev:Env prog} {b:Ev.β} {Q:Exit→St Ev.β→Prop} (s:SprT) (b0 b1 b2:Blk) (J:List Blk) (X:List (List Dv)) (L:List (List Int)) (hl:L.length≤1000000) (hL:∀p∈L,p.length≤1000000):∀(rest:List (List Int)) (k:Nat) (acc:List (List Int)),L.drop k=rest→k≤L.length→acc.length≤k→
   (∀i:Int,Q (.exit 3) ⟨tm21bI (proofsR L) L.length i, [b0,b1,b2,outB s (.own 33 1 X) (.own 28 1 (proofsR (acc++rest)))]++J,b⟩)→WR Ev lp21bI (rest.length+1) ⟨tm21bI (proofsR L) L.length k, [b0,b1,b2,outB s (.own 33 1 X) (.own 28 1 (proofsR acc))]++J,b⟩ Q
 | [],k,acc,hd,hk,ha,h=>by
   refine WR.ofMaskT [6,8,9,82,83,84] mixed (CX.Ok.of (u:=false) TPa_ok Zaf) (k:=100) ?_
   rw [r21b]
   have:=drop_nil hd
   rw [List.append_nil] at h
   exact Zea (by simp<;>omega) (h _)
 | p::rest,k,acc,hd,hk,ha,h=>by
   refine WR.ofMaskT [6,8,9,82,83,84] mixed (CX.Ok.of (u:=false) TPa_ok Zaf) (k:=100) ?_
   rw [r21b]
   obtain ⟨hk',hr,hd'⟩:=drop_cons hd
   refine Zbt (by simp<;>omega) (Zbt (by simp) ⟨digR p,by simp [proofsR,hr],_,rfl,by rw [digR_len];exact hL p (Zbb hr),Zbt (by simp [proofs_len]<;>omega) ?_⟩)
   rw [proofs_app1,wrap_succ hk' (by omega)]
   refine wr21bI s b0 b1 b2 J X L hl hL rest (k+1) (acc++ [p]) hd' hk' (by simp<;>omega) ?_
   rw [List.append_assoc];exact h
def wl21I {β:Type}:WLT β:=fun c tm hp b K=>match cidO c with
 |11=>c= .loop lp21aI∧sealTs hp [62] tm fun tm1=>∃(s:SprT) (pf:List (List Dv)) (L z:List (List Int)),maskTm [2,6,8,9,62,63,64] 0 tm1=tm21aI pf (partsR L) (partsR L).length 0∧(frz hp (occ (tm.getD 62 .bad)))[3]? =some (outB s nilV nilV)∧
     ((L.length≤1000000∧∀p∈L,p.length≤1000000)∧z=L)∧∀i:Int,K (.exit 1) (tm21aI pf (partsR z) (partsR z).length i) ((frz hp (occ (tm.getD 62 .bad))).set 3 (outB s (.own 33 1 (partsR z)) nilV)) b
 |16=>c= .loop lp21bI∧sealTs hp [82] tm fun tm1=>∃(s:SprT) (X:List (List Dv)) (L z:List (List Int)),maskTm [6,8,9,82,83,84] 0 tm1=tm21bI (proofsR L) (proofsR L).length 0∧(frz hp (occ (tm.getD 82 .bad)))[3]? =some (outB s (.own 33 1 X) nilV)∧
     ((L.length≤1000000∧∀p∈L,p.length≤1000000)∧z=L)∧∀i:Int,K (.exit 3) (tm21bI (proofsR z) (proofsR z).length i) ((frz hp (occ (tm.getD 82 .bad))).set 3 (outB s (.own 33 1 X) (.own 28 1 (proofsR z)))) b
 |_=>False
theorem wl21_okI {Ev:Env prog} (c:Code) (tm:List AV) (hp:List Blk) (b:Ev.β) (K:Exit→List AV→List Blk→Ev.β→Prop) (h:wl21I c tm hp b K):W Ev c ⟨tm,hp,b⟩ (fun e s=>K e s.tm s.hp s.b):=by
 unfold wl21I at h
 split at h
 · obtain ⟨rfl,h⟩:=h
   refine W.sealed h ?_
   rintro tm1 ⟨s,pf,L,z,htm,h3,⟨⟨hl,hL⟩,rfl⟩,hK⟩
   obtain ⟨b0,b1,b2,J,e⟩:=four h3
   rw [e] at hK ⊢
   rw [partsR_len] at htm hK
   refine W.cast (htm▸maskTm_le _ tm1 0) (hp':= [b0,b1,b2,outB s (.own 33 1 (partsR [])) nilV]++J) (LeH.at [b0,b1,b2] J (LeL.at [_,_,_,_] _ (LeA.nilOwn rfl))) ?_
   exact W.rounds (wr21aI (Q:=fun e s=>K e s.tm s.hp s.b) s b0 b1 b2 J pf z hl hL z 0 [] rfl (Nat.zero_le _) (Nat.zero_le _) hK)
 · obtain ⟨rfl,h⟩:=h
   refine W.sealed h ?_
   rintro tm1 ⟨s,X,L,z,htm,h3,⟨⟨hl,hL⟩,rfl⟩,hK⟩
   obtain ⟨b0,b1,b2,J,e⟩:=four h3
   rw [e] at hK ⊢
   rw [proofs_len] at htm hK
   refine W.cast (htm▸maskTm_le _ tm1 0) (hp':= [b0,b1,b2,outB s (.own 33 1 X) (.own 28 1 (proofsR []))]++J) (LeH.at [b0,b1,b2] J (LeL.at [_,_,_,_,_] _ (LeA.nilOwn rfl))) ?_
   exact W.rounds (wr21bI (Q:=fun e s=>K e s.tm s.hp s.b) s b0 b1 b2 J X z hl hL z 0 [] rfl (Nat.zero_le _) (Nat.zero_le _) hK)
 · exact h.elim
def TPt:List (Nat×(List AV→(AV→Prop)→Prop)):= [(125,cCount),(88,cSound),(126,cProved)]
theorem TPt_ok:CallsOk prog TPt:=Zag cCount_ok (Zag cSound_ok (Zag cProved_ok Zaj))
def SPt:List (Nat×(List AV→List Blk→(AV→List Blk→Prop)→Prop)):= [(127,sClone 1),(128,sClone 1)]
theorem SPt_ok:SCallsOk prog SPt:=Zcc pcClone47.toS (Zcc pcClone49.toS Zaf)
abbrev Qz3:List AV:= [Zae (i64 0),Zae (i64 0),Zae (u64 0),Zae (i64 0),Zae (Dv.s (.slice none 0 0)),Zae (Dv.s (.slice none 0 0)),Zae (Dv.s (.slice none 0 0)),Zae (Dv.s (.slice none 0 0)),Zae (i64 0),Zae (i64 0),Zae (i64 0),Zae (i64 0),Zae (i64 0)]
abbrev Qz6 (v0:SprT):=Blk.mk [Zae (i64 (Zbm (Zby v0))),Zae (i64 (Zbv (Zby v0))),Zae (u64 (Zca (Zby v0))),Zae (i64 (Zbz (Zby v0))),Zae (Dv.s (.slice none 0 0)),Zae (Dv.s (.slice none 0 0)),Zae (Dv.s (.slice none 0 0)),Zae (Dv.s (.slice none 0 0)),Zae (i64 (SprT.i1 v0)),Zae (i64 (SprT.i2 v0)),Zae (i64 (SprT.i3 v0)),Zae (i64 (SprT.i4 v0)),Zae (i64 (SprT.i5 v0))] false false 0
abbrev Qz7 (v0:SprT) (v1:List (List Int)):=Blk.mk [Zae (i64 (Zbm (Zby v0))),Zae (i64 (Zbv (Zby v0))),Zae (u64 (Zca (Zby v0))),Zae (i64 (Zbz (Zby v0))),AV.own 33 1 (partsR v1),Zae (Dv.s (.slice none 0 0)),Zae (Dv.s (.slice none 0 0)),Zae (Dv.s (.slice none 0 0)),Zae (i64 (SprT.i1 v0)),Zae (i64 (SprT.i2 v0)),Zae (i64 (SprT.i3 v0)),Zae (i64 (SprT.i4 v0)),Zae (i64 (SprT.i5 v0))] false false 0
abbrev Qz8 (v0:SprT) (v1:List (List Dv)) (v2:List (List Int)):List AV:= [Zbl [Zae (i64 (Zbm (Zby v0))),Zae (i64 (Zbv (Zby v0))),Zae (u64 (Zca (Zby v0))),Zae (i64 (Zbz (Zby v0))),Zae (Zal 1 v1),Zae (Zal 1 (proofsR v2)),Zae (Dv.s (.slice none 0 0)),Zae (Dv.s (.slice none 0 0)),Zae (i64 (SprT.i1 v0)),Zae (i64 (SprT.i2 v0)),Zae (i64 (SprT.i3 v0)),Zae (i64 (SprT.i4 v0)),Zae (i64 (SprT.i5 v0))],Zae (i64 0)]
abbrev Qz13 (v0:List (List Int)):List AV:=bds 6 (Zbf 1 0::Zaz::Zbf 2 0::Zbf 3 0::bds 72 (Zae (Zal 1 (proofsR v0))::Zae (i64 ((Zac (proofsR v0):Nat):Int))::Zae (i64 0)::bds 12 []))
abbrev Qz21 (v0:List (List Dv)) (v1:List (List Int)):=Zaz::Zaz::Zae (Zal 1 v0)::bds 3 (Zbf 1 0::Zaz::Zbf 2 0::Zbf 3 0::bds 52 (Zae (Zal 1 (partsR v1))::Zae (i64 ((Zac (partsR v1):Nat):Int))::Zae (i64 0)::bds 32 []))
abbrev Qz26 (v0:List (List Dv)):List AV:=bds 6 (Zbf 1 0::Zaz::Zbf 2 0::Zbf 3 0::bds 72 (Zae (Zal 1 [[Zal 1 v0]])::Zae (i64 1)::Zae (i64 0)::bds 12 []))
abbrev Qz27 (v0:List (List Dv)) (v1:List (List Dv)):List AV:=bds 6 (Zbf 1 0::Zaz::Zbf 2 0::Zbf 3 0::bds 72 (Zae (Zal 1 v0)::Zae (i64 ((Zac v1+1:Nat):Int))::Zae (i64 0)::bds 12 []))
theorem put_nf (s:SprT) (p q:List (List Dv)):wpFn prog ⟨TPt,SPt,wl21I,y,false⟩ 100 f53 [spV s, .d (.sl 1 p), .d (.sl 1 q)] b R=(∃(s0:SprT) (z1:Bool), [Zbl (Qz1 s)]= [Zbl (Qz1 s0)]∧(Zac (Zdt s0)≤9223372036854775807∧z1=soundS s0)∧BIf (!z1) (R (.tup [Zbl Qz3,Zae (i64 1)]) b) (BIf (((Zac p:Nat):Int) !=(256:Int)) (R (.tup [Zbl Qz3,Zae (i64 1)]) b) (∃(n2:Int) (z3:Int), [Zae (i64 (Zbv (Zby s)))]= [Zae (i64 n2)]∧z3=countS n2∧BIf (((Zac (partsR (Zdt s)):Nat):Int)==z3) (R (.tup [Zbl Qz3,Zae (i64 10)]) b) (∃(s4:SprT) (i5:Int) (p6:List Int) (q7:List Int) (z8:Bool), [Zbl (Qz1 s),Zae (i64 ((Zac (partsR (Zdt s)):Nat):Int)),Zae (Zal 1 p),Zae (Zal 1 q)]= [Zbl (Qz1 s4),Zae (i64 i5),Zae (Zal 1 (bytesR p6)),Zae (Zal 1 (digR q7))]∧z8=provedS s4 i5 p6 q7∧BIf (!z8) (R (.tup [Zbl Qz3,Zae (i64 12)]) b) (∃(xs9:List (List Dv)), [Zae (Zal 1 (partsR (Zdt s)))]= [Zae (Zal 1 xs9)]∧Zac xs9≤1000000∧BIf (List.isEmpty xs9) (Zbq lp21aI=Zbq lp21aI∧∃(s10:SprT) (pf11:List (List Dv)) (L12:List (List Int)) (z13:List (List Int)),(Zaz::Zaz::Zae (Zal 1 q)::bds 3 (Zbf 1 0::Zaz::Zbf 2 0::Zbf 3 0::bds 52 (Zae (Zal 1 [[Zal 1 p]])::Zae (i64 1)::Zae (i64 0)::bds 32 [])))=(Qz21 pf11 L12)∧some (Qz6 s)=some (Qz6 s10)∧((Zac L12≤1000000∧∀(p:List Int),p∈L12→Zac p≤1000000)∧z13=L12)∧∀(i:Int),∃(xs14:List (List Dv)), [Zae (Zal 1 (proofsR (SprT.qs s)))]= [Zae (Zal 1 xs14)]∧Zac xs14≤1000000∧BIf (List.isEmpty xs14) (Zbq lp21bI=Zbq lp21bI∧∃(s15:SprT) (X16:List (List Dv)) (L17:List (List Int)) (z18:List (List Int)),(Qz26 pf11)=(Qz13 L17)∧some (Qz7 s10 z13)=some (Blk.mk (Qz5 s15 X16) false false 0)∧((Zac L17≤1000000∧∀(p:List Int),p∈L17→Zac p≤1000000)∧z18=L17)∧∀(i:Int),R (.tup (Qz8 s15 X16 z18)) b) (0=0∧BIf (decide ((Zac xs14+1)*24≤140737488355328)) (1=1∧Zbq lp21bI=Zbq lp21bI∧1=1∧∃(xs19:List (List Dv)),flatA xs14++ [Zae (Zal 1 pf11)]=flatA xs19∧Zac xs19=Zac xs14+1∧(∀(r:List Dv),r∈xs19→Zac r=1)∧∃(s20:SprT) (X21:List (List Dv)) (L22:List (List Int)) (z23:List (List Int)),(Qz27 xs19 xs14)=(Qz13 L22)∧some (Qz7 s10 z13)=some (Blk.mk (Qz5 s20 X21) false false 0)∧((Zac L22≤1000000∧∀(p:List Int),p∈L22→Zac p≤1000000)∧z23=L22)∧∀(i:Int),R (.tup (Qz8 s20 X21 z23)) b) False)) (0=0∧BIf (decide ((Zac xs9+1)*24≤140737488355328)) (1=1∧Zbq lp21aI=Zbq lp21aI∧1=1∧∃(xs24:List (List Dv)),flatA xs9++ [Zae (Zal 1 p)]=flatA xs24∧Zac xs24=Zac xs9+1∧(∀(r:List Dv),r∈xs24→Zac r=1)∧∃(s25:SprT) (pf26:List (List Dv)) (L27:List (List Int)) (z28:List (List Int)),(Zaz::Zaz::Zae (Zal 1 q)::bds 3 (Zbf 1 0::Zaz::Zbf 2 0::Zbf 3 0::bds 52 (Zae (Zal 1 xs24)::Zae (i64 ((Zac xs9+1:Nat):Int))::Zae (i64 0)::bds 32 [])))=(Qz21 pf26 L27)∧some (Qz6 s)=some (Qz6 s25)∧((Zac L27≤1000000∧∀(p:List Int),p∈L27→Zac p≤1000000)∧z28=L27)∧∀(i:Int),∃(xs29:List (List Dv)), [Zae (Zal 1 (proofsR (SprT.qs s)))]= [Zae (Zal 1 xs29)]∧Zac xs29≤1000000∧BIf (List.isEmpty xs29) (Zbq lp21bI=Zbq lp21bI∧∃(s30:SprT) (X31:List (List Dv)) (L32:List (List Int)) (z33:List (List Int)),(Qz26 pf26)=(Qz13 L32)∧some (Qz7 s25 z28)=some (Blk.mk (Qz5 s30 X31) false false 0)∧((Zac L32≤1000000∧∀(p:List Int),p∈L32→Zac p≤1000000)∧z33=L32)∧∀(i:Int),R (.tup (Qz8 s30 X31 z33)) b) (0=0∧BIf (decide ((Zac xs29+1)*24≤140737488355328)) (1=1∧Zbq lp21bI=Zbq lp21bI∧1=1∧∃(xs34:List (List Dv)),flatA xs29++ [Zae (Zal 1 pf26)]=flatA xs34∧Zac xs34=Zac xs29+1∧(∀(r:List Dv),r∈xs34→Zac r=1)∧∃(s35:SprT) (X36:List (List Dv)) (L37:List (List Int)) (z38:List (List Int)),(Qz27 xs34 xs29)=(Qz13 L37)∧some (Qz7 s25 z28)=some (Blk.mk (Qz5 s35 X36) false false 0)∧((Zac L37≤1000000∧∀(p:List Int),p∈L37→Zac p≤1000000)∧z38=L37)∧∀(i:Int),R (.tup (Qz8 s35 X36 z38)) b) False)) False)))))):=by kernel_rfl
def zeroSp:SprT:=⟨⟨0,0,0,0⟩, [], [], [], [],0,0,0,0,0⟩
def putS (s:SprT) (p q:List Int):SprT×Int:=
 if soundS s=false∨p.length≠256 then (zeroSp,1) else if (s.ps.length:Int)=countS s.no.n then (zeroSp,10) else if provedS s s.ps.length p q=false then (zeroSp,12)
 else (⟨s.no,s.ps++ [p],s.qs++ [q], [], [],s.i1,s.i2,s.i3,s.i4,s.i5⟩,0)
theorem flatA_parts1 (ps:List (List Int)) (p:List Int):flatA (partsR ps)++ [Zae (.sl 1 (bytesR p))]=flatA (partsR (ps++ [p])):=by
 rw [←parts_app1,flatA_app];rfl
theorem flatA_proofs1 (ps:List (List Int)) (p:List Int):flatA (proofsR ps)++ [Zae (.sl 1 (digR p))]=flatA (proofsR (ps++ [p])):=by
 rw [←proofs_app1,flatA_app];rfl
theorem parts_row {ps:List (List Int)}:∀r∈partsR ps,r.length=1:=by
 intro r hr;simp only [partsR,Zbe] at hr;obtain ⟨_,_,rfl⟩:=hr;rfl
theorem proofs_row {ps:List (List Int)}:∀r∈proofsR ps,r.length=1:=by
 intro r hr;simp only [proofsR,Zbe] at hr;obtain ⟨_,_,rfl⟩:=hr;rfl
theorem sound_facts {s:SprT} (h:soundS s=true):s.ps.length≤4096∧s.qs.length=s.ps.length∧(∀p∈s.ps,p.length=256)∧sizedS s.no.n=true∧announcedS s.no.v s.no.n s.no.t=true:=by
 simp only [soundS,Zam] at h
 obtain ⟨h1,h2,h3,h4,h5⟩:=h
 have h6:sizedS s.no.n=true:=by simp only [announcedS,Zam] at h1;exact h1.2.2.1
 obtain ⟨k,hk,hk1,hk2⟩:=sized_nat h6
 rw [hk,countS_eq (by omega)] at h2
 refine ⟨by simp at h2;omega,by simp at h3;omega,fun p hp=> ?_,h6,h1⟩
 have h4:anyOther s.ps=false:=by simpa using h4
 rw [anyOther,List.any_eq_false] at h4
 have:=h4 p hp
 simp at this;omega
theorem pcPut (s:SprT) (p q:List Int) (hl:s.ps.length≤9223372036854775807) (hq:q.length≤1000000) (hqs:∀x∈s.qs,x.length≤1000000):
   PCall prog 53 [spV s, .d (.sl 1 (bytesR p)), .d (.sl 1 (digR q))] (.tup [spV (putS s p q).1, .d (i64 (putS s p q).2)]):=by
 refine PCall.ofFnV (n:=100) (u:=false) (fun _=>wl21I) mixed TPt_ok SPt_ok (fun Ev=>wl21_okI) func53 (by rfl) (by rfl) fun Ev bb=> ?_
 rw [put_nf]
 have bad:∀e:Int,putS s p q=(zeroSp,e)→LeV (AV.tup [Zbl [Zae (i64 (0:Int)),Zae (i64 (0:Int)),Zae (u64 (0:Int)),Zae (i64 (0:Int)),Zae (Dv.s (Zbn none 0 0)),Zae (Dv.s (Zbn none 0 0)),Zae (Dv.s (Zbn none 0 0)),Zae (Dv.s (Zbn none 0 0)),Zae (i64 (0:Int)),Zae (i64 (0:Int)),Zae (i64 (0:Int)),Zae (i64 (0:Int)),Zae (i64 (0:Int))],Zae (i64 e)])
     (.tup [spV (putS s p q).1, .d (i64 (putS s p q).2)]):=by
   intro e he
   rw [he]
   exact LeV.tups (.cons (LeV.aggs (.cons .rfl (.cons .rfl (.cons .rfl (.cons .rfl (.cons (.nil rfl) (.cons (.nil rfl) (.cons (.nil rfl) (.cons (.nil rfl) (LeVs.refl _)))))))))) (.cons .rfl .nil))
 have good:∀ps' qs',putS s p q=(⟨s.no,ps',qs', [], [],s.i1,s.i2,s.i3,s.i4,s.i5⟩,0)→LeV (AV.tup [Zbl [.d (i64 s.no.v), .d (i64 s.no.n), .d (u64 s.no.r), .d (i64 s.no.t), .d (.sl 1 (partsR ps')), .d (.sl 1 (proofsR qs')),Zae (Dv.s (Zbn none 0 0)),Zae (Dv.s (Zbn none 0 0)), .d (i64 s.i1), .d (i64 s.i2), .d (i64 s.i3), .d (i64 s.i4), .d (i64 s.i5)],Zae (i64 0)])
     (.tup [spV (putS s p q).1, .d (i64 (putS s p q).2)]):=by
   intro ps' qs' he
   rw [he]
   exact LeV.tups (.cons (LeV.aggs (.cons .rfl (.cons .rfl (.cons .rfl (.cons .rfl (.cons .rfl (.cons .rfl (.cons (.nil rfl) (.cons (.nil rfl) (LeVs.refl _)))))))))) (.cons .rfl .nil))
 refine ⟨s,_,rfl,⟨hl,rfl⟩,Zar (fun g=>bad 1 (by rw [putS,if_pos (.inl (by simpa using g))])) fun g1=>Zar (fun g=>bad 1 (by rw [putS,if_pos (.inr (by rw [bytesR_len] at g;simp at g;omega))])) fun g2=>⟨_,_,rfl,rfl,Zar (fun g=>bad 10 ?_) fun g3=>⟨s,_,p,q,_,rfl,rfl,Zar (fun g=>bad 12 ?_) fun g4=> ?_⟩⟩⟩
 all_goals
   have h1:soundS s=true:=by simpa using g1
   have h2:p.length=256:=by rw [bytesR_len] at g2;simp at g2;omega
   have hn:¬(soundS s=false∨p.length≠256):=by rw [h1,h2];simp
 · rw [partsR_len] at g
   rw [putS,if_neg hn,if_pos (by simpa using g)]
 · rw [partsR_len] at g3 g
   rw [putS,if_neg hn,if_neg (by simpa using g3),if_pos (by simpa using g)]
 rw [partsR_len] at g3
 obtain ⟨f1,f2,f3,f4,f5⟩:=sound_facts h1
 have h4:provedS s s.ps.length p q=true:=by rw [partsR_len] at g4;simpa using g4
 have hput:putS s p q=(⟨s.no,s.ps++ [p],s.qs++ [q], [], [],s.i1,s.i2,s.i3,s.i4,s.i5⟩,0):=by
   rw [putS,if_neg hn,if_neg (by simpa using g3),if_neg (by rw [h4];simp)]
 have eP:(partsR (s.ps++ [p])).length=(partsR s.ps).length+1:=by simp [partsR_len]
 have eQ:(proofsR (s.qs++ [q])).length=(proofsR s.qs).length+1:=by simp [proofs_len]
 have bP:(s.ps++ [p]).length≤1000000∧∀x∈s.ps++ [p],x.length≤1000000:=by
   refine ⟨by simp;omega,fun x hx=> ?_⟩
   rcases List.mem_append.1 hx with hx|hx
   · rw [f3 x hx];decide
   · simp at hx;subst hx;omega
 have bQ:(s.qs++ [q]).length≤1000000∧∀x∈s.qs++ [q],x.length≤1000000:=by
   refine ⟨by simp;omega,fun x hx=> ?_⟩
   rcases List.mem_append.1 hx with hx|hx
   · exact hqs x hx
   · simp at hx;subst hx;exact hq
 refine ⟨partsR s.ps,rfl,by rw [partsR_len];omega,Zar (fun h=> ?_) fun h=> ?_⟩
 · have e1:s.ps= []:=by
     have:(partsR s.ps).length=0:=by rw [List.isEmpty_iff] at h;rw [h];rfl
     rw [partsR_len] at this;exact List.length_eq_zero_iff.1 this
   have e2:s.qs= []:=List.length_eq_zero_iff.1 (by rw [f2,e1];rfl)
   rw [e1] at hput bP
   rw [e2] at hput bQ
   refine ⟨rfl,s,digR q, [p],_,rfl,rfl,⟨bP,rfl⟩,fun _=>⟨proofsR s.qs,rfl,by rw [proofs_len,f2];omega,Zbt (by rw [e2];rfl) ⟨rfl,s,partsR [p], [q],_,rfl,rfl,⟨bQ,rfl⟩,fun _=>good [p] [q] hput⟩⟩⟩
 · have e1:(proofsR s.qs).isEmpty=false:=by
     cases hq2:s.qs with
     | nil=>
       have:s.ps= []:=List.length_eq_zero_iff.1 (by rw [←f2,hq2];rfl)
       rw [this] at h;cases h
     |cons a l=>rfl
   refine ⟨rfl,Zbt (by rw [decide_eq_true_eq,partsR_len];omega) ⟨rfl,rfl,rfl,partsR (s.ps++ [p]),flatA_parts1 _ _,eP,parts_row,s,digR q,s.ps++ [p],_,congrArg (fun z:Nat=>tm21aI (digR q) (partsR (s.ps++ [p])) (z:Int) 0) eP.symm,rfl,⟨bP,rfl⟩,fun _=>⟨proofsR s.qs,rfl,by rw [proofs_len,f2];omega,Zea e1 ⟨rfl,Zbt (by rw [decide_eq_true_eq,proofs_len];omega) ⟨rfl,rfl,rfl,proofsR (s.qs++ [q]),flatA_proofs1 _ _,eQ,proofs_row,s,partsR (s.ps++ [p]),s.qs++ [q],_,congrArg (fun z:Nat=>tm21bI (proofsR (s.qs++ [q])) (z:Int) 0) eQ.symm,rfl,⟨bQ,rfl⟩,fun _=>good _ _ hput⟩⟩⟩⟩⟩
def cPut (args:List AV) (K:AV→Prop):Prop:=∃(s:SprT) (p q:List Int) (z:SprT) (e:Int),args= [spV s, .d (.sl 1 (bytesR p)), .d (.sl 1 (digR q))]∧((s.ps.length≤9223372036854775807∧q.length≤1000000∧∀x∈s.qs,x.length≤1000000)∧(z,e)=putS s p q)∧K (.tup [spV z, .d (i64 e)])
theorem cPut_ok:∀args K,cPut args K→∃x,PCall prog 53 args x∧K x:=by
 rintro _ K ⟨s,p,q,z,e,rfl,⟨⟨h1,h2,h3⟩,he⟩,h⟩
 have:=pcPut s p q h1 h2 h3
 rw [←he] at this
 exact ⟨_,this,h⟩
def TWh:List (Nat×(List AV→(AV→Prop)→Prop)):= [(88,cSound),(89,cJoin)]
theorem TWh_ok:CallsOk prog TWh:=Zag cSound_ok (Zag cJoin_ok Zaj)
theorem whole_nf (s:SprT):wpFn prog ⟨TWh, [],wl,y,false⟩ 100 f30 [spV s] b R=(∃(s0:SprT) (z1:Bool), [Zbl (Qz1 s)]= [Zbl (Qz1 s0)]∧(Zac (Zdt s0)≤9223372036854775807∧z1=soundS s0)∧BIf (!z1) (R (.tup [Zae (Dv.s (.slice none 0 0)),Zae (bo false)]) b) (∃(ps2:List (List Int)) (n3:Int) (z4:List Int) (e5:Int), [Zae (Zal 1 (partsR (Zdt s))),Zae (i64 (Zbv (Zby s)))]= [Zae (Zal 1 (partsR ps2)),Zae (i64 n3)]∧(Zac ps2≤9223372036854775807∧(z4,e5)=joinS ps2 n3)∧R (.tup [Zae (Zal 1 (bytesR z4)),Zae (bo (e5==(0:Int)))]) b)):=by kernel_rfl
def wholeS (s:SprT):List Int×Bool:=if soundS s then ((joinS s.ps s.no.n).1,(joinS s.ps s.no.n).2==0) else ([],false)
theorem pcWhole (s:SprT) (hl:s.ps.length≤9223372036854775807):PCall prog 30 [spV s] (.tup [.d (.sl 1 (bytesR (wholeS s).1)), .d (bo (wholeS s).2)]):=by
 refine PCall.ofFnV (n:=100) (u:=false) (fun _=>wlNo _) mixed TWh_ok Zaf (fun Ev=>wlNo_ok Ev) func30 (by rfl) (by rfl) fun Ev bb=> ?_
 rw [whole_nf]
 refine ⟨s,_,rfl,⟨hl,rfl⟩,Zar (fun g=> ?_) fun g=>⟨s.ps,s.no.n,_,_,rfl,⟨hl,rfl⟩, ?_⟩⟩
 · rw [wholeS,if_neg (by rw [show soundS s=false by simpa using g];simp)]
   exact LeV.tups (.cons (.nil rfl) (.cons .rfl .nil))
 · rw [wholeS,if_pos (show soundS s=true by simpa using g)]
   exact .rfl
def cWhole (args:List AV) (K:AV→Prop):Prop:=∃(s:SprT) (z:List Int) (e:Bool),args= [spV s]∧(s.ps.length≤9223372036854775807∧(z,e)=wholeS s)∧K (.tup [.d (.sl 1 (bytesR z)), .d (bo e)])
theorem cWhole_ok:∀args K,cWhole args K→∃x,PCall prog 30 args x∧K x:=by
 rintro _ K ⟨s,z,e,rfl,⟨hl,he⟩,h⟩
 have:=pcWhole s hl
 rw [←he] at this
 exact ⟨_,this,h⟩
noncomputable def lp20:Code:=sub [1,1,0,1,2,3] (code f31)
def tmCmp (n:Nat) (z a c:List (List Dv)) (i:Int):List AV:= [.d (.sl 1 a), .d (.sl 1 c), .bad, .bad, .bad, .d (i64 i)]++Zad n .bad
theorem r20 (a c:List (List Dv)) (i:Int):wpc prog ⟨[], [],wl,y,false⟩ 100 lp20 (tmCmp 20 [] a c i) [] b (maskT [0,1,4,5] K)=(BIf (decide (i<((Zac a:Nat):Int))) (BIf (true&&decide (0≤i)) (∃(x0:Int),a[Zat i]? =some [u8 x0]∧BIf (true&&decide (0≤i)) (∃(x3:Int),c[Zat i]? =some [u8 x3]∧BIf (x0 !=x3) (K .ret (Zae (Zal 1 a)::Zae (Zal 1 c)::Zaz::Zaz::Zae (bo false)::Zae (i64 i)::bds 20 []) [] b) (K .normal (Zae (Zal 1 a)::Zae (Zal 1 c)::bds 3 (Zae (i64 (Zaa .i64 (i+1)))::bds 20 [])) [] b)) False) False) (K (Exit.exit 0) (Zae (Zal 1 a)::Zae (Zal 1 c)::bds 3 (Zae (i64 i)::bds 20 [])) [] b)):=by kernel_rfl
theorem parts_at {p:List (List Int)} {k:Nat} (h:k<p.length):(partsR p)[k]? =some [.sl 1 (bytesR (nthL p k))]:=by simp [partsR,nthL,h]
theorem proofs_at {p:List (List Int)} {k:Nat} (h:k<p.length):(proofsR p)[k]? =some [.sl 1 (digR (nthL p k))]:=by simp [proofsR,nthL,h]
theorem nthL_mem {α:Type} {p:List (List α)} {k:Nat} (h:k<p.length):nthL p k∈p:=by
 rw [nthL,List.getD_eq_getElem?_getD,List.getElem?_eq_getElem h];exact List.getElem_mem h
theorem wr20 {Ev:Env prog} {b:Ev.β} {Q:Exit→St Ev.β→Prop} (a c:List Int) (hl:a.length=c.length) (hb:a.length≤9223372036854775807) (h1:a=c→∀i:Int,Q (.exit 0) ⟨tmCmp 20 [] (bytesR a) (bytesR c) i, [],b⟩) (h2:a≠c→∀i:Int,Q .ret ⟨(tmCmp 20 [] (bytesR a) (bytesR c) i).set 4 (.d (bo false)), [],b⟩):
   WR Ev lp20 (a.length+1) ⟨tmCmp 20 [] (bytesR a) (bytesR c) (0:Nat), [],b⟩ Q:=by
 refine WR.scan (X:=⟨[], [],wlW Ev,Ev.Y,false⟩) (k:=100) [0,1,4,5] mixed (CX.Ok.of Zaj Zaf) a.length (fun i=>nth a i !=nth c i) (fun i=>tmCmp 20 [] (bytesR a) (bytesR c) (i:Nat)) (fun i=>(tmCmp 20 [] (bytesR a) (bytesR c) (i:Nat)).set 4 (.d (bo false))) [] 0 (fun i hi K k1 k2=> ?_) (fun K k1=> ?_) (fun h=>h1 ?_ _) fun h i=>h2 ?_ _
 · rw [r20,bytesR_len]
   refine Zbt (by simp<;>omega) (Zbt (by simp) ⟨nth a i,by rw [Zba];exact bytes_at hi,Zbt (by simp) ⟨nth c i,by rw [Zba];exact bytes_at (by omega),Zar (fun g=>k1 g) fun g=> ?_⟩⟩)
   rw [wrap_succ hi hb];exact k2 g
 · rw [r20,bytesR_len]
   exact Zea (by simp) k1
 · rw [any_ne hl] at h;simpa using h
 · rw [any_ne hl] at h;simpa using h
def wl20I {β:Type}:WLT β:=fun t tm hp b K=>∃(a c:List Int) (z:Bool),t= .loop lp20∧maskTm [0,1,5] 0 tm=tmCmp 20 [] (bytesR a) (bytesR c) 0∧hp= []∧((a.length=c.length∧a.length≤9223372036854775807)∧z=decide (a=c))∧
 BIf z (∀i:Int,K (.exit 0) (tmCmp 20 [] (bytesR a) (bytesR c) i) [] b) (∀i:Int,K .ret ((tmCmp 20 [] (bytesR a) (bytesR c) i).set 4 (.d (bo false))) [] b)
theorem wl20_okI {Ev:Env prog} (c:Code) (tm:List AV) (hp:List Blk) (b:Ev.β) (K:Exit→List AV→List Blk→Ev.β→Prop) (h:wl20I c tm hp b K):W Ev c ⟨tm,hp,b⟩ (fun e s=>K e s.tm s.hp s.b):=by
 obtain ⟨a,d,z,rfl,htm,rfl,⟨⟨hl,hb⟩,hz⟩,hK⟩:=h
 refine W.cast (htm▸maskTm_le _ tm 0) (LeH.refl _) ?_
 exact W.rounds (wr20 (Q:=fun e s=>K e s.tm s.hp s.b) a d hl hb (fun h=>by rw [hz,decide_eq_true h] at hK;exact hK) fun h=>by rw [hz,decide_eq_false h] at hK;exact hK)
theorem f20_nfI (a c:List (List Dv)):wpFn prog ⟨[], [],wl20I,y,false⟩ 100 f31 [.d (.sl 1 a), .d (.sl 1 c)] b R=(BIf (((Zac a:Nat):Int) !=((Zac c:Nat):Int)) (R (.d (bo false)) b) (∃(a0:List Int) (c1:List Int) (z2:Bool),Zbq lp20=Zbq lp20∧(Zae (Zal 1 a)::Zae (Zal 1 c)::bds 3 (Zae (i64 0)::bds 20 []))=(Zae (Zal 1 (bytesR a0))::Zae (Zal 1 (bytesR c1))::bds 3 (Zae (i64 0)::bds 20 []))∧([]:List Blk)= []∧((Zac a0=Zac c1∧Zac a0≤9223372036854775807)∧z2=decide (a0=c1))∧BIf z2 (∀(i:Int),R (.d (bo true)) b) (∀(i:Int),R (.d (bo false)) b))):=by kernel_rfl
theorem pcBytes (a c:List Int) (ha:a.length≤9223372036854775807):PCall prog 31 [.d (.sl 1 (bytesR a)), .d (.sl 1 (bytesR c))] (.d (bo (decide (a=c)))):=by
 refine PCall.ofFnW (n:=100) (u:=false) (fun _=>wl20I) mixed Zaj Zaf (fun Ev=>wl20_okI) func31 (by rfl) (by rfl) fun Ev bb=> ?_
 rw [f20_nfI,bytesR_len,bytesR_len]
 refine Zar (fun g=> ?_) fun g=>⟨a,c,_,rfl,rfl,rfl,⟨⟨by simp at g;omega,ha⟩,rfl⟩,Zar (fun h i=>by rw [h]) fun h i=>by rw [h]⟩
 rw [decide_eq_false fun h=>by rw [h] at g;simp at g]
def cBytes (args:List AV) (K:AV→Prop):Prop:=∃(a c:List Int) (z:Bool),args= [.d (.sl 1 (bytesR a)), .d (.sl 1 (bytesR c))]∧(a.length≤9223372036854775807∧z=decide (a=c))∧K (.d (bo z))
theorem cBytes_ok:∀args K,cBytes args K→∃x,PCall prog 31 args x∧K x:=by
 rintro _ K ⟨a,c,_,rfl,⟨hl,rfl⟩,h⟩;exact ⟨_,pcBytes a c hl,h⟩
theorem checkF_len:∀(n w k:Nat) (q:List Int) (s:Int),(q.length<lenW n w k→checkF (walkP n w k) q s=none)∧(lenW n w k≤q.length→∃z,checkF (walkP n w k) q s=some (q.drop (lenW n w k),z))
 |0,w,k,q,s=>⟨fun h=>by simp [lenW] at h,fun _=>⟨s,rfl⟩⟩
 | n+1,w,k,q,s=>by
   by_cases h1:1<w
   · rw [lenW,if_pos h1,walkP,if_pos h1]
     by_cases h2:sibN k<w
     · rw [if_pos h2,decide_eq_true h2]
       cases q with
       |nil=>exact ⟨fun _=>checkF_nil _ _ _,fun h=>by simp at h⟩
       | cons x q=>
         cases hb:k % 2==1 with
         | true=>
           rw [checkF_t]
           have:=checkF_len n ((w+1) / 2) (k / 2) q (pairS x s)
           refine ⟨fun h=>this.1 (by simp at h;omega),fun h=> ?_⟩
           obtain ⟨z,hz⟩:=this.2 (by simp at h;omega)
           exact ⟨z,by rw [hz,Nat.add_comm 1,List.drop_succ_cons]⟩
         | false=>
           rw [checkF_g]
           have:=checkF_len n ((w+1) / 2) (k / 2) q (pairS s x)
           refine ⟨fun h=>this.1 (by simp at h;omega),fun h=> ?_⟩
           obtain ⟨z,hz⟩:=this.2 (by simp at h;omega)
           exact ⟨z,by rw [hz,Nat.add_comm 1,List.drop_succ_cons]⟩
     · rw [if_neg h2,decide_eq_false h2,checkF_f,Nat.zero_add]
       exact checkF_len n ((w+1) / 2) (k / 2) q s
   · rw [lenW,if_neg h1,walkP,if_neg h1]
     exact ⟨fun h=>by simp at h,fun _=>⟨s,rfl⟩⟩
theorem lenW_le:∀(n w k:Nat),lenW n w k≤n
 |0,w,k=>by simp [lenW]
 | n+1,w,k=>by
   have:=lenW_le n ((w+1) / 2) (k / 2)
   rw [lenW];split
   · split<;>omega
   · omega
def pieceP (p:List Int) (i:Nat):List Int:=(p.drop (i*256)).take 256
theorem pieceP_drop (p:List Int) (i:Nat):pieceP (p.drop 256) i=pieceP p (i+1):=by
 rw [pieceP,pieceP,List.drop_drop];congr 2;omega
theorem chunk_pieces:∀(n:Nat) (p:List Int),p.length≤n→chunkD 256 n p=(Zbd ((p.length+255) / 256)).map (pieceP p)
 | 0,p,h=>by
   have:p= []:=List.length_eq_zero_iff.1 (by omega)
   subst this;rfl
 | n+1,p,h=>by
   rw [chunkD]
   cases hp:p with
   |nil=>rfl
   | cons a l=>
     rw [if_neg (by simp),←hp]
     have hl:1≤p.length:=by rw [hp];simp
     rw [chunk_pieces n (p.drop 256) (by simp;omega)]
     have e:(p.length+255) / 256=((p.drop 256).length+255) / 256+1:=by rw [List.length_drop];omega
     rw [e,List.range_succ_eq_map,List.map_cons,List.map_map]
     refine congr (congrArg _ ?_) (List.map_congr_left fun i _=>pieceP_drop p i)
     rw [pieceP];simp
theorem split_pieces (p:List Int):splitS p=(Zbd ((p.length+255) / 256)).map fun i=>padS (pieceP p i):=by
 rw [splitS,chunk_pieces _ _ (Nat.le_refl _),List.map_map];rfl
theorem piece_len (p:List Int) (i:Nat):(pieceP p i).length≤256:=by rw [pieceP,List.length_take];omega
theorem bytes_row {p:List Int}:∀r∈bytesR p,r.length=1:=by
 intro r hr;simp only [bytesR,Zbe] at hr;obtain ⟨_,_,rfl⟩:=hr;rfl
theorem dropW_nil (f:Int→Bool):∀l:List Int,l.dropWhile f= []↔∀x∈l,f x=true
 | []=>by simp
 | a::l=>by
   rw [List.dropWhile_cons]
   split
   · rename_i h
     rw [dropW_nil f l]
     refine ⟨fun g x hx=> ?_,fun g x hx=>g x (List.mem_cons_of_mem _ hx)⟩
     rcases List.mem_cons.1 hx with rfl|hx
     · exact h
     · exact g x hx
   · rename_i h
     exact ⟨fun g=>(by cases g),fun g=>absurd (g a (List.mem_cons_self ..)) h⟩
theorem trimS_all (l:List Int):(0<(trimS l).length)↔l.all (· ==0)=false:=by
 have key:trimS l= []↔∀x∈l,x=0:=by
   rw [trimS,dropW_nil]
   constructor
   · intro h x hx
     have hx':x∈l.reverse:=List.mem_reverse.2 hx
     rw [←List.takeWhile_append_dropWhile (p:=(· ==(0:Int))) (l:=l.reverse)] at hx'
     rcases List.mem_append.1 hx' with h1|h1
     · simpa using (List.all_eq_true.1 (List.all_takeWhile (p:=(· ==(0:Int))) (l:=l.reverse)) x h1)
     · have:=h x (by rw [trimR,List.mem_reverse];exact h1)
       simpa using this
   · intro h x hx
     rw [trimR,List.mem_reverse] at hx
     have:=h x (List.mem_reverse.1 ((List.dropWhile_sublist _).subset hx))
     simp [this]
 constructor
 · intro h
   cases hl:l.all (· ==0) with
   |false=>rfl
   | true=>
     have:trimS l= []:=key.2 fun x hx=>by simpa using List.all_eq_true.1 hl x hx
     rw [this] at h;simp at h
 · intro h
   apply Classical.byContradiction
   intro hc
   have:trimS l= []:=List.length_eq_zero_iff.1 (by omega)
   have:=key.1 this
   have:l.all (· ==0)=true:=List.all_eq_true.2 fun x hx=>by simp [this x hx]
   rw [this] at h;cases h
noncomputable def lp22:Code:=sub [1,1,1,1,1,1,0,1,2,3] (code f60)
def tm22 (p q:List (List Dv)) (i:Int):List AV:= [.bad, .d (.sl 1 p), .d (.sl 1 q), .ptr 0 0, .bad, .bad, .ptr 1 0, .bad, .bad, .ptr 2 0, .d (i64 i)]++Zad 92 .bad
theorem r22 (s:SprT) (b1:Blk) (p q X Y:List (List Dv)) (i:Int):wpc prog ⟨[], [],wl,y,false⟩ 100 lp22 (tm22 p q i) [blkSI s,b1,outB s (.own 33 1 X) (.own 28 1 Y)] b (maskT [1,2,3,6,9,10] K)=(BIf (decide (i<((Zac (partsR (Zdt s)):Nat):Int))) (BIf (true&&decide (0≤i)) (∃(xs0:List (List Dv)),(partsR (Zdt s))[Zat i]? =some [Zal 1 xs0]∧BIf (decide (Zac xs0*1≤140737488355328)) (BIf (true&&decide (0≤i)) (∃(xs3:List (List Dv)),(proofsR (SprT.qs s))[Zat i]? =some [Zal 1 xs3]∧BIf (decide (Zac xs3*8≤140737488355328)) (BIf (true&&decide ((Zac X+1)*24≤140737488355328)) (BIf (true&&decide ((Zac Y+1)*24≤140737488355328)) (K .normal (Zaz::Zae (Zal 1 p)::Zae (Zal 1 q)::Zbf 0 0::Zaz::Zaz::Zbf 1 0::Zaz::Zaz::Zbf 2 0::Zae (i64 (Zaa .i64 (i+1)))::bds 92 []) [Blk.mk (Qz1 s) false false 0,b1,Blk.mk [Zae (i64 (Zbm (Zby s))),Zae (i64 (Zbv (Zby s))),Zae (u64 (Zca (Zby s))),Zae (i64 (Zbz (Zby s))),AV.own 33 1 (X++ [[Zal 1 xs0]]),AV.own 28 1 (Y++ [[Zal 1 xs3]]),Zae (Dv.s (.slice none 0 0)),Zae (Dv.s (.slice none 0 0)),Zae (i64 (SprT.i1 s)),Zae (i64 (SprT.i2 s)),Zae (i64 (SprT.i3 s)),Zae (i64 (SprT.i4 s)),Zae (i64 (SprT.i5 s))] false false 0] b) False) False) False) False) False) False) (K (Exit.exit 0) (Zaz::Zae (Zal 1 p)::Zae (Zal 1 q)::Zbf 0 0::Zaz::Zaz::Zbf 1 0::Zaz::Zaz::Zbf 2 0::Zae (i64 i)::bds 92 []) [Blk.mk (Qz1 s) false false 0,b1,Blk.mk (Qz17 s X Y) false false 0] b)):=by kernel_rfl
theorem split_are {p:List Int} (h:sizedS p.length=true):areS (splitS p)=true:=by
 obtain ⟨k,hk,hk1,hk2⟩:=sized_nat h
 have hl:(splitS p).length=(p.length+255) / 256:=by rw [split_pieces];simp
 have ha:anyLong (splitS p)=false:=by
   rw [anyLong,List.any_eq_false]
   intro q hq
   rw [split_pieces] at hq
   obtain ⟨i,_,rfl⟩:=Zbe.1 hq
   have:=padS_len (piece_len p i)
   simp;omega
 rw [areS,ha,hl]
 have:p.length=k:=by omega
 rw [decide_eq_true (by omega),decide_eq_true (by omega)];rfl
def splitE (p:List Int):List (List Int)×Int:=if sizedS p.length then (splitS p,0) else ([],1)
def cSplitE (args:List AV) (K:AV→Prop):Prop:=∃(p:List Int) (q:List (List Int)) (e:Int),args= [.d (.sl 1 (bytesR p))]∧(p.length≤9223372036854775807∧(q,e)=splitE p)∧K (.tup [.d (.sl 1 (partsR q)), .d (i64 e)])
theorem cSplitE_ok:∀args K,cSplitE args K→∃x,PCall prog 27 args x∧K x:=by
 rintro _ K ⟨p,q,e,rfl,⟨hl,he⟩,h⟩
 have h1:=pcSplit p hl
 rw [splitE] at he
 split at he
 · rename_i hz
   rw [if_pos hz] at h1
   cases he;exact ⟨_,h1,h⟩
 · rename_i hz
   rw [if_neg hz] at h1
   cases he;exact ⟨_,h1,h⟩
def smpF (i:Nat):Int:=Zaa .u8 (Zaa .i64 ((i:Int)*7))
def smp:List Int:=(Zbd 300).map smpF
structure TrT where
 iv:Int
 bg:Int
 fi:Int
 ct:Int
 sd:Int
def trL (t:TrT):List AV:= [.d (i64 t.iv), .d (i64 t.bg), .d (i64 t.fi), .d (i64 t.ct), .d (i64 t.sd)]
def trV (t:TrT):AV:= .agg (trL t)
def trB (t:TrT):Blk:=⟨trL t,false,false,0⟩
def noL (n:NotT):List AV:= [.d (i64 n.v), .d (i64 n.n), .d (u64 n.r), .d (i64 n.t)]
def spL (s:SprT):List AV:= [.d (i64 s.no.v), .d (i64 s.no.n), .d (u64 s.no.r), .d (i64 s.no.t), .d (.sl 1 (partsR s.ps)), .d (.sl 1 (proofsR s.qs)), .d (.sl 2 s.rows), .d (.sl 1 (digR s.pf)), .d (i64 s.i1), .d (i64 s.i2), .d (i64 s.i3), .d (i64 s.i4), .d (i64 s.i5)]
def inS (n lo hi:Int):Bool:=decide (lo≤n)&&decide (n≤hi)
theorem in_nf (n lo hi:Int):wpFn prog ⟨[], [],wl,y,false⟩ 100 f186 [.d (i64 n), .d (i64 lo), .d (i64 hi)] b R=(BIf (decide (n≥lo)) (R (Zae (bo (decide (n≤hi)))) b) (R (Zae (bo false)) b)):=by kernel_rfl
theorem pcIn (n lo hi:Int):PCall prog 186 [.d (i64 n), .d (i64 lo), .d (i64 hi)] (.d (bo (inS n lo hi))):=by
 refine Zbi (n:=100) (u:=false) mixed Zaj Zaf func186 (by rfl) (by rfl) fun Ev bb=> ?_
 rw [in_nf]
 have e:inS n lo hi=(decide (n≥lo)&&decide (n≤hi)):=rfl
 rw [e]
 exact Zar (fun h=>by rw [h];rfl) fun h=>by rw [h];rfl
def cIn (args:List AV) (K:AV→Prop):Prop:=∃(n lo hi:Int),args= [.d (i64 n), .d (i64 lo), .d (i64 hi)]∧K (.d (bo (inS n lo hi)))
theorem cIn_ok:∀args K,cIn args K→∃x,PCall prog 186 args x∧K x:=by
 rintro _ K ⟨n,lo,hi,rfl,h⟩;exact ⟨_,pcIn n lo hi,h⟩
def TIn:List (Nat×(List AV→(AV→Prop)→Prop)):= [(186,cIn)]
theorem TIn_ok:CallsOk prog TIn:=Zag cIn_ok Zaj
def tseedS (x:Int):Bool:=inS x 0 1000000000
def frameS (x:Int):Bool:=inS x 0 999999984
theorem tseed_nf (n:Int):wpFn prog ⟨TIn, [],wl,y,false⟩ 100 f140 [.d (i64 n)] b R=(∃(n0:Int) (lo1:Int) (hi2:Int), [Zae (i64 n),Zae (i64 0),Zae (i64 1000000000)]= [Zae (i64 n0),Zae (i64 lo1),Zae (i64 hi2)]∧R (.d (bo (inS n0 lo1 hi2))) b):=by kernel_rfl
theorem frame_nf (n:Int):wpFn prog ⟨TIn, [],wl,y,false⟩ 100 f135 [.d (i64 n)] b R=(∃(n0:Int) (lo1:Int) (hi2:Int), [Zae (i64 n),Zae (i64 0),Zae (i64 999999984)]= [Zae (i64 n0),Zae (i64 lo1),Zae (i64 hi2)]∧R (.d (bo (inS n0 lo1 hi2))) b):=by kernel_rfl
theorem pcTSeed (n:Int):PCall prog 140 [.d (i64 n)] (.d (bo (tseedS n))):=by
 refine Zbi (n:=100) (u:=false) mixed TIn_ok Zaf func140 (by rfl) (by rfl) fun Ev bb=> ?_
 rw [tseed_nf]
 exact ⟨_,_,_,rfl,rfl⟩
theorem pcFrame (n:Int):PCall prog 135 [.d (i64 n)] (.d (bo (frameS n))):=by
 refine Zbi (n:=100) (u:=false) mixed TIn_ok Zaf func135 (by rfl) (by rfl) fun Ev bb=> ?_
 rw [frame_nf]
 exact ⟨_,_,_,rfl,rfl⟩
def cTSeed (args:List AV) (K:AV→Prop):Prop:=∃(n:Int),args= [.d (i64 n)]∧K (.d (bo (tseedS n)))
def cFrame (args:List AV) (K:AV→Prop):Prop:=∃(n:Int),args= [.d (i64 n)]∧K (.d (bo (frameS n)))
theorem cTSeed_ok:∀args K,cTSeed args K→∃x,PCall prog 140 args x∧K x:=by
 rintro _ K ⟨n,rfl,h⟩;exact ⟨_,pcTSeed n,h⟩
theorem cFrame_ok:∀args K,cFrame args K→∃x,PCall prog 135 args x∧K x:=by
 rintro _ K ⟨n,rfl,h⟩;exact ⟨_,pcFrame n,h⟩
def TIv:List (Nat×(List AV→(AV→Prop)→Prop)):= [(186,cIn),(135,cFrame),(140,cTSeed)]
theorem TIv_ok:CallsOk prog TIv:=Zag cIn_ok (Zag cFrame_ok (Zag cTSeed_ok Zaj))
def TFi:List (Nat×(List AV→(AV→Prop)→Prop)):= [(153,c58)]
theorem TFi_ok:CallsOk prog TFi:=Zag c58_ok Zaj
theorem isValid_nf (t:TrT):wpFn prog ⟨TIv, [],wl,y,false⟩ 100 f134 [trV t] b R=(∃(n0:Int) (lo1:Int) (hi2:Int), [Zae (i64 (TrT.iv t)),Zae (i64 1),Zae (i64 8)]= [Zae (i64 n0),Zae (i64 lo1),Zae (i64 hi2)]∧BIf (!inS n0 lo1 hi2) (R (.d (bo false)) b) (BIf (Zaa .i64 ((BitVec.toNat (Zao 64 (TrT.iv t)&&&Zao 64 (Zaa .i64 (TrT.iv t - (1:Int)))):Nat):Int) !=(0:Int)) (R (.d (bo false)) b) (∃(n3:Int), [Zae (i64 (TrT.bg t))]= [Zae (i64 n3)]∧BIf (!frameS n3) (R (.d (bo false)) b) (∃(n4:Int), [Zae (i64 (TrT.sd t))]= [Zae (i64 n4)]∧BIf (!tseedS n4) (R (.d (bo false)) b) (∃(n5:Int) (lo6:Int) (hi7:Int), [Zae (i64 (TrT.fi t)),Zae (i64 (Zaa .i64 (TrT.bg t+Zaa .i64 (Int.tdiv (TrT.iv t) (2:Int))))),Zae (i64 (Zaa .i64 (Zaa .i64 (TrT.bg t+TrT.iv t) - (1:Int))))]= [Zae (i64 n5),Zae (i64 lo6),Zae (i64 hi7)]∧BIf (inS n5 lo6 hi7) (∃(n8:Int) (lo9:Int) (hi10:Int), [Zae (i64 (TrT.ct t)),Zae (i64 0),Zae (i64 100)]= [Zae (i64 n8),Zae (i64 lo9),Zae (i64 hi10)]∧R (.d (bo (inS n8 lo9 hi10))) b) (R (.d (bo false)) b)))))):=by kernel_rfl
theorem below_nf (s n:Int):wpFn prog ⟨TFi, [],wl,y,false⟩ 100 f187 [.d (u64 s), .d (i64 n)] b R=(BIf (decide (n<(1:Int))) (R (.d (i64 0)) b) (BIf (decide (n>(1000000000:Int))) (R (.d (i64 0)) b) (∃(x0:Int), [Zae (u64 s)]= [Zae (u64 x0)]∧BIf (decide (n=(0:Int))||false) False (R (.d (i64 (Int.tmod (firstS x0) n))) b)))):=by kernel_rfl
def validT (t:TrT):Bool:=(decide (t.iv=1)||decide (t.iv=2)||decide (t.iv=4)||decide (t.iv=8))&&frameS t.bg&&tseedS t.sd&&(decide (t.bg+t.iv / 2≤t.fi)&&decide (t.fi≤t.bg+t.iv - 1))&&inS t.ct 0 100
theorem inS_iff {n lo hi:Int}:inS n lo hi=true↔lo≤n∧n≤hi:=by simp [inS]
theorem pow_iff {n:Int} (h:inS n 1 8=true):(Zaa Zax ((BitVec.toNat (Zao 64 n&&&Zao 64 (Zaa Zax (n - 1))):Nat):Int) !=0)= !(decide (n=1)||decide (n=2)||decide (n=4)||decide (n=8)):=by
 rw [inS_iff] at h
 obtain ⟨h1,h2⟩:=h
 have:n=1∨n=2∨n=3∨n=4∨n=5∨n=6∨n=7∨n=8:=by omega
 rcases this with rfl|rfl|rfl|rfl|rfl|rfl|rfl|rfl<;>rfl
theorem not_pow {n:Int} (h:inS n 1 8=false):(decide (n=1)||decide (n=2)||decide (n=4)||decide (n=8))=false:=by
 have h':¬(1≤n∧n≤8):=fun hc=>by rw [inS_iff.2 hc] at h;cases h
 simp only [Bool.or_eq_false_iff,decide_eq_false_iff_not]
 omega
theorem validT_iff {t:TrT}:validT t=true↔(t.iv=1∨t.iv=2∨t.iv=4∨t.iv=8)∧(0≤t.bg∧t.bg≤999999984)∧(0≤t.sd∧t.sd≤1000000000)∧(t.bg+t.iv / 2≤t.fi∧t.fi≤t.bg+t.iv - 1)∧0≤t.ct∧t.ct≤100:=by
 simp only [validT,Zam,Bool.or_eq_true,decide_eq_true_eq,frameS,tseedS,inS_iff,and_assoc,or_assoc]
theorem nbt {x:Bool} (h:(!x)=true):x=false:=by cases x<;>first|rfl|cases h
theorem nbf {x:Bool} (h:(!x)=false):x=true:=by cases x<;>first|rfl|cases h
theorem wr64 {x:Int} (h1: -9223372036854775808≤x) (h2:x≤9223372036854775807):Zaa .i64 x=x:=wrap_i64 h1 (by omega)
theorem pcIsValid (t:TrT):PCall prog 134 [trV t] (.d (bo (validT t))):=by
 refine Zbi (n:=100) (u:=false) mixed TIv_ok Zaf func134 (by rfl) (by rfl) fun Ev bb=> ?_
 rw [isValid_nf]
 refine ⟨_,_,_,rfl,Zar (fun g=> ?_) fun g1=>Zar (fun g=> ?_) fun g2=>⟨_,rfl,Zar (fun g=> ?_) fun g3=>⟨_,rfl,Zar (fun g=> ?_) fun g4=>⟨_,_,_,rfl, ?_⟩⟩⟩⟩
 · have g:inS t.iv 1 8=false:=by simpa using g
   rw [show validT t=false by simp only [validT,not_pow g,Bool.false_and]]
 · have g1:inS t.iv 1 8=true:=by simpa using g1
   rw [pow_iff g1] at g
   rw [show validT t=false by simp only [validT,nbt g,Bool.false_and]]
 · rw [show validT t=false by simp only [validT,nbt g,Bool.false_and,Bool.and_false]]
 · rw [show validT t=false by simp only [validT,nbt g,Bool.false_and,Bool.and_false]]
 · have g1:inS t.iv 1 8=true:=by simpa using g1
   rw [pow_iff g1] at g2
   have g3:frameS t.bg=true:=by simpa using g3
   have g4:tseedS t.sd=true:=by simpa using g4
   have g2:(decide (t.iv=1)||decide (t.iv=2)||decide (t.iv=4)||decide (t.iv=8))=true:=nbf g2
   have b1:=inS_iff.1 g1
   have b3:=inS_iff.1 g3
   have e1:Zaa Zax (t.bg+Zaa Zax (Int.tdiv t.iv 2))=t.bg+t.iv / 2:=by
     rw [Int.tdiv_eq_ediv_of_nonneg (by omega),wr64 (x:=t.iv / 2) (by omega) (by omega),wr64 (by omega) (by omega)]
   have e2:Zaa Zax (Zaa Zax (t.bg+t.iv) - 1)=t.bg+t.iv - 1:=by
     rw [wr64 (x:=t.bg+t.iv) (by omega) (by omega),wr64 (by omega) (by omega)]
   have ev:validT t=(inS t.fi (t.bg+t.iv / 2) (t.bg+t.iv - 1)&&inS t.ct 0 100):=by
     simp only [validT,g2,g3,g4,Bool.true_and];rfl
   rw [e1,e2,ev]
   refine Zar (fun h=> ?_) fun h=> ?_
   · rw [h,Bool.true_and];exact ⟨_,_,_,rfl,rfl⟩
   · rw [h];rfl
def cIsValid (args:List AV) (K:AV→Prop):Prop:=∃(t:TrT),args= [trV t]∧K (.d (bo (validT t)))
theorem cIsValid_ok:∀args K,cIsValid args K→∃x,PCall prog 134 args x∧K x:=by
 rintro _ K ⟨n,rfl,h⟩;exact ⟨_,pcIsValid n,h⟩
def belowS (s n:Int):Int:=if n<1∨n>1000000000 then 0 else Int.tmod (firstS s) n
theorem pcBelow (s n:Int):PCall prog 187 [.d (u64 s), .d (i64 n)] (.d (i64 (belowS s n))):=by
 refine Zbi (n:=100) (u:=false) mixed TFi_ok Zaf func187 (by rfl) (by rfl) fun Ev bb=> ?_
 rw [below_nf]
 refine Zar (fun h=> ?_) fun h1=>Zar (fun h=> ?_) fun h2=>⟨_,rfl,Zea ?_ ?_⟩
 · rw [belowS,if_pos (.inl (of_decide_eq_true h))]
 · rw [belowS,if_pos (.inr (of_decide_eq_true h))]
 · have h1:=of_decide_eq_false h1
   simp;omega
 · have h1:=of_decide_eq_false h1
   have h2:=of_decide_eq_false h2
   rw [belowS,if_neg (by omega)]
def cBelow (args:List AV) (K:AV→Prop):Prop:=∃(s n:Int),args= [.d (u64 s), .d (i64 n)]∧K (.d (i64 (belowS s n)))
theorem cBelow_ok:∀args K,cBelow args K→∃x,PCall prog 187 args x∧K x:=by
 rintro _ K ⟨s,n,rfl,h⟩;exact ⟨_,pcBelow s n,h⟩
def TBe:List (Nat×(List AV→(AV→Prop)→Prop)):= [(187,cBelow)]
theorem TBe_ok:CallsOk prog TBe:=Zag cBelow_ok Zaj
theorem begin2_nf (b0:Blk) (t:TrT) (l f:Int):wpc prog ⟨TBe, [],wl,y,false⟩ 100 (code f136) (startTm f136 [.ptr 1 0, .d (i64 l), .d (i64 f)]) [b0,trB t] b (fnKS prog f136 RS)=(∃(s0:Int) (n1:Int), [Zae (u64 (Zaa .u64 (Zaa .u64 ((1000003:Int)*Zaa .u64 (TrT.sd t))+Zaa .u64 f))),Zae (i64 (Zaa .i64 (l - Zaa .i64 (Int.tdiv l (2:Int)))))]= [Zae (u64 s0),Zae (i64 n1)]∧RS (AV.tup []) [b0,Blk.mk [Zae (i64 l),Zae (i64 f),Zae (i64 (Zaa .i64 (Zaa .i64 (f+Zaa .i64 (Int.tdiv l (2:Int)))+belowS s0 n1))),Zae (i64 0),Zae (i64 (TrT.sd t))] false false 0] b):=by kernel_rfl
theorem begin3_nf (b0 b1:Blk) (t:TrT) (l f:Int):wpc prog ⟨TBe, [],wl,y,false⟩ 100 (code f136) (startTm f136 [.ptr 2 0, .d (i64 l), .d (i64 f)]) [b0,b1,trB t] b (fnKS prog f136 RS)=(∃(s0:Int) (n1:Int), [Zae (u64 (Zaa .u64 (Zaa .u64 ((1000003:Int)*Zaa .u64 (TrT.sd t))+Zaa .u64 f))),Zae (i64 (Zaa .i64 (l - Zaa .i64 (Int.tdiv l (2:Int)))))]= [Zae (u64 s0),Zae (i64 n1)]∧RS (AV.tup []) [b0,b1,Blk.mk [Zae (i64 l),Zae (i64 f),Zae (i64 (Zaa .i64 (Zaa .i64 (f+Zaa .i64 (Int.tdiv l (2:Int)))+belowS s0 n1))),Zae (i64 0),Zae (i64 (TrT.sd t))] false false 0] b):=by kernel_rfl
theorem belowS_range (s:Int) {n:Int} (h1:1≤n) (h2:n≤1000000000):0≤belowS s n∧belowS s n<n:=by
 have h:=firstS_range s
 rw [belowS,if_neg (by omega),Int.tmod_eq_emod_of_nonneg h.1]
 exact ⟨Int.emod_nonneg _ (by omega),Int.emod_lt_of_pos _ (by omega)⟩
def beginS (sd l f:Int):TrT:=⟨l,f,f+l / 2+belowS (1000003*sd+f) (l - l / 2),0,sd⟩
def lenS (l:Int):Prop:=l=1∨l=2∨l=4∨l=8
theorem begin_valid {sd l f:Int} (hl:lenS l) (hf:frameS f=true) (hs:tseedS sd=true):validT (beginS sd l f)=true:=by
 have hf:=inS_iff.1 hf
 have hs:=inS_iff.1 hs
 unfold lenS at hl
 have hb:=belowS_range (1000003*sd+f) (n:=l - l / 2) (by omega) (by omega)
 rw [validT_iff]
 refine ⟨hl,hf,hs,⟨?_, ?_⟩,by simp [beginS],by simp [beginS]⟩<;>(simp only [beginS];omega)
theorem begin_eq {sd l f:Int} (hl:lenS l) (hf:frameS f=true) (hs:tseedS sd=true):
   Zaa IntKind.u64 (Zaa IntKind.u64 (1000003*Zaa IntKind.u64 sd)+Zaa IntKind.u64 f)=1000003*sd+f∧
   Zaa Zax (l - Zaa Zax (Int.tdiv l 2))=l - l / 2∧
   Zaa Zax (Zaa Zax (f+Zaa Zax (Int.tdiv l 2))+belowS (1000003*sd+f) (l - l / 2))=f+l / 2+belowS (1000003*sd+f) (l - l / 2):=by
 have hf:=inS_iff.1 hf
 have hs:=inS_iff.1 hs
 unfold lenS at hl
 have hb:=belowS_range (1000003*sd+f) (n:=l - l / 2) (by omega) (by omega)
 have e1:Zaa Zax (Int.tdiv l 2)=l / 2:=by
   rw [Int.tdiv_eq_ediv_of_nonneg (by omega),wr64 (by omega) (by omega)]
 rw [e1]
 refine ⟨?_,wr64 (by omega) (by omega), ?_⟩
 · rw [wrap_u64 (x:=sd) (by omega) (by omega),wrap_u64 (x:=f) (by omega) (by omega),wrap_u64 (x:=1000003*sd) (by omega) (by omega),wrap_u64 (by omega) (by omega)]
 · rw [wr64 (x:=f+l / 2) (by omega) (by omega),wr64 (by omega) (by omega)]
theorem begin_body:Tryz.f136.body=some (code f136):=by rfl
theorem scBegin2 (b0:Blk) (t:TrT) (l f:Int) (hl:lenS l) (hf:frameS f=true) (hs:tseedS t.sd=true):SCall prog 136 [.ptr 1 0, .d (i64 l), .d (i64 f)] [b0,trB t] (.tup []) [b0,trB (beginS t.sd l f)]:=by
 refine SCall.ofWp (n:=100) (u:=false) mixed TBe_ok Zaf func136 begin_body (by rfl) fun Ev b=> ?_
 rw [begin2_nf]
 obtain ⟨e1,e2,e3⟩:=begin_eq hl hf hs
 rw [e1,e2]
 refine ⟨_,_,rfl,rfl, ?_⟩
 rw [e3];rfl
theorem scBegin3 (b0 b1:Blk) (t:TrT) (l f:Int) (hl:lenS l) (hf:frameS f=true) (hs:tseedS t.sd=true):SCall prog 136 [.ptr 2 0, .d (i64 l), .d (i64 f)] [b0,b1,trB t] (.tup []) [b0,b1,trB (beginS t.sd l f)]:=by
 refine SCall.ofWp (n:=100) (u:=false) mixed TBe_ok Zaf func136 begin_body (by rfl) fun Ev b=> ?_
 rw [begin3_nf]
 obtain ⟨e1,e2,e3⟩:=begin_eq hl hf hs
 rw [e1,e2]
 refine ⟨_,_,rfl,rfl, ?_⟩
 rw [e3];rfl
def sBegin (args:List AV) (hp:List Blk) (K:AV→List Blk→Prop):Prop:=match hp with
 | [b0,b1]=>∃(t:TrT) (l f:Int),args= [.ptr 1 0, .d (i64 l), .d (i64 f)]∧b1=trB t∧(lenS l∧frameS f=true∧tseedS t.sd=true)∧K (.tup []) [b0,trB (beginS t.sd l f)]
 | [b0,b1,b2]=>∃(t:TrT) (l f:Int),args= [.ptr 2 0, .d (i64 l), .d (i64 f)]∧b2=trB t∧(lenS l∧frameS f=true∧tseedS t.sd=true)∧K (.tup []) [b0,b1,trB (beginS t.sd l f)]
 |_=>False
theorem sBegin_ok:∀args hp K,sBegin args hp K→∃x hp',SCall prog 136 args hp x hp'∧K x hp':=by
 intro args hp K h
 unfold sBegin at h
 split at h
 · obtain ⟨t,l,f,rfl,rfl,⟨h1,h2,h3⟩,h⟩:=h
   exact ⟨_,_,scBegin2 _ t l f h1 h2 h3,h⟩
 · obtain ⟨t,l,f,rfl,rfl,⟨h1,h2,h3⟩,h⟩:=h
   exact ⟨_,_,scBegin3 _ _ t l f h1 h2 h3,h⟩
 · exact h.elim
def TTi:List (Nat×(List AV→(AV→Prop)→Prop)):= [(140,cTSeed),(135,cFrame),(134,cIsValid)]
theorem TTi_ok:CallsOk prog TTi:=Zag cTSeed_ok (Zag cFrame_ok (Zag cIsValid_ok Zaj))
def STi:List (Nat×(List AV→List Blk→(AV→List Blk→Prop)→Prop)):= [(136,sBegin)]
theorem STi_ok:SCallsOk prog STi:=Zcc sBegin_ok Zaf
abbrev Qz30:List AV:= [Zbl [Zae (i64 0),Zae (i64 0),Zae (i64 0),Zae (i64 0),Zae (i64 0)],Zae (i64 1)]
theorem tNew_nf (s f:Int):wpFn prog ⟨TTi,STi,wl,y,false⟩ 100 f72 [.d (i64 s), .d (i64 f)] b R=(∃(n0:Int), [Zae (i64 s)]= [Zae (i64 n0)]∧BIf (!tseedS n0) (R (.tup Qz30) b) (∃(n1:Int), [Zae (i64 f)]= [Zae (i64 n1)]∧BIf (!frameS n1) (R (.tup Qz30) b) (∃(t2:TrT) (l3:Int) (f4:Int), [Zbf 1 0,Zae (i64 1),Zae (i64 f)]= [Zbf 1 0,Zae (i64 l3),Zae (i64 f4)]∧Blk.mk [Zae (i64 0),Zae (i64 0),Zae (i64 0),Zae (i64 0),Zae (i64 s)] false false 0=Blk.mk (trL t2) false false 0∧((l3=(1:Int)∨l3=(2:Int)∨l3=(4:Int)∨l3=(8:Int))∧frameS f4=true∧tseedS (TrT.sd t2)=true)∧R (.tup [Zbl (trL (beginS (TrT.sd t2) l3 f4)),Zae (i64 0)]) b))):=by kernel_rfl
theorem tReset_nf (t:TrT) (f:Int):wpFn prog ⟨TTi,STi,wl,y,false⟩ 100 f73 [trV t, .d (i64 f)] b R=(∃(t0:TrT), [Zbl (trL t)]= [Zbl (trL t0)]∧BIf (!validT t0) (R (.agg (trL t)) b) (∃(n1:Int), [Zae (i64 f)]= [Zae (i64 n1)]∧BIf (!frameS n1) (R (.agg (trL t)) b) (BIf (TrT.iv t==(1:Int)) (R (.agg (trL t)) b) (∃(t2:TrT) (l3:Int) (f4:Int), [Zbf 2 0,Zae (i64 1),Zae (i64 f)]= [Zbf 2 0,Zae (i64 l3),Zae (i64 f4)]∧Blk.mk (trL t) false false 0=Blk.mk (trL t2) false false 0∧((l3=(1:Int)∨l3=(2:Int)∨l3=(4:Int)∨l3=(8:Int))∧frameS f4=true∧tseedS (TrT.sd t2)=true)∧R (.agg (trL (beginS (TrT.sd t2) l3 f4))) b)))):=by kernel_rfl
theorem tHear_nf (t:TrT):wpFn prog ⟨TTi,STi,wl,y,false⟩ 100 f74 [trV t] b R=(∃(t0:TrT), [Zbl (trL t)]= [Zbl (trL t0)]∧BIf (validT t0) (∃(z1:Int),(z1=if Zaa .i64 (TrT.ct t+(1:Int))<(100:Int) then Zaa .i64 (TrT.ct t+(1:Int)) else (100:Int))∧R (.agg [Zae (i64 (TrT.iv t)),Zae (i64 (TrT.bg t)),Zae (i64 (TrT.fi t)),Zae (i64 z1),Zae (i64 (TrT.sd t))]) b) (R (.agg (trL t)) b)):=by kernel_rfl
theorem tTick_nf (t:TrT) (f:Int):wpFn prog ⟨TTi,STi,wl,y,false⟩ 100 f63 [trV t, .d (i64 f)] b R=(∃(t0:TrT), [Zbl (trL t)]= [Zbl (trL t0)]∧BIf (!validT t0) (R (.tup [Zbl (trL t),Zae (bo false)]) b) (∃(n1:Int), [Zae (i64 f)]= [Zae (i64 n1)]∧BIf (!frameS n1) (R (.tup [Zbl (trL t),Zae (bo false)]) b) (BIf (decide (f<TrT.bg t)) (R (.tup [Zbl (trL t),Zae (bo false)]) b) (BIf (decide (f≥Zaa .i64 (TrT.bg t+TrT.iv t))) (∃(z2:Int),(z2=if Zaa .i64 ((2:Int)*TrT.iv t)<(8:Int) then Zaa .i64 ((2:Int)*TrT.iv t) else (8:Int))∧∃(t3:TrT) (l4:Int) (f5:Int), [Zbf 2 0,Zae (i64 z2),Zae (i64 f)]= [Zbf 2 0,Zae (i64 l4),Zae (i64 f5)]∧Blk.mk (trL t) false false 0=Blk.mk (trL t3) false false 0∧((l4=(1:Int)∨l4=(2:Int)∨l4=(4:Int)∨l4=(8:Int))∧frameS f5=true∧tseedS (TrT.sd t3)=true)∧BIf (f==TrT.fi (beginS (TrT.sd t3) l4 f5)) (R (.tup [Zbl (trL (beginS (TrT.sd t3) l4 f5)),Zae (bo true)]) b) (R (.tup [Zbl (trL (beginS (TrT.sd t3) l4 f5)),Zae (bo false)]) b)) (BIf (f==TrT.fi t) (R (.tup [Zbl (trL t),Zae (bo (decide (TrT.ct t<(2:Int))))]) b) (R (.tup [Zbl (trL t),Zae (bo false)]) b)))))):=by kernel_rfl
def zeroT:TrT:=⟨0,0,0,0,0⟩
def newT (s f:Int):TrT×Int:=if tseedS s&&frameS f then (beginS s 1 f,0) else (zeroT,1)
def resetT (t:TrT) (f:Int):TrT:=if validT t&&frameS f&& !(t.iv==1) then beginS t.sd 1 f else t
def hearT (t:TrT):TrT:=if validT t then ⟨t.iv,t.bg,t.fi,min 100 (t.ct+1),t.sd⟩ else t
def laterT (t:TrT) (f:Int):TrT:=if t.bg+t.iv≤f then beginS t.sd (min 8 (2*t.iv)) f else t
def tickT (t:TrT) (f:Int):TrT×Bool:=if validT t&&frameS f&&decide (t.bg≤f) then (laterT t f,f==(laterT t f).fi&&decide ((laterT t f).ct<2)) else (t,false)
theorem pcTNew (s f:Int):PCall prog 72 [.d (i64 s), .d (i64 f)] (.tup [trV (newT s f).1, .d (i64 (newT s f).2)]):=by
 refine Zbi (n:=100) (u:=false) mixed TTi_ok STi_ok func72 (by rfl) (by rfl) fun Ev bb=> ?_
 rw [tNew_nf]
 refine ⟨_,rfl,Zar (fun g=> ?_) fun g1=>⟨_,rfl,Zar (fun g=> ?_) fun g2=> ?_⟩⟩
 · rw [newT,nbt g];rfl
 · rw [newT,nbt g,Bool.and_false];rfl
 · refine ⟨⟨0,0,0,0,s⟩,_,_,rfl,rfl,⟨.inl rfl,nbf g2,nbf g1⟩, ?_⟩
   rw [newT,nbf g1,nbf g2];rfl
def cTNew (args:List AV) (K:AV→Prop):Prop:=∃(s f:Int) (z:TrT) (e:Int),args= [.d (i64 s), .d (i64 f)]∧(z,e)=newT s f∧K (.tup [trV z, .d (i64 e)])
theorem cTNew_ok:∀args K,cTNew args K→∃x,PCall prog 72 args x∧K x:=by
 rintro _ K ⟨s,f,z,e,rfl,he,h⟩
 have:=pcTNew s f
 rw [←he] at this
 exact ⟨_,this,h⟩
theorem seed_of {t:TrT} (h:validT t=true):tseedS t.sd=true:=inS_iff.2 (validT_iff.1 h).2.2.1
theorem pcTReset (t:TrT) (f:Int):PCall prog 73 [trV t, .d (i64 f)] (trV (resetT t f)):=by
 refine Zbi (n:=100) (u:=false) mixed TTi_ok STi_ok func73 (by rfl) (by rfl) fun Ev bb=> ?_
 rw [tReset_nf]
 refine ⟨t,rfl,Zar (fun g=> ?_) fun g1=>⟨_,rfl,Zar (fun g=> ?_) fun g2=>Zar (fun g=> ?_) fun g3=> ?_⟩⟩
 · rw [resetT,nbt g];rfl
 · rw [resetT,nbt g,Bool.and_false];rfl
 · rw [resetT,g,Bool.not_true,Bool.and_false];rfl
 · refine ⟨t,_,_,rfl,rfl,⟨.inl rfl,nbf g2,seed_of (nbf g1)⟩, ?_⟩
   rw [resetT,nbf g1,nbf g2,g3];rfl
def cTReset (args:List AV) (K:AV→Prop):Prop:=∃(t:TrT) (f:Int) (z:TrT),args= [trV t, .d (i64 f)]∧z=resetT t f∧K (trV z)
theorem cTReset_ok:∀args K,cTReset args K→∃x,PCall prog 73 args x∧K x:=by
 rintro _ K ⟨t,f,_,rfl,rfl,h⟩;exact ⟨_,pcTReset t f,h⟩
theorem pcTHear (t:TrT):PCall prog 74 [trV t] (trV (hearT t)):=by
 refine Zbi (n:=100) (u:=false) mixed TTi_ok STi_ok func74 (by rfl) (by rfl) fun Ev bb=> ?_
 rw [tHear_nf]
 refine ⟨t,rfl,Zar (fun g=>⟨_,rfl, ?_⟩) fun g=> ?_⟩
 · have h:=validT_iff.1 g
   rw [hearT,g,if_pos rfl,wr64 (by omega) (by omega)]
   have e:(if t.ct+1<100 then t.ct+1 else 100)=min 100 (t.ct+1):=by omega
   rw [e];rfl
 · rw [hearT,g];rfl
def cTHear (args:List AV) (K:AV→Prop):Prop:=∃(t z:TrT),args= [trV t]∧z=hearT t∧K (trV z)
theorem cTHear_ok:∀args K,cTHear args K→∃x,PCall prog 74 args x∧K x:=by
 rintro _ K ⟨t,_,rfl,rfl,h⟩;exact ⟨_,pcTHear t,h⟩
theorem tick_step {t:TrT} {f:Int} (h:validT t=true) (hf:frameS f=true):Zaa .i64 (t.bg+t.iv)=t.bg+t.iv∧(if Zaa Zax (2*t.iv)<8 then Zaa Zax (2*t.iv) else 8)=min 8 (2*t.iv)∧lenS (min 8 (2*t.iv)):=by
 have h:=validT_iff.1 h
 refine ⟨wr64 (by omega) (by omega), ?_, ?_⟩
 · rw [wr64 (by omega) (by omega)];omega
 · unfold lenS;omega
theorem pcTTick (t:TrT) (f:Int):PCall prog 63 [trV t, .d (i64 f)] (.tup [trV (tickT t f).1, .d (bo (tickT t f).2)]):=by
 refine Zbi (n:=100) (u:=false) mixed TTi_ok STi_ok func63 (by rfl) (by rfl) fun Ev bb=> ?_
 rw [tTick_nf]
 refine ⟨t,rfl,Zar (fun g=> ?_) fun g1=>⟨_,rfl,Zar (fun g=> ?_) fun g2=>Zar (fun g=> ?_) fun g3=> ?_⟩⟩
 · rw [tickT,nbt g];rfl
 · rw [tickT,nbt g,Bool.and_false];rfl
 · have g:=of_decide_eq_true g
   rw [tickT,decide_eq_false (p:=t.bg≤f) (by omega),Bool.and_false];rfl
 have g3:=of_decide_eq_false g3
 obtain ⟨e1,e2,e3⟩:=tick_step (nbf g1) (nbf g2)
 have e:tickT t f=(laterT t f,f==(laterT t f).fi&&decide ((laterT t f).ct<2)):=by rw [tickT,nbf g1,nbf g2,decide_eq_true (p:=t.bg≤f) (by omega)];rfl
 rw [e,e1,e2]
 refine Zar (fun g=> ?_) fun g=> ?_
 · have el:laterT t f=beginS t.sd (min 8 (2*t.iv)) f:=by rw [laterT,if_pos (by simpa using g)]
   rw [el]
   refine ⟨_,rfl,t,_,_,rfl,rfl,⟨e3,nbf g2,seed_of (nbf g1)⟩,Zar (fun h=> ?_) fun h=> ?_⟩
   · rw [h];rfl
   · rw [h];rfl
 · have el:laterT t f=t:=by rw [laterT,if_neg (by simpa using g)]
   rw [el]
   refine Zar (fun h=> ?_) fun h=> ?_
   · rw [h];rfl
   · rw [h];rfl
def cTTick (args:List AV) (K:AV→Prop):Prop:=∃(t:TrT) (f:Int) (z:TrT) (e:Bool),args= [trV t, .d (i64 f)]∧(z,e)=tickT t f∧K (.tup [trV z, .d (bo e)])
theorem cTTick_ok:∀args K,cTTick args K→∃x,PCall prog 63 args x∧K x:=by
 rintro _ K ⟨t,f,z,e,rfl,he,h⟩
 have:=pcTTick t f
 rw [←he] at this
 exact ⟨_,this,h⟩
structure StT where
 no:NotT
 ps:List (List Int)
 qs:List (List Int)
 rows:List Row
 pf:List Int
 tr:TrT
def StT.sp (s:StT):SprT:=⟨s.no,s.ps,s.qs,rowsR s.rows,s.pf,s.tr.iv,s.tr.bg,s.tr.fi,s.tr.ct,s.tr.sd⟩
def stD (s:StT):List Dv:= [i64 s.no.v,i64 s.no.n,u64 s.no.r,i64 s.no.t, .sl 1 (partsR s.ps), .sl 1 (proofsR s.qs), .sl 2 (rowsR s.rows), .sl 1 (digR s.pf),i64 s.tr.iv,i64 s.tr.bg,i64 s.tr.fi,i64 s.tr.ct,i64 s.tr.sd]
def stL (s:StT):List AV:= [.d (i64 s.no.v), .d (i64 s.no.n), .d (u64 s.no.r), .d (i64 s.no.t), .d (.sl 1 (partsR s.ps)), .d (.sl 1 (proofsR s.qs)), .d (.sl 2 (rowsR s.rows)), .d (.sl 1 (digR s.pf)), .d (i64 s.tr.iv), .d (i64 s.tr.bg), .d (i64 s.tr.fi), .d (i64 s.tr.ct), .d (i64 s.tr.sd)]
def stV (s:StT):AV:= .agg (stL s)
theorem sann_nf (a n r t:Int):wpFn prog ⟨[], [],wl,y,false⟩ 100 f70 [notA a n r t] b R=(BIf (decide (a≥(1:Int))) (BIf (decide (a≤(1000000000:Int))) (BIf (decide (n≥(1:Int))) (BIf (decide (n≤(4096:Int))) (BIf (decide (t≥(0:Int))) (R (.d (bo (decide (t≤(1000000000:Int))))) b) (R (.d (bo false)) b)) (R (.d (bo false)) b)) (R (.d (bo false)) b)) (R (.d (bo false)) b)) (R (.d (bo false)) b)):=by kernel_rfl
theorem scount_nf (a n r t:Int):wpFn prog ⟨[], [],wl,y,false⟩ 100 f71 [notA a n r t] b R=(R (Zae (i64 (Zaa Zax (Int.tdiv (Zaa Zax (Zaa Zax (n+256) - (1:Int))) (256:Int))))) b):=by kernel_rfl
theorem sempty_nf (s:StT):wpFn prog ⟨[], [],wl,y,false⟩ 100 f62 [.rptr (stD s)] b R=(BIf (Zbm (StT.no s)==(0:Int)&&(Zbv (StT.no s)==(0:Int)&&(Zca (StT.no s)==(0:Int)&&(Zbz (StT.no s)==(0:Int)&&true)))) (BIf (Zaa .i64 (Zaa .i64 (Zaa .i64 (((Zac (partsR (StT.ps s)):Nat):Int)+((Zac (proofsR (StT.qs s)):Nat):Int))+((Zac (rowsR (StT.rows s)):Nat):Int))+((Zac (digR (StT.pf s)):Nat):Int))==(0:Int)) (BIf (TrT.iv (StT.tr s)==(0:Int)&&(TrT.bg (StT.tr s)==(0:Int)&&(TrT.fi (StT.tr s)==(0:Int)&&(TrT.ct (StT.tr s)==(0:Int)&&(TrT.sd (StT.tr s)==TrT.sd (StT.tr s)&&true))))) (BIf (decide (TrT.sd (StT.tr s)≥(0:Int))) (R (.d (bo (decide (TrT.sd (StT.tr s)≤(1000000000:Int))))) b) (R (.d (bo false)) b)) (R (.d (bo false)) b)) (R (.d (bo false)) b)) (R (.d (bo false)) b)):=by kernel_rfl
def smallS (s:StT):Prop:=(s.ps.length≤1000∧∀p∈s.ps,p.length≤1000000)∧(s.qs.length≤1000∧∀q∈s.qs,q.length≤1000000)∧smallRows s.rows∧s.pf.length≤1000000
def zeroN (n:NotT):Bool:=n.v==0&&(n.n==0&&(n.r==0&&n.t==0))
def emptyS (s:StT):Bool:=zeroN s.no&&(s.ps.isEmpty&&s.qs.isEmpty&&s.rows.isEmpty&&s.pf.isEmpty)&&(s.tr.iv==0&&(s.tr.bg==0&&(s.tr.fi==0&&s.tr.ct==0)))&&tseedS s.tr.sd
def fullP (s:StT):Bool:=(s.ps.length:Int)==countS s.no.n
def soundT (s:StT):Bool:=soundS s.sp
def validP (s:StT):Bool:=emptyS s||(soundT s&&(validS s.rows&&(decide ((s.rows.length:Int)<16)&&((s.rows.isEmpty|| !fullP s)&&((!s.rows.isEmpty||s.pf.isEmpty)&&validT s.tr)))))
theorem pcSAnn (a n r t:Int):PCall prog 70 [notA a n r t] (.d (bo (announcedS a n t))):=by
 refine Zbi (n:=100) (u:=false) mixed Zaj Zaf func70 (by rfl) (by rfl) fun Ev bb=> ?_
 rw [sann_nf]
 have e:announcedS a n t=(decide (a≥1)&&(decide (a≤1000000000)&&((decide (n≥1)&&decide (n≤4096))&&(decide (t≥0)&&decide (t≤1000000000))))):=rfl
 rw [e]
 refine Zar (fun h1=>Zar (fun h2=>Zar (fun h3=>Zar (fun h4=>Zar (fun h5=> ?_) fun h5=> ?_) fun h4=> ?_) fun h3=> ?_) fun h2=> ?_) fun h1=> ?_
 · rw [h1,h2,h3,h4,h5];rfl
 · rw [h5];simp
 · rw [h4];simp
 · rw [h3];simp
 · rw [h2];simp
 · rw [h1];rfl
theorem pcSCount (a n r t:Int):PCall prog 71 [notA a n r t] (.d (i64 (countS n))):=by
 refine Zbi (n:=100) (u:=false) mixed Zaj Zaf func71 (by rfl) (by rfl) fun Ev bb=> ?_
 rw [scount_nf];rfl
def cSCount (args:List AV) (K:AV→Prop):Prop:=∃(a n r t z:Int),args= [notA a n r t]∧z=countS n∧K (.d (i64 z))
theorem cSCount_ok:∀args K,cSCount args K→∃x,PCall prog 71 args x∧K x:=by
 rintro _ K ⟨a,n,r,t,_,rfl,rfl,h⟩;exact ⟨_,pcSCount a n r t,h⟩
theorem isEmpty_len {α:Type} (l:List α):l.isEmpty=decide (l.length=0):=by cases l<;>simp
theorem sum4 {a b c d:Nat} (h:a≤1000000∧b≤1000000∧c≤1000000∧d≤1000000):(Zaa Zax (Zaa Zax (Zaa Zax ((a:Int)+(b:Int))+(c:Int))+(d:Int))==0)=(decide (a=0)&&decide (b=0)&&decide (c=0)&&decide (d=0)):=by
 rw [wr64 (x:=(a:Int)+(b:Int)) (by omega) (by omega),wr64 (x:=(a:Int)+(b:Int)+(c:Int)) (by omega) (by omega),wr64 (by omega) (by omega)]
 rw [Bool.eq_iff_iff]
 simp only [beq_iff_eq,Zam,decide_eq_true_eq]
 omega
theorem pcSEmpty (s:StT) (hs:smallS s):PCall prog 62 [.rptr (stD s)] (.d (bo (emptyS s))):=by
 refine Zbi (n:=100) (u:=false) mixed Zaj Zaf func62 (by rfl) (by rfl) fun Ev bb=> ?_
 rw [sempty_nf,partsR_len,proofs_len,rowsR_len,digR_len,sum4 ⟨by have:=hs.1.1;omega,by have:=hs.2.1.1;omega,by have:=hs.2.2.1.1;omega,hs.2.2.2⟩]
 rw [←isEmpty_len,←isEmpty_len,←isEmpty_len,←isEmpty_len]
 have e:tseedS s.tr.sd=(decide (s.tr.sd≥0)&&decide (s.tr.sd≤1000000000)):=rfl
 have e1:∀x:Int,(x==x)=true:=fun x=>by simp
 rw [emptyS,zeroN,e]
 simp only [Bool.and_true,e1]
 refine Zar (fun h1=>Zar (fun h2=>Zar (fun h3=>Zar (fun h4=> ?_) fun h4=> ?_) fun h3=> ?_) fun h2=> ?_) fun h1=> ?_
 · rw [h1,h2,h3,h4];rfl
 · rw [h4,Bool.false_and,Bool.and_false]
 · rw [h3,Bool.and_false];rfl
 · rw [h2,Bool.and_false];rfl
 · rw [h1];rfl
def cSEmpty (args:List AV) (K:AV→Prop):Prop:=∃(s:StT) (z:Bool),args= [.rptr (stD s)]∧(smallS s∧z=emptyS s)∧K (.d (bo z))
theorem cSEmpty_ok:∀args K,cSEmpty args K→∃x,PCall prog 62 args x∧K x:=by
 rintro _ K ⟨s,_,rfl,⟨hs,rfl⟩,h⟩;exact ⟨_,pcSEmpty s hs,h⟩
def TWl:List (Nat×(List AV→(AV→Prop)→Prop)):= [(71,cSCount),(74,cTHear),(53,lessC cPut)]
theorem TWl_ok:CallsOk prog TWl:=Zag cSCount_ok (Zag cTHear_ok (Zag (lessC_ok cPut_ok) Zaj))
def GB5:List (Nat×(List AV→List Blk→(AV→List Blk→Prop)→Prop)):= [(1000005,fun _ _ _=>False)]
theorem GB5_ok:SCallsOk prog GB5:=Zcc (fun _ _ _ h=>h.elim) Zaf
theorem swhole_nf (s:StT):wpFn prog ⟨TWl, [],wl,y,false⟩ 100 f121 [.rptr (stD s)] b R=(∃(a0:Int) (n1:Int) (r2:Int) (t3:Int) (z4:Int), [Zbl (noL (StT.no s))]= [Zbl [Zae (i64 a0),Zae (i64 n1),Zae (u64 r2),Zae (i64 t3)]]∧z4=countS n1∧R (.d (bo (((Zac (partsR (StT.ps s)):Nat):Int)==z4))) b):=by kernel_rfl
theorem stimed_nf (s:StT):wpFn prog ⟨TWl, [],wl,y,false⟩ 100 f133 [.rptr (stD s)] b R=(BIf (decide (TrT.ct (StT.tr s)≥(0:Int))) (BIf (decide (TrT.ct (StT.tr s)≤(100:Int))) (∃(t0:TrT) (z1:TrT), [Zbl [Zae (i64 (TrT.iv (StT.tr s))),Zae (i64 (TrT.bg (StT.tr s))),Zae (i64 (TrT.fi (StT.tr s))),Zae (i64 0),Zae (i64 (TrT.sd (StT.tr s)))]]= [Zbl (trL t0)]∧z1=hearT t0∧R (.d (bo !(TrT.iv z1==TrT.iv (StT.tr s)&&(TrT.bg z1==TrT.bg (StT.tr s)&&(TrT.fi z1==TrT.fi (StT.tr s)&&(TrT.ct z1==(0:Int)&&(TrT.sd z1==TrT.sd (StT.tr s)&&true))))))) b) (R (.d (bo false)) b)) (R (.d (bo false)) b)):=by kernel_rfl
theorem ssound_nf (s:StT):wpFn prog ⟨TWl,GB5,wl,y,false⟩ 100 f132 [.rptr (stD s)] b R=(∃(args0:List AV),LeVs [Zbl (stL s),AV.full 1 (bytesR (Zad 256 0)),Zae (Dv.s (.slice none 0 0))] args0∧∃(s1:SprT) (p2:List Int) (q3:List Int) (z4:SprT) (e5:Int),args0= [Zbl (spL s1),Zae (Zal 1 (bytesR p2)),Zae (Zal 1 (digR q3))]∧((Zac (Zdt s1)≤9223372036854775807∧Zac q3≤1000000∧∀(x:List Int),x∈SprT.qs s1→Zac x≤1000000)∧(z4,e5)=putS s1 p2 q3)∧R (.d (bo (e5 !=(1:Int)))) b):=by kernel_rfl
theorem pcSWhole (s:StT):PCall prog 121 [.rptr (stD s)] (.d (bo (fullP s))):=by
 refine Zbi (n:=100) (u:=false) mixed TWl_ok Zaf func121 (by rfl) (by rfl) fun Ev bb=> ?_
 rw [swhole_nf,partsR_len]
 exact ⟨_,_,_,_,_,rfl,rfl,rfl⟩
def cSWhole (args:List AV) (K:AV→Prop):Prop:=∃(s:StT) (z:Bool),args= [.rptr (stD s)]∧z=fullP s∧K (.d (bo z))
theorem cSWhole_ok:∀args K,cSWhole args K→∃x,PCall prog 121 args x∧K x:=by
 rintro _ K ⟨s,_,rfl,rfl,h⟩;exact ⟨_,pcSWhole s,h⟩
theorem pcSTimed (s:StT):PCall prog 133 [.rptr (stD s)] (.d (bo (validT s.tr))):=by
 refine Zbi (n:=100) (u:=false) mixed TWl_ok Zaf func133 (by rfl) (by rfl) fun Ev bb=> ?_
 rw [stimed_nf]
 refine Zar (fun g1=>Zar (fun g2=>⟨⟨s.tr.iv,s.tr.bg,s.tr.fi,0,s.tr.sd⟩,_,rfl,rfl, ?_⟩) fun g2=> ?_) fun g1=> ?_
 · have g1:=of_decide_eq_true g1
   have g2:=of_decide_eq_true g2
   have e:validT s.tr=validT ⟨s.tr.iv,s.tr.bg,s.tr.fi,0,s.tr.sd⟩:=by rw [Bool.eq_iff_iff,validT_iff,validT_iff];simp only;omega
   rw [e]
   cases hv:validT ⟨s.tr.iv,s.tr.bg,s.tr.fi,0,s.tr.sd⟩
   · simp [hearT,hv]
   · have e1:∀x:Int,(x==x)=true:=fun x=>by simp
     simp only [hearT,hv,if_true,e1,Bool.true_and];rfl
 · have g2:=of_decide_eq_false g2
   rw [show validT s.tr=false from Bool.eq_false_iff.2 fun h=>by have:=validT_iff.1 h;omega]
 · have g1:=of_decide_eq_false g1
   rw [show validT s.tr=false from Bool.eq_false_iff.2 fun h=>by have:=validT_iff.1 h;omega]
def cSTimed (args:List AV) (K:AV→Prop):Prop:=∃(s:StT) (z:Bool),args= [.rptr (stD s)]∧z=validT s.tr∧K (.d (bo z))
theorem cSTimed_ok:∀args K,cSTimed args K→∃x,PCall prog 133 args x∧K x:=by
 rintro _ K ⟨s,_,rfl,rfl,h⟩;exact ⟨_,pcSTimed s,h⟩
theorem put_err {s:SprT} {p q:List Int} (hp:p.length=256):((putS s p q).2 !=1)=soundS s:=by
 unfold putS
 cases h:soundS s
 · rw [if_pos (.inl rfl)];rfl
 · rw [if_neg (by simp [hp])]
   split
   · rfl
   · split<;>rfl
theorem pcSSound (s:StT) (hs:smallS s):PCall prog 132 [.rptr (stD s)] (.d (bo (soundT s))):=by
 refine Zbi (n:=100) (u:=false) mixed TWl_ok GB5_ok func132 (by rfl) (by rfl) fun Ev bb=> ?_
 rw [ssound_nf]
 refine ⟨_, .cons .rfl (.cons .full (.cons (.nil rfl) .nil)),s.sp,Zad 256 0, [],(putS s.sp (Zad 256 0) []).1,(putS s.sp (Zad 256 0) []).2,rfl,⟨⟨by have:=hs.1.1;show s.ps.length≤_;omega,by simp,hs.2.1.2⟩,rfl⟩, ?_⟩
 show Zae (bo ((putS s.sp (Zad 256 0) []).2 !=1))=_
 rw [put_err (List.length_replicate ..)];rfl
def cSSound (args:List AV) (K:AV→Prop):Prop:=∃(s:StT) (z:Bool),args= [.rptr (stD s)]∧(smallS s∧z=soundT s)∧K (.d (bo z))
theorem cSSound_ok:∀args K,cSSound args K→∃x,PCall prog 132 args x∧K x:=by
 rintro _ K ⟨s,_,rfl,⟨hs,rfl⟩,h⟩;exact ⟨_,pcSSound s hs,h⟩
def TVd:List (Nat×(List AV→(AV→Prop)→Prop)):= [(62,cSEmpty),(132,cSSound),(91,c20),(121,cSWhole),(133,cSTimed)]
theorem TVd_ok:CallsOk prog TVd:=Zag cSEmpty_ok (Zag cSSound_ok (Zag c20_ok (Zag cSWhole_ok (Zag cSTimed_ok Zaj))))
theorem svalid_nf (s:StT):wpFn prog ⟨TVd, [],wl,y,false⟩ 100 f61 [.rptr (stD s)] b R=(∃(s0:StT) (z1:Bool), [Zcq (stD s)]= [Zcq (stD s0)]∧((smallS s0)∧z1=emptyS s0)∧BIf z1 (R (.d (bo true)) b) (∃(s2:StT) (z3:Bool), [Zcq (stD s)]= [Zcq (stD s2)]∧((smallS s2)∧z3=soundT s2)∧BIf z3 (∃(l4:List Row), [Zae (Zal 2 (rowsR (StT.rows s)))]= [Zae (Zal 2 (rowsR l4))]∧Zac l4≤9223372036854775807∧BIf (validS l4) (BIf (decide (((Zac (rowsR (StT.rows s)):Nat):Int)<(16:Int))) (BIf (((Zac (rowsR (StT.rows s)):Nat):Int)==(0:Int)) (BIf (decide (((Zac (rowsR (StT.rows s)):Nat):Int)>(0:Int))) (∃(s5:StT) (z6:Bool), [Zcq (stD s)]= [Zcq (stD s5)]∧z6=validT (StT.tr s5)∧R (.d (bo z6)) b) (BIf (((Zac (digR (StT.pf s)):Nat):Int)==(0:Int)) (∃(s7:StT) (z8:Bool), [Zcq (stD s)]= [Zcq (stD s7)]∧z8=validT (StT.tr s7)∧R (.d (bo z8)) b) (R (.d (bo false)) b))) (∃(s9:StT) (z10:Bool), [Zcq (stD s)]= [Zcq (stD s9)]∧z10=fullP s9∧BIf (!z10) (BIf (decide (((Zac (rowsR (StT.rows s)):Nat):Int)>(0:Int))) (∃(s11:StT) (z12:Bool), [Zcq (stD s)]= [Zcq (stD s11)]∧z12=validT (StT.tr s11)∧R (.d (bo z12)) b) (BIf (((Zac (digR (StT.pf s)):Nat):Int)==(0:Int)) (∃(s13:StT) (z14:Bool), [Zcq (stD s)]= [Zcq (stD s13)]∧z14=validT (StT.tr s13)∧R (.d (bo z14)) b) (R (.d (bo false)) b))) (R (.d (bo false)) b))) (R (.d (bo false)) b)) (R (.d (bo false)) b)) (R (.d (bo false)) b))):=by kernel_rfl
theorem len_eq0 {α:Type} (l:List α):((l.length:Int)==0)=l.isEmpty:=by cases l<;>simp<;>omega
theorem len_gt0 {α:Type} (l:List α):decide ((l.length:Int)>0)= !l.isEmpty:=by cases l<;>simp<;>omega
theorem pcSValid (s:StT) (hs:smallS s):PCall prog 61 [.rptr (stD s)] (.d (bo (validP s))):=by
 refine Zbi (n:=100) (u:=false) mixed TVd_ok Zaf func61 (by rfl) (by rfl) fun Ev bb=> ?_
 rw [svalid_nf,rowsR_len,digR_len,len_eq0,len_eq0,len_gt0]
 refine ⟨s,_,rfl,⟨hs,rfl⟩,Zar (fun h=>by rw [validP,h];rfl) fun h1=>⟨s,_,rfl,⟨hs,rfl⟩,Zar (fun h2=>⟨_,rfl,by have:=hs.2.2.1.1;omega,Zar (fun h3=>Zar (fun h4=>Zar (fun h5=>Zar (fun h6=> ?_) fun h6=>Zar (fun h7=> ?_) fun h7=> ?_) fun h5=>⟨s,_,rfl,rfl,Zar (fun h8=>Zar (fun h6=> ?_) fun h6=>Zar (fun h7=> ?_) fun h7=> ?_) fun h8=> ?_⟩) fun h4=> ?_) fun h3=> ?_⟩) fun h2=> ?_⟩⟩
 · rw [h5] at h6;cases h6
 · exact ⟨s,_,rfl,rfl,by rw [validP,h1,h2,h3,h4,h5,h7];rfl⟩
 · rw [validP,h1,h2,h3,h4,h5,h7];rfl
 · exact ⟨s,_,rfl,rfl,by rw [validP,h1,h2,h3,h4,h5,nbt h8];rfl⟩
 · rw [h5] at h6;cases h6
 · rw [h5] at h6;cases h6
 · rw [validP,h1,h2,h3,h4,h5,nbf h8];rfl
 · rw [validP,h1,h2,h3,h4];rfl
 · rw [validP,h1,h2,h3];rfl
 · rw [validP,h1,h2];rfl
def cSValid (args:List AV) (K:AV→Prop):Prop:=∃(s:StT) (z:Bool),args= [.rptr (stD s)]∧(smallS s∧z=validP s)∧K (.d (bo z))
theorem cSValid_ok:∀args K,cSValid args K→∃x,PCall prog 61 args x∧K x:=by
 rintro _ K ⟨s,_,rfl,⟨hs,rfl⟩,h⟩;exact ⟨_,pcSValid s hs,h⟩
def TCo:List (Nat×(List AV→(AV→Prop)→Prop)):= [(51,cClone50),(120,cCloneB)]
theorem TCo_ok:CallsOk prog TCo:=Zag cClone50_ok (Zag cCloneB_ok Zaj)
noncomputable def lpCo1:Code:=sub [1,1,0,1,2,3] (code f47)
noncomputable def lpCo2:Code:=sub [1,1,1,0,1,2,3] (code f47)
noncomputable def lpCo3:Code:=sub [1,1,1,1,0,1,2,3] (code f47)
def stB (s:StT):Blk:=⟨stL s,false,false,0⟩
def outC (s:StT) (a c d:AV):Blk:=⟨noL s.no++ [a,c,d, .d (.sl 1 (digR s.pf))]++trL s.tr,false,false,0⟩
def tmCo (g k:Nat) (xs:List (List Dv)) (n i:Int):List AV:= [.bad, .ptr 0 0, .bad, .ptr 1 0]++Zad (g - 4) .bad++ [.d (.sl k xs), .d (i64 n), .d (i64 i)]++Zad (67 - g) .bad
theorem rCo1 (s:StT) (n i:Int) (xs:List (List Dv)) (c5 c6:AV):wpc prog ⟨TCo, [],wl,y,false⟩ 100 lpCo1 (tmCo 19 1 (partsR s.ps) n i) [stB s,outC s (.own 33 1 xs) c5 c6] b (maskT [1,3,19,20,21] K)=(BIf (decide (i<n)) (BIf (true&&decide (0≤i)) (∃(xs0:List (List Dv)),(partsR (StT.ps s))[Zat i]? =some [Zal 1 xs0]∧∃(xs3:List (List Dv)), [Zae (Zal 1 xs0)]= [Zae (Zal 1 xs3)]∧Zac xs3≤1000000∧BIf (true&&decide ((Zac xs+1)*24≤140737488355328)) (K .normal (Zaz::Zbf 0 0::Zaz::Zbf 1 0::bds 15 (Zae (Zal 1 (partsR (StT.ps s)))::Zae (i64 n)::Zae (i64 (Zaa .i64 (i+1)))::bds 48 [])) [stB s,Blk.mk [Zae (i64 (Zbm (StT.no s))),Zae (i64 (Zbv (StT.no s))),Zae (u64 (Zca (StT.no s))),Zae (i64 (Zbz (StT.no s))),AV.own 33 1 (xs++ [[Zal 1 xs3]]),c5,c6,Zae (Zal 1 (digR (StT.pf s))),Zae (i64 (TrT.iv (StT.tr s))),Zae (i64 (TrT.bg (StT.tr s))),Zae (i64 (TrT.fi (StT.tr s))),Zae (i64 (TrT.ct (StT.tr s))),Zae (i64 (TrT.sd (StT.tr s)))] false false 0] b) False) False) (K (Exit.exit 0) (Zaz::Zbf 0 0::Zaz::Zbf 1 0::bds 15 (Zae (Zal 1 (partsR (StT.ps s)))::Zae (i64 n)::Zae (i64 i)::bds 48 [])) [stB s,Blk.mk [Zae (i64 (Zbm (StT.no s))),Zae (i64 (Zbv (StT.no s))),Zae (u64 (Zca (StT.no s))),Zae (i64 (Zbz (StT.no s))),AV.own 33 1 xs,c5,c6,Zae (Zal 1 (digR (StT.pf s))),Zae (i64 (TrT.iv (StT.tr s))),Zae (i64 (TrT.bg (StT.tr s))),Zae (i64 (TrT.fi (StT.tr s))),Zae (i64 (TrT.ct (StT.tr s))),Zae (i64 (TrT.sd (StT.tr s)))] false false 0] b)):=by kernel_rfl
theorem rCo2 (s:StT) (n i:Int) (xs:List (List Dv)) (c5 c6:AV):wpc prog ⟨TCo, [],wl,y,false⟩ 100 lpCo2 (tmCo 34 1 (proofsR s.qs) n i) [stB s,outC s c5 (.own 28 1 xs) c6] b (maskT [1,3,34,35,36] K)=(BIf (decide (i<n)) (BIf (true&&decide (0≤i)) (∃(xs0:List (List Dv)),(proofsR (StT.qs s))[Zat i]? =some [Zal 1 xs0]∧∃(xs3:List (List Dv)), [Zae (Zal 1 xs0)]= [Zae (Zal 1 xs3)]∧Zac xs3≤1000000∧BIf (true&&decide ((Zac xs+1)*24≤140737488355328)) (K .normal (Zaz::Zbf 0 0::Zaz::Zbf 1 0::bds 30 (Zae (Zal 1 (proofsR (StT.qs s)))::Zae (i64 n)::Zae (i64 (Zaa .i64 (i+1)))::bds 33 [])) [stB s,Blk.mk [Zae (i64 (Zbm (StT.no s))),Zae (i64 (Zbv (StT.no s))),Zae (u64 (Zca (StT.no s))),Zae (i64 (Zbz (StT.no s))),c5,AV.own 28 1 (xs++ [[Zal 1 xs3]]),c6,Zae (Zal 1 (digR (StT.pf s))),Zae (i64 (TrT.iv (StT.tr s))),Zae (i64 (TrT.bg (StT.tr s))),Zae (i64 (TrT.fi (StT.tr s))),Zae (i64 (TrT.ct (StT.tr s))),Zae (i64 (TrT.sd (StT.tr s)))] false false 0] b) False) False) (K (Exit.exit 2) (Zaz::Zbf 0 0::Zaz::Zbf 1 0::bds 30 (Zae (Zal 1 (proofsR (StT.qs s)))::Zae (i64 n)::Zae (i64 i)::bds 33 [])) [stB s,Blk.mk [Zae (i64 (Zbm (StT.no s))),Zae (i64 (Zbv (StT.no s))),Zae (u64 (Zca (StT.no s))),Zae (i64 (Zbz (StT.no s))),c5,AV.own 28 1 xs,c6,Zae (Zal 1 (digR (StT.pf s))),Zae (i64 (TrT.iv (StT.tr s))),Zae (i64 (TrT.bg (StT.tr s))),Zae (i64 (TrT.fi (StT.tr s))),Zae (i64 (TrT.ct (StT.tr s))),Zae (i64 (TrT.sd (StT.tr s)))] false false 0] b)):=by kernel_rfl
theorem rCo3 (s:StT) (n i:Int) (xs A B:List (List Dv)):wpc prog ⟨TCo, [],wl,y,false⟩ 100 lpCo3 (tmCo 49 2 (rowsR s.rows) n i) [stB s,outC s (.own 33 1 A) (.own 28 1 B) (.own 71 2 xs)] b (maskK 2 [1,3,49,50,51] K)=(BIf (decide (i<n)) (BIf (true&&decide (0≤i)) (∃(x0:Int) (xs1:List (List Dv)),(rowsR (StT.rows s))[Zat i]? =some [i64 x0,Zal 1 xs1]∧∃(xs4:List (List Dv)), [Zae (Zal 1 xs1)]= [Zae (Zal 1 xs4)]∧Zac xs4≤1000000∧BIf (true&&decide ((Zac xs+1)*32≤140737488355328)) (K .normal (Zaz::Zbf 0 0::Zaz::Zbf 1 0::bds 45 (Zae (Zal 2 (rowsR (StT.rows s)))::Zae (i64 n)::Zae (i64 (Zaa .i64 (i+1)))::bds 18 [])) [stB s,Blk.mk [Zae (i64 (Zbm (StT.no s))),Zae (i64 (Zbv (StT.no s))),Zae (u64 (Zca (StT.no s))),Zae (i64 (Zbz (StT.no s))),AV.own 33 1 A,AV.own 28 1 B,AV.own 71 2 (xs++ [[i64 x0,Zal 1 xs4]]),Zae (Zal 1 (digR (StT.pf s))),Zae (i64 (TrT.iv (StT.tr s))),Zae (i64 (TrT.bg (StT.tr s))),Zae (i64 (TrT.fi (StT.tr s))),Zae (i64 (TrT.ct (StT.tr s))),Zae (i64 (TrT.sd (StT.tr s)))] false false 0] b) False) False) (K (Exit.exit 4) (Zaz::Zbf 0 0::Zaz::Zbf 1 0::bds 45 (Zae (Zal 2 (rowsR (StT.rows s)))::Zae (i64 n)::Zae (i64 i)::bds 18 [])) [stB s,Blk.mk [Zae (i64 (Zbm (StT.no s))),Zae (i64 (Zbv (StT.no s))),Zae (u64 (Zca (StT.no s))),Zae (i64 (Zbz (StT.no s))),AV.own 33 1 A,AV.own 28 1 B,AV.own 71 2 xs,Zae (Zal 1 (digR (StT.pf s))),Zae (i64 (TrT.iv (StT.tr s))),Zae (i64 (TrT.bg (StT.tr s))),Zae (i64 (TrT.fi (StT.tr s))),Zae (i64 (TrT.ct (StT.tr s))),Zae (i64 (TrT.sd (StT.tr s)))] false false 0] b)):=by kernel_rfl
theorem takeL_next {α:Type} {l:List (List α)} {k:Nat} (h:k<l.length):l.take (k+1)=l.take k++ [nthL l k]:=by
 rw [List.take_succ_eq_append_getElem h,nthL];simp [h]
def nthW (l:List Row) (i:Nat):Row:=l.getD i (0, [])
theorem nthW_mem {l:List Row} {k:Nat} (h:k<l.length):nthW l k∈l:=by
 rw [nthW,List.getD_eq_getElem?_getD,List.getElem?_eq_getElem h];exact List.getElem_mem h
theorem takeW_next {l:List Row} {k:Nat} (h:k<l.length):l.take (k+1)=l.take k++ [nthW l k]:=by
 rw [List.take_succ_eq_append_getElem h,nthW];simp [h]
theorem rowW_at {l:List Row} {k:Nat} (h:k<l.length):(rowsR l)[k]? =some [i64 (nthW l k).1, .sl 1 (bytesR (nthW l k).2)]:=by simp [rowsR,rowD,nthW,h]
theorem rowsW_app (l:List Row) (x:Row):rowsR l++ [[i64 x.1, .sl 1 (bytesR x.2)]]=rowsR (l++ [x]):=by simp [rowsR,rowD]
theorem wrapN {j:Nat} (h:j<1000000):Zaa Zax ((j:Int)+1)=((j+1:Nat):Int):=by
 rw [wrap_i64 (by omega) (by omega)];simp
theorem wrCo1 {Ev:Env prog} {b:Ev.β} {Q:Exit→St Ev.β→Prop} (s:StT) (hs:smallS s) (c5 c6:AV) (hQ:∀i:Int,Q (.exit 0) ⟨tmCo 19 1 (partsR s.ps) s.ps.length i, [stB s,outC s (.own 33 1 (partsR s.ps)) c5 c6],b⟩):
   WR Ev lpCo1 (s.ps.length+1) ⟨tmCo 19 1 (partsR s.ps) s.ps.length 0, [stB s,outC s (.own 33 1 (partsR [])) c5 c6],b⟩ Q:=by
 have hl:=hs.1.1
 refine WR.steps (X:=⟨TCo, [],wlW Ev,Ev.Y,false⟩) (k:=100) [1,3,19,20,21] mixed (CX.Ok.of TCo_ok Zaf) (e:= .exit 0) (by simp) b (fun j=>tmCo 19 1 (partsR s.ps) s.ps.length (j:Nat)) (fun j=> [stB s,outC s (.own 33 1 (partsR (s.ps.take j))) c5 c6]) s.ps.length 0 (fun j _ hj K k1=> ?_) (fun K k1=> ?_) ?_
 · have hj:j<s.ps.length:=by omega
   rw [rCo1]
   refine Zbt (by simp;omega) (Zbt (by simp) ⟨bytesR (nthL s.ps j),by rw [Zba];exact parts_at hj,_,rfl,by rw [bytesR_len];exact hs.1.2 _ (nthL_mem hj),Zbt (by simp [partsR_len];omega) ?_⟩)
   rw [wrapN (by omega),parts_app1,←takeL_next hj]
   exact k1
 · rw [rCo1]
   exact Zea (by simp) k1
 · have:=hQ s.ps.length
   simpa using this
theorem wrCo2 {Ev:Env prog} {b:Ev.β} {Q:Exit→St Ev.β→Prop} (s:StT) (hs:smallS s) (c5 c6:AV) (hQ:∀i:Int,Q (.exit 2) ⟨tmCo 34 1 (proofsR s.qs) s.qs.length i, [stB s,outC s c5 (.own 28 1 (proofsR s.qs)) c6],b⟩):
   WR Ev lpCo2 (s.qs.length+1) ⟨tmCo 34 1 (proofsR s.qs) s.qs.length 0, [stB s,outC s c5 (.own 28 1 (proofsR [])) c6],b⟩ Q:=by
 have hl:=hs.2.1.1
 refine WR.steps (X:=⟨TCo, [],wlW Ev,Ev.Y,false⟩) (k:=100) [1,3,34,35,36] mixed (CX.Ok.of TCo_ok Zaf) (e:= .exit 2) (by simp) b (fun j=>tmCo 34 1 (proofsR s.qs) s.qs.length (j:Nat)) (fun j=> [stB s,outC s c5 (.own 28 1 (proofsR (s.qs.take j))) c6]) s.qs.length 0 (fun j _ hj K k1=> ?_) (fun K k1=> ?_) ?_
 · have hj:j<s.qs.length:=by omega
   rw [rCo2]
   refine Zbt (by simp;omega) (Zbt (by simp) ⟨digR (nthL s.qs j),by rw [Zba];exact proofs_at hj,_,rfl,by rw [digR_len];exact hs.2.1.2 _ (nthL_mem hj),Zbt (by simp [proofs_len];omega) ?_⟩)
   rw [wrapN (by omega),proofs_app1,←takeL_next hj]
   exact k1
 · rw [rCo2]
   exact Zea (by simp) k1
 · have:=hQ s.qs.length
   simpa using this
theorem wrCo3 {Ev:Env prog} {b:Ev.β} {Q:Exit→St Ev.β→Prop} (s:StT) (hs:smallS s) (A B:List (List Dv)) (hQ:∀i:Int,Q (.exit 4) ⟨tmCo 49 2 (rowsR s.rows) s.rows.length i, [stB s,outC s (.own 33 1 A) (.own 28 1 B) (.own 71 2 (rowsR s.rows))],b⟩):
   WR Ev lpCo3 (s.rows.length+1) ⟨tmCo 49 2 (rowsR s.rows) s.rows.length 0, [stB s,outC s (.own 33 1 A) (.own 28 1 B) (.own 71 2 (rowsR []))],b⟩ Q:=by
 have hl:=hs.2.2.1.1
 refine WR.stepsM (m:=2) (X:=⟨TCo, [],wlW Ev,Ev.Y,false⟩) (k:=100) [1,3,49,50,51] mixed (CX.Ok.of TCo_ok Zaf) (e:= .exit 4) (by simp) b (fun j=>tmCo 49 2 (rowsR s.rows) s.rows.length (j:Nat)) (fun j=> [stB s,outC s (.own 33 1 A) (.own 28 1 B) (.own 71 2 (rowsR (s.rows.take j)))]) (fun _=>rfl) s.rows.length 0 (fun j _ hj K k1=> ?_) (fun K k1=> ?_) ?_
 · have hj:j<s.rows.length:=by omega
   rw [rCo3]
   refine Zbt (by simp;omega) (Zbt (by simp) ⟨(nthW s.rows j).1,bytesR (nthW s.rows j).2,by rw [Zba];exact rowW_at hj,_,rfl,by rw [bytesR_len];have:=hs.2.2.1.2 _ (nthW_mem hj);omega,Zbt (by simp [rowsR_len];omega) ?_⟩)
   rw [wrapN (by omega),rowsW_app,←takeW_next hj]
   exact k1
 · rw [rCo3]
   exact Zea (by simp) k1
 · have:=hQ s.rows.length
   simpa using this
def wlCo {β:Type}:WLT β:=fun c tm hp b K=>match cidO c with
 |4=>∃s,smallS s∧c= .loop lpCo1∧maskTm [1,3,19,20,21] 0 tm=tmCo 19 1 (partsR s.ps) (partsR s.ps).length 0∧hp= [stB s,outC s nilV nilV nilV]∧∀i:Int,K (.exit 0) (tmCo 19 1 (partsR s.ps) s.ps.length i) [stB s,outC s (.own 33 1 (partsR s.ps)) nilV nilV] b
 |9=>∃s,smallS s∧c= .loop lpCo2∧maskTm [1,3,34,35,36] 0 tm=tmCo 34 1 (proofsR s.qs) (proofsR s.qs).length 0∧hp= [stB s,outC s (.own 33 1 (partsR s.ps)) nilV nilV]∧∀i:Int,K (.exit 2) (tmCo 34 1 (proofsR s.qs) s.qs.length i) [stB s,outC s (.own 33 1 (partsR s.ps)) (.own 28 1 (proofsR s.qs)) nilV] b
 |14=>∃s,smallS s∧c= .loop lpCo3∧maskTm [1,3,49,50,51] 0 tm=tmCo 49 2 (rowsR s.rows) (rowsR s.rows).length 0∧hp= [stB s,outC s (.own 33 1 (partsR s.ps)) (.own 28 1 (proofsR s.qs)) nilV]∧∀i:Int,K (.exit 4) (tmCo 49 2 (rowsR s.rows) s.rows.length i) [stB s,outC s (.own 33 1 (partsR s.ps)) (.own 28 1 (proofsR s.qs)) (.own 71 2 (rowsR s.rows))] b
 |_=>False
theorem wlCo_ok {Ev:Env prog} (c:Code) (tm:List AV) (hp:List Blk) (b:Ev.β) (K:Exit→List AV→List Blk→Ev.β→Prop) (h:wlCo c tm hp b K):W Ev c ⟨tm,hp,b⟩ (fun e s=>K e s.tm s.hp s.b):=by
 unfold wlCo at h
 split at h
 · obtain ⟨s,hs,rfl,htm,rfl,hK⟩:=h
   rw [partsR_len] at htm
   refine W.cast (htm▸maskTm_le _ tm 0) (hp':= [stB s,outC s (.own 33 1 (partsR [])) nilV nilV]) (LeH.at [stB s] [] (LeL.at [_,_,_,_] _ (LeA.nilOwn rfl))) ?_
   exact W.rounds (wrCo1 (Q:=fun e s=>K e s.tm s.hp s.b) s hs _ _ hK)
 · obtain ⟨s,hs,rfl,htm,rfl,hK⟩:=h
   rw [proofs_len] at htm
   refine W.cast (htm▸maskTm_le _ tm 0) (hp':= [stB s,outC s (.own 33 1 (partsR s.ps)) (.own 28 1 (proofsR [])) nilV]) (LeH.at [stB s] [] (LeL.at [_,_,_,_,_] _ (LeA.nilOwn rfl))) ?_
   exact W.rounds (wrCo2 (Q:=fun e s=>K e s.tm s.hp s.b) s hs _ _ hK)
 · obtain ⟨s,hs,rfl,htm,rfl,hK⟩:=h
   rw [rowsR_len] at htm
   refine W.cast (htm▸maskTm_le _ tm 0) (hp':= [stB s,outC s (.own 33 1 (partsR s.ps)) (.own 28 1 (proofsR s.qs)) (.own 71 2 (rowsR []))]) (LeH.at [stB s] [] (LeL.at [_,_,_,_,_,_] _ (LeA.nilOwn rfl))) ?_
   exact W.rounds (wrCo3 (Q:=fun e s=>K e s.tm s.hp s.b) s hs _ _ hK)
 · exact h.elim
abbrev Qz10 (v0:StT):List AV:= [Zae (i64 (Zbm (StT.no v0))),Zae (i64 (Zbv (StT.no v0))),Zae (u64 (Zca (StT.no v0))),Zae (i64 (Zbz (StT.no v0))),AV.own 33 1 (partsR (StT.ps v0)),AV.own 28 1 (proofsR (StT.qs v0)),AV.own 71 2 (rowsR (StT.rows v0)),Zae (Zal 1 (digR (StT.pf v0))),Zae (i64 (TrT.iv (StT.tr v0))),Zae (i64 (TrT.bg (StT.tr v0))),Zae (i64 (TrT.fi (StT.tr v0))),Zae (i64 (TrT.ct (StT.tr v0))),Zae (i64 (TrT.sd (StT.tr v0)))]
abbrev Qz14 (v0:StT):= [stB v0,Blk.mk [Zae (i64 (Zbm (StT.no v0))),Zae (i64 (Zbv (StT.no v0))),Zae (u64 (Zca (StT.no v0))),Zae (i64 (Zbz (StT.no v0))),AV.own 33 1 (partsR (StT.ps v0)),AV.own 28 1 (proofsR (StT.qs v0)),Zae (Dv.s (.slice none 0 0)),Zae (Zal 1 (digR (StT.pf v0))),Zae (i64 (TrT.iv (StT.tr v0))),Zae (i64 (TrT.bg (StT.tr v0))),Zae (i64 (TrT.fi (StT.tr v0))),Zae (i64 (TrT.ct (StT.tr v0))),Zae (i64 (TrT.sd (StT.tr v0)))] false false 0]
abbrev Qz15 (v0:StT):= [stB v0,Blk.mk [Zae (i64 (Zbm (StT.no v0))),Zae (i64 (Zbv (StT.no v0))),Zae (u64 (Zca (StT.no v0))),Zae (i64 (Zbz (StT.no v0))),AV.own 33 1 (partsR (StT.ps v0)),Zae (Dv.s (.slice none 0 0)),Zae (Dv.s (.slice none 0 0)),Zae (Zal 1 (digR (StT.pf v0))),Zae (i64 (TrT.iv (StT.tr v0))),Zae (i64 (TrT.bg (StT.tr v0))),Zae (i64 (TrT.fi (StT.tr v0))),Zae (i64 (TrT.ct (StT.tr v0))),Zae (i64 (TrT.sd (StT.tr v0)))] false false 0]
abbrev Qz18 (v0:StT):=Zaz::Zbf 0 0::Zaz::Zbf 1 0::bds 30 (Zae (Zal 1 (proofsR (StT.qs v0)))::Zae (i64 ((Zac (proofsR (StT.qs v0)):Nat):Int))::Zae (i64 0)::bds 33 [])
abbrev Qz19 (v0:StT):=Zaz::Zbf 0 0::Zaz::Zbf 1 0::bds 45 (Zae (Zal 2 (rowsR (StT.rows v0)))::Zae (i64 ((Zac (rowsR (StT.rows v0)):Nat):Int))::Zae (i64 0)::bds 18 [])
abbrev Qz20 (v0:StT):=Zaz::Zbf 0 0::Zaz::Zbf 1 0::bds 15 (Zae (Zal 1 (partsR (StT.ps v0)))::Zae (i64 ((Zac (partsR (StT.ps v0)):Nat):Int))::Zae (i64 0)::bds 48 [])
theorem copied_nf (s:StT):wpFnS prog ⟨TCo, [],wlCo,y,false⟩ 100 f47 [stV s] b RS=(∃(xs0:List (List Dv)), [Zae (Zal 1 (digR (StT.pf s)))]= [Zae (Zal 1 xs0)]∧Zac xs0≤1000000∧∃(s1:StT),(smallS s1)∧Zbq lpCo1=Zbq lpCo1∧(Qz20 s)=(Qz20 s1)∧ [stB s,Blk.mk [Zae (i64 (Zbm (StT.no s))),Zae (i64 (Zbv (StT.no s))),Zae (u64 (Zca (StT.no s))),Zae (i64 (Zbz (StT.no s))),Zae (Dv.s (.slice none 0 0)),Zae (Dv.s (.slice none 0 0)),Zae (Dv.s (.slice none 0 0)),Zae (Zal 1 xs0),Zae (i64 (TrT.iv (StT.tr s))),Zae (i64 (TrT.bg (StT.tr s))),Zae (i64 (TrT.fi (StT.tr s))),Zae (i64 (TrT.ct (StT.tr s))),Zae (i64 (TrT.sd (StT.tr s)))] false false 0]= [stB s1,Blk.mk [Zae (i64 (Zbm (StT.no s1))),Zae (i64 (Zbv (StT.no s1))),Zae (u64 (Zca (StT.no s1))),Zae (i64 (Zbz (StT.no s1))),Zae (Dv.s (.slice none 0 0)),Zae (Dv.s (.slice none 0 0)),Zae (Dv.s (.slice none 0 0)),Zae (Zal 1 (digR (StT.pf s1))),Zae (i64 (TrT.iv (StT.tr s1))),Zae (i64 (TrT.bg (StT.tr s1))),Zae (i64 (TrT.fi (StT.tr s1))),Zae (i64 (TrT.ct (StT.tr s1))),Zae (i64 (TrT.sd (StT.tr s1)))] false false 0]∧∀(i:Int),∃(s2:StT),(smallS s2)∧Zbq lpCo2=Zbq lpCo2∧(Qz18 s1)=(Qz18 s2)∧(Qz15 s1)=(Qz15 s2)∧∀(i:Int),∃(s3:StT),(smallS s3)∧Zbq lpCo3=Zbq lpCo3∧(Qz19 s2)=(Qz19 s3)∧(Qz14 s2)=(Qz14 s3)∧∀(i:Int),RS (Zbf 2 0) [stB s3,Blk.mk (Qz10 s3) false false 0,stB s3] b):=by kernel_rfl
noncomputable def lpEq:Code:=sub [1,1,0,1,2,3] (code f122)
def tmEq (a c:List (List Dv)) (n i:Int):List AV:= [.d (.sl 1 a), .d (.sl 1 c)]++Zad 10 .bad++ [.d (i64 n), .d (i64 i)]++Zad 12 .bad
theorem rEq (a c:List (List Dv)) (n i:Int):wpc prog ⟨[], [],wl,y,false⟩ 100 lpEq (tmEq a c n i) [] b (maskT [0,1,4,12,13] K)=(BIf (decide (i<n)) (BIf (true&&decide (0≤i)) (∃(x0:Int),a[Zat i]? =some [u64 x0]∧BIf (true&&decide (0≤i)) (∃(x3:Int),c[Zat i]? =some [u64 x3]∧BIf (x0 !=x3) (K .ret (Zae (Zal 1 a)::Zae (Zal 1 c)::Zaz::Zaz::Zae (bo false)::bds 7 (Zae (i64 n)::Zae (i64 i)::bds 12 [])) [] b) (K .normal (Zae (Zal 1 a)::Zae (Zal 1 c)::bds 10 (Zae (i64 n)::Zae (i64 (Zaa .i64 (i+1)))::bds 12 [])) [] b)) False) False) (K (Exit.exit 0) (Zae (Zal 1 a)::Zae (Zal 1 c)::bds 10 (Zae (i64 n)::Zae (i64 i)::bds 12 [])) [] b)):=by kernel_rfl
theorem wrEq {Ev:Env prog} {b:Ev.β} {Q:Exit→St Ev.β→Prop} (a c:List Int) (hl:a.length=c.length) (hb:a.length≤9223372036854775807) (h1:a=c→∀i:Int,Q (.exit 0) ⟨tmEq (digR a) (digR c) a.length i, [],b⟩) (h2:a≠c→∀i:Int,Q .ret ⟨(tmEq (digR a) (digR c) a.length i).set 4 (.d (bo false)), [],b⟩):
   WR Ev lpEq (a.length+1) ⟨tmEq (digR a) (digR c) a.length (0:Nat), [],b⟩ Q:=by
 refine WR.scan (X:=⟨[], [],wlW Ev,Ev.Y,false⟩) (k:=100) [0,1,4,12,13] mixed (CX.Ok.of Zaj Zaf) a.length (fun i=>nth a i !=nth c i) (fun i=>tmEq (digR a) (digR c) a.length (i:Nat)) (fun i=>(tmEq (digR a) (digR c) a.length (i:Nat)).set 4 (.d (bo false))) [] 0 (fun i hi K k1 k2=> ?_) (fun K k1=> ?_) (fun h=>h1 ?_ _) fun h i=>h2 ?_ _
 · rw [rEq]
   refine Zbt (by simp<;>omega) (Zbt (by simp) ⟨nth a i,by rw [Zba];exact digs_at hi,Zbt (by simp) ⟨nth c i,by rw [Zba];exact digs_at (by omega),Zar (fun g=>k1 g) fun g=> ?_⟩⟩)
   rw [wrap_succ hi hb];exact k2 g
 · rw [rEq]
   exact Zea (by simp) k1
 · rw [any_ne hl] at h;simpa using h
 · rw [any_ne hl] at h;simpa using h
def wlEq {β:Type}:WLT β:=fun t tm hp b K=>∃(a c:List Int) (z:Bool),t= .loop lpEq∧maskTm [0,1,12,13] 0 tm=tmEq (digR a) (digR c) (digR a).length 0∧hp= []∧((a.length=c.length∧a.length≤9223372036854775807)∧z=decide (a=c))∧
 BIf z (∀i:Int,K (.exit 0) (tmEq (digR a) (digR c) a.length i) [] b) (∀i:Int,K .ret ((tmEq (digR a) (digR c) a.length i).set 4 (.d (bo false))) [] b)
theorem wlEq_ok {Ev:Env prog} (c:Code) (tm:List AV) (hp:List Blk) (b:Ev.β) (K:Exit→List AV→List Blk→Ev.β→Prop) (h:wlEq c tm hp b K):W Ev c ⟨tm,hp,b⟩ (fun e s=>K e s.tm s.hp s.b):=by
 obtain ⟨a,d,z,rfl,htm,rfl,⟨⟨hl,hb⟩,hz⟩,hK⟩:=h
 rw [digR_len] at htm
 refine W.cast (htm▸maskTm_le _ tm 0) (LeH.refl _) ?_
 exact W.rounds (wrEq (Q:=fun e s=>K e s.tm s.hp s.b) a d hl hb (fun h=>by rw [hz,decide_eq_true h] at hK;exact hK) fun h=>by rw [hz,decide_eq_false h] at hK;exact hK)
theorem equal_nf (a c:List (List Dv)):wpFn prog ⟨[], [],wlEq,y,false⟩ 100 f122 [.d (.sl 1 a), .d (.sl 1 c)] b R=(BIf (((Zac a:Nat):Int) !=((Zac c:Nat):Int)) (R (.d (bo false)) b) (∃(a0:List Int) (c1:List Int) (z2:Bool),Zbq lpEq=Zbq lpEq∧(Zae (Zal 1 a)::Zae (Zal 1 c)::bds 10 (Zae (i64 ((Zac a:Nat):Int))::Zae (i64 0)::bds 12 []))=(Zae (Zal 1 (digR a0))::Zae (Zal 1 (digR c1))::bds 10 (Zae (i64 ((Zac (digR a0):Nat):Int))::Zae (i64 0)::bds 12 []))∧([]:List Blk)= []∧((Zac a0=Zac c1∧Zac a0≤9223372036854775807)∧z2=decide (a0=c1))∧BIf z2 (∀(i:Int),R (.d (bo true)) b) (∀(i:Int),R (.d (bo false)) b))):=by kernel_rfl
theorem pcEqual (a c:List Int) (ha:a.length≤9223372036854775807):PCall prog 122 [.d (.sl 1 (digR a)), .d (.sl 1 (digR c))] (.d (bo (decide (a=c)))):=by
 refine PCall.ofFnW (n:=100) (u:=false) (fun _=>wlEq) mixed Zaj Zaf (fun Ev=>wlEq_ok) func122 (by rfl) (by rfl) fun Ev bb=> ?_
 rw [equal_nf,digR_len,digR_len]
 refine Zar (fun g=> ?_) fun g=>⟨a,c,_,rfl,by rw [digR_len],rfl,⟨⟨by simp at g;omega,ha⟩,rfl⟩,Zar (fun h i=>by rw [h]) fun h i=>by rw [h]⟩
 rw [decide_eq_false fun h=>by rw [h] at g;simp at g]
def cEqual (args:List AV) (K:AV→Prop):Prop:=∃(a c:List Int) (z:Bool),args= [.d (.sl 1 (digR a)), .d (.sl 1 (digR c))]∧(a.length≤9223372036854775807∧z=decide (a=c))∧K (.d (bo z))
theorem cEqual_ok:∀args K,cEqual args K→∃x,PCall prog 122 args x∧K x:=by
 rintro _ K ⟨a,c,_,rfl,⟨hl,rfl⟩,h⟩;exact ⟨_,pcEqual a c hl,h⟩
theorem pcCopied (s:StT) (hs:smallS s):FCall prog 47 [stV s] (.ptr 2 0) [stB s,outC s (.own 33 1 (partsR s.ps)) (.own 28 1 (proofsR s.qs)) (.own 71 2 (rowsR s.rows)),stB s]:=by
 refine FCall.ofFnF (n:=100) (u:=false) (fun _=>wlCo) mixed TCo_ok Zaf (fun Ev=>wlCo_ok) func47 (by rfl) (by rfl) (by rfl) fun Ev bb=> ?_
 rw [copied_nf]
 exact ⟨_,rfl,by rw [digR_len];exact hs.2.2.2,s,hs,rfl,rfl,rfl,fun i=>⟨s,hs,rfl,rfl,rfl,fun i=>⟨s,hs,rfl,rfl,rfl,fun i=>⟨.rfl,rfl⟩⟩⟩⟩
def sCopied (args:List AV) (hp:List Blk) (K:AV→List Blk→Prop):Prop:=∃(s:StT),args= [stV s]∧smallS s∧
 K (.ptr (hp.length+2) 0) (hp++ [stB s,outC s (.own 33 1 (partsR s.ps)) (.own 28 1 (proofsR s.qs)) (.own 71 2 (rowsR s.rows)),stB s])
theorem sCopied_ok:∀args hp K,sCopied args hp K→∃x hp',SCall prog 47 args hp x hp'∧K x hp':=by
 rintro _ hp K ⟨s,rfl,hs,h⟩;exact ⟨_,_,(pcCopied s hs).toS rfl hp,h⟩
structure BlkT where
 n:Int
 s:Int
 d:List Int
 pf:List Int
def bkL (x:BlkT):List AV:= [.d (i64 x.n), .d (i64 x.s), .d (.sl 1 (bytesR x.d)), .d (.sl 1 (digR x.pf))]
def bkV (x:BlkT):AV:= .agg (bkL x)
def TRf:List (Nat×(List AV→(AV→Prop)→Prop)):= [(61,cSValid),(62,cSEmpty),(121,cSWhole),(122,cEqual)]
theorem TRf_ok:CallsOk prog TRf:=Zag cSValid_ok (Zag cSEmpty_ok (Zag cSWhole_ok (Zag cEqual_ok Zaj)))
theorem refused_nf (s:StT) (x:BlkT):wpFn prog ⟨TRf, [],wl,y,false⟩ 100 f48 [.rptr (stD s),bkV x] b R=(∃(s0:StT) (z1:Bool), [Zcq (stD s)]= [Zcq (stD s0)]∧((smallS s0)∧z1=validP s0)∧BIf (!z1) (R (.d (i64 1)) b) (BIf (decide (BlkT.n x<(0:Int))) (R (.d (i64 1)) b) (BIf (decide (BlkT.n x≥(16:Int))) (R (.d (i64 1)) b) (BIf (decide (BlkT.s x<(0:Int))) (R (.d (i64 1)) b) (BIf (decide (BlkT.s x>(1000000000:Int))) (R (.d (i64 1)) b) (BIf (((Zac (bytesR (BlkT.d x)):Nat):Int) !=(16:Int)) (R (.d (i64 1)) b) (∃(s2:StT) (z3:Bool), [Zcq (stD s)]= [Zcq (stD s2)]∧((smallS s2)∧z3=emptyS s2)∧BIf z3 (R (.d (i64 4)) b) (∃(s4:StT) (z5:Bool), [Zcq (stD s)]= [Zcq (stD s4)]∧z5=fullP s4∧BIf z5 (R (.d (i64 10)) b) (BIf (decide (BlkT.n x<((Zac (partsR (StT.ps s)):Nat):Int))) (R (.d (i64 14)) b) (BIf (decide (BlkT.n x>((Zac (partsR (StT.ps s)):Nat):Int))) (R (.d (i64 6)) b) (BIf (decide (((Zac (rowsR (StT.rows s)):Nat):Int)>(0:Int))) (∃(a6:List Int) (c7:List Int) (z8:Bool), [Zae (Zal 1 (digR (BlkT.pf x))),Zae (Zal 1 (digR (StT.pf s)))]= [Zae (Zal 1 (digR a6)),Zae (Zal 1 (digR c7))]∧(Zac a6≤9223372036854775807∧z8=decide (a6=c7))∧BIf (!z8) (R (.d (i64 12)) b) (R (.d (i64 0)) b)) (R (.d (i64 0)) b)))))))))))):=by kernel_rfl
abbrev Qz4 (v0:StT):List AV:= [Zae (i64 (Zbm (StT.no v0))),Zae (i64 (Zbv (StT.no v0))),Zae (u64 (Zca (StT.no v0))),Zae (i64 (Zbz (StT.no v0))),Zae (Zal 1 (partsR (StT.ps v0))),Zae (Zal 1 (proofsR (StT.qs v0))),Zae (Dv.s (.slice none 0 0)),Zae (Dv.s (.slice none 0 0)),Zae (i64 (TrT.iv (StT.tr v0))),Zae (i64 (TrT.bg (StT.tr v0))),Zae (i64 (TrT.fi (StT.tr v0))),Zae (i64 (TrT.ct (StT.tr v0))),Zae (i64 (TrT.sd (StT.tr v0)))]
theorem anew6_nf (b0 b1 b2 b3 b4:Blk) (s:StT) (e:Int):wpc prog ⟨[], [],wl,y,false⟩ 100 (code f50) (startTm f50 [.ptr 5 0, .d (i64 e)]) [b0,b1,b2,b3,b4,stB s] b (fnKS prog f50 RS)=(RS (AV.tup [Zbl (Qz4 s),Zae (i64 e)]) [b0,b1,b2,b3,b4,Blk.mk (Qz4 s) false false 0,Blk.mk (Qz4 s) false false 0] b):=by kernel_rfl
theorem anew7_nf (b0 b1 b2 b3 b4 b6:Blk) (s:StT) (e:Int):wpc prog ⟨[], [],wl,y,false⟩ 100 (code f50) (startTm f50 [.ptr 5 0, .d (i64 e)]) [b0,b1,b2,b3,b4,stB s,b6] b (fnKS prog f50 RS)=(RS (AV.tup [Zbl (Qz4 s),Zae (i64 e)]) [b0,b1,b2,b3,b4,Blk.mk (Qz4 s) false false 0,b6,Blk.mk (Qz4 s) false false 0] b):=by kernel_rfl
def badB (x:BlkT):Bool:=decide (x.n<0)||(decide (x.n≥16)||(decide (x.s<0)||(decide (x.s>1000000000)||((x.d.length:Int) !=16))))
def refusedS (s:StT) (x:BlkT):Int:=
 if (!validP s||badB x)=true then 1 else if emptyS s=true then 4 else if fullP s=true then 10 else if x.n<s.ps.length then 14 else if x.n>s.ps.length then 6 else if (!s.rows.isEmpty&& !decide (x.pf=s.pf))=true then 12 else 0
theorem pcRefused (s:StT) (x:BlkT) (hs:smallS s) (hx:x.pf.length≤1000000):PCall prog 48 [.rptr (stD s),bkV x] (.d (i64 (refusedS s x))):=by
 refine Zbi (n:=100) (u:=false) mixed TRf_ok Zaf func48 (by rfl) (by rfl) fun Ev bb=> ?_
 rw [refused_nf,partsR_len,rowsR_len,bytesR_len,len_gt0]
 have bad:(!validP s||badB x)=true→refusedS s x=1:=fun h=>by rw [refusedS,if_pos h]
 refine ⟨s,_,rfl,⟨hs,rfl⟩,Zar (fun h=>by rw [bad (by rw [h];rfl)]) fun h1=>Zar (fun h=>by rw [bad (by rw [badB,h];simp)]) fun h2=>Zar (fun h=>by rw [bad (by rw [badB,h];simp)]) fun h3=>Zar (fun h=>by rw [bad (by rw [badB,h];simp)]) fun h4=>Zar (fun h=>by rw [bad (by rw [badB,h];simp)]) fun h5=>Zar (fun h=>by rw [bad (by rw [badB,h];simp)]) fun h6=> ?_⟩
 have hb:¬(!validP s||badB x)=true:=by rw [h1,badB,h2,h3,h4,h5,h6];decide
 refine ⟨s,_,rfl,⟨hs,rfl⟩,Zar (fun h=>by rw [refusedS,if_neg hb,if_pos h]) fun g1=>⟨s,_,rfl,rfl,Zar (fun h=>by rw [refusedS,if_neg hb,if_neg (by rw [g1];decide),if_pos h]) fun g2=>Zar (fun h=> ?_) fun g3=>Zar (fun h=> ?_) fun g4=>Zar (fun g5=>⟨_,_,_,rfl,⟨by omega,rfl⟩,Zar (fun h=> ?_) fun g6=> ?_⟩) fun g5=> ?_⟩⟩
 all_goals rw [refusedS,if_neg hb,if_neg (by rw [g1];decide),if_neg (by rw [g2];decide)]
 · rw [if_pos (of_decide_eq_true h)]
 · rw [if_neg (of_decide_eq_false g3),if_pos (of_decide_eq_true h)]
 · rw [if_neg (of_decide_eq_false g3),if_neg (of_decide_eq_false g4),if_pos (by rw [g5,h];rfl)]
 · rw [if_neg (of_decide_eq_false g3),if_neg (of_decide_eq_false g4),if_neg (by rw [g6,Bool.and_false];decide)]
 · rw [if_neg (of_decide_eq_false g3),if_neg (of_decide_eq_false g4),if_neg (by rw [g5,Bool.false_and];decide)]
def cRefused (args:List AV) (K:AV→Prop):Prop:=∃(s:StT) (x:BlkT) (z:Int),args= [.rptr (stD s),bkV x]∧((smallS s∧x.pf.length≤1000000)∧z=refusedS s x)∧K (.d (i64 z))
theorem cRefused_ok:∀args K,cRefused args K→∃x,PCall prog 48 args x∧K x:=by
 rintro _ K ⟨s,x,_,rfl,⟨⟨hs,hx⟩,rfl⟩,h⟩;exact ⟨_,pcRefused s x hs hx,h⟩
def anL (s:StT):List AV:=noL s.no++ [.d (.sl 1 (partsR s.ps)), .d (.sl 1 (proofsR s.qs)), .d (.s (.slice none 0 0)), .d (.s (.slice none 0 0))]++trL s.tr
def anewS (s:StT):StT:=⟨s.no,s.ps,s.qs, [], [],s.tr⟩
theorem anew_body:Tryz.f50.body=some (code f50):=by rfl
theorem scAnew6 (b0 b1 b2 b3 b4:Blk) (s:StT) (e:Int):SCall prog 50 [.ptr 5 0, .d (i64 e)] [b0,b1,b2,b3,b4,stB s] (.tup [.agg (anL s), .d (i64 e)]) [b0,b1,b2,b3,b4,⟨anL s,false,false,0⟩,⟨anL s,false,false,0⟩]:=by
 refine SCall.ofWp (n:=100) (u:=false) mixed Zaj Zaf func50 anew_body (by rfl) fun Ev b=> ?_
 rw [anew6_nf]
 exact ⟨rfl,rfl⟩
theorem scAnew7 (b0 b1 b2 b3 b4 b6:Blk) (s:StT) (e:Int):SCall prog 50 [.ptr 5 0, .d (i64 e)] [b0,b1,b2,b3,b4,stB s,b6] (.tup [.agg (anL s), .d (i64 e)]) [b0,b1,b2,b3,b4,⟨anL s,false,false,0⟩,b6,⟨anL s,false,false,0⟩]:=by
 refine SCall.ofWp (n:=100) (u:=false) mixed Zaj Zaf func50 anew_body (by rfl) fun Ev b=> ?_
 rw [anew7_nf]
 exact ⟨rfl,rfl⟩
def sAnew (args:List AV) (hp:List Blk) (K:AV→List Blk→Prop):Prop:=match hp with
 | [b0,b1,b2,b3,b4,b5]=>∃(s:StT) (e:Int),args= [.ptr 5 0, .d (i64 e)]∧b5=stB s∧K (.tup [.agg (anL s), .d (i64 e)]) [b0,b1,b2,b3,b4,⟨anL s,false,false,0⟩,⟨anL s,false,false,0⟩]
 | [b0,b1,b2,b3,b4,b5,b6]=>∃(s:StT) (e:Int),args= [.ptr 5 0, .d (i64 e)]∧b5=stB s∧K (.tup [.agg (anL s), .d (i64 e)]) [b0,b1,b2,b3,b4,⟨anL s,false,false,0⟩,b6,⟨anL s,false,false,0⟩]
 |_=>False
theorem sAnew_ok:∀args hp K,sAnew args hp K→∃x hp',SCall prog 50 args hp x hp'∧K x hp':=by
 intro args hp K h
 unfold sAnew at h
 split at h
 · obtain ⟨s,e,rfl,rfl,h⟩:=h
   exact ⟨_,_,scAnew6 _ _ _ _ _ s e,h⟩
 · obtain ⟨s,e,rfl,rfl,h⟩:=h
   exact ⟨_,_,scAnew7 _ _ _ _ _ _ s e,h⟩
 · exact h.elim
def zeroSt:StT:=⟨⟨0,0,0,0⟩, [], [], [], [],⟨0,0,0,0,0⟩⟩
def putT (s:StT) (p q:List Int):StT×Int:=
 if soundT s=false∨p.length≠256 then (zeroSt,1) else if (s.ps.length:Int)=countS s.no.n then (zeroSt,10) else if provedS s.sp s.ps.length p q=false then (zeroSt,12)
 else (⟨s.no,s.ps++ [p],s.qs++ [q], [], [],s.tr⟩,0)
theorem putT_sp (s:StT) (p q:List Int):spV (putS s.sp p q).1=stV (putT s p q).1∧(putS s.sp p q).2=(putT s p q).2:=by
 unfold putS putT soundT
 by_cases h1:soundS s.sp=false∨p.length≠256
 · rw [if_pos h1,if_pos h1];exact ⟨rfl,rfl⟩
 · rw [if_neg h1,if_neg h1]
   by_cases h2:(s.ps.length:Int)=countS s.no.n
   · rw [if_pos (show (s.sp.ps.length:Int)=countS s.sp.no.n from h2),if_pos h2];exact ⟨rfl,rfl⟩
   · rw [if_neg (show ¬(s.sp.ps.length:Int)=countS s.sp.no.n from h2),if_neg h2]
     by_cases h3:provedS s.sp s.ps.length p q=false
     · rw [if_pos (show provedS s.sp s.sp.ps.length p q=false from h3),if_pos h3];exact ⟨rfl,rfl⟩
     · rw [if_neg (show ¬provedS s.sp s.sp.ps.length p q=false from h3),if_neg h3];exact ⟨rfl,rfl⟩
def okPut (s:StT) (q:List Int):Prop:=s.ps.length≤9223372036854775807∧q.length≤1000000∧∀x∈s.qs,x.length≤1000000
theorem pcPutT (s:StT) (p q:List Int) (h:okPut s q):PCall prog 53 [stV s, .d (.sl 1 (bytesR p)), .d (.sl 1 (digR q))] (.tup [stV (putT s p q).1, .d (i64 (putT s p q).2)]):=by
 have:=pcPut s.sp p q h.1 h.2.1 h.2.2
 rw [(putT_sp s p q).1,(putT_sp s p q).2] at this
 exact this
def cPutT (args:List AV) (K:AV→Prop):Prop:=∃(s:StT) (p q:List Int) (z:StT) (e:Int),args= [stV s, .d (.sl 1 (bytesR p)), .d (.sl 1 (digR q))]∧(okPut s q∧(z,e)=putT s p q)∧K (.tup [stV z, .d (i64 e)])
theorem cPutT_ok:∀args K,cPutT args K→∃x,PCall prog 53 args x∧K x:=by
 rintro _ K ⟨s,p,q,z,e,rfl,⟨h1,he⟩,h⟩
 have:=pcPutT s p q h1
 rw [←he] at this
 exact ⟨_,this,h⟩
def cRecB (args:List AV) (K:AV→Prop):Prop:=∃(l:List Row) (x:BlkT) (z:List Row) (n:Bool) (e:Int),args= [.d (.sl 2 (rowsR l)),bkV x]∧(2*l.length≤1000000∧(z,n,e)=recS l x.n x.s x.d)∧K (.tup [.d (.sl 2 (rowsR z)), .d (bo n), .d (i64 e)])
theorem cRecB_ok:∀args K,cRecB args K→∃x,PCall prog 49 args x∧K x:=by
 rintro _ K ⟨l,x,z,n,e,rfl,⟨h1,he⟩,h⟩
 have:=pcReceive l x.n x.s x.d (digR x.pf) h1
 rw [←he] at this
 exact ⟨_,this,h⟩
def cPageB (args:List AV) (K:AV→Prop):Prop:=∃(l:List Row) (z:List Int) (e:Bool),args= [.d (.sl 2 (rowsR l))]∧(l.length≤9223372036854775807∧(z,e)=pagesS l)∧K (.tup [.d (.sl 1 (bytesR z)), .d (bo e)])
theorem cPageB_ok:∀args K,cPageB args K→∃x,PCall prog 52 args x∧K x:=by
 rintro _ K ⟨l,z,e,rfl,⟨h1,he⟩,h⟩
 have:=pcPage l h1
 rw [←he] at this
 exact ⟨_,this,h⟩
def TRc:List (Nat×(List AV→(AV→Prop)→Prop)):= [(49,cRecB),(51,cClone50),(52,cPageB),(53,cPutT)]
theorem TRc_ok:CallsOk prog TRc:=Zag cRecB_ok (Zag cClone50_ok (Zag cPageB_ok (Zag cPutT_ok Zaj)))
def SRc:List (Nat×(List AV→List Blk→(AV→List Blk→Prop)→Prop)):= [(47,sCopied),(48,lendC cRefused),(50,sAnew)]
theorem SRc_ok:SCallsOk prog SRc:=Zcc sCopied_ok (Zcc (lendC_ok cRefused_ok) (Zcc sAnew_ok Zaf))
abbrev Qz11 (v0:StT) (v1:List Row) (v2:List (List Dv)):List AV:= [Zae (i64 (Zbm (StT.no v0))),Zae (i64 (Zbv (StT.no v0))),Zae (u64 (Zca (StT.no v0))),Zae (i64 (Zbz (StT.no v0))),Zae (Zal 1 (partsR (StT.ps v0))),Zae (Zal 1 (proofsR (StT.qs v0))),Zae (Zal 2 (rowsR v1)),Zae (Zal 1 v2),Zae (i64 (TrT.iv (StT.tr v0))),Zae (i64 (TrT.bg (StT.tr v0))),Zae (i64 (TrT.fi (StT.tr v0))),Zae (i64 (TrT.ct (StT.tr v0))),Zae (i64 (TrT.sd (StT.tr v0)))]
theorem sreceive_nf (s:StT) (x:BlkT):wpFn prog ⟨TRc,SRc,wl,y,false⟩ 100 f15 [stV s,bkV x] b R=(∃(s0:StT), [stV s]= [stV s0]∧(smallS s0)∧∃(s1:StT) (x2:BlkT) (z3:Int), [Zcq (stD s0),bkV x]= [Zcq (stD s1),bkV x2]∧(((smallS s1)∧Zac (BlkT.pf x2)≤1000000)∧z3=refusedS s1 x2)∧BIf (z3 !=(0:Int)) (R (.tup [stV s0,Zae (i64 z3)]) b) (∃(l4:List Row) (x5:BlkT) (z6:List Row) (n7:Bool) (e8:Int), [Zae (Zal 2 (rowsR (StT.rows s0))),bkV x]= [Zae (Zal 2 (rowsR l4)),bkV x5]∧(2*Zac l4≤1000000∧(z6,n7,e8)=recS l4 (BlkT.n x5) (BlkT.s x5) (BlkT.d x5))∧BIf (e8 !=(0:Int)) (∃(s9:StT) (e10:Int), [Zbf 5 0,Zae (i64 e8)]= [Zbf 5 0,Zae (i64 e10)]∧stB s0=stB s9∧R (.tup [Zbl (Qz4 s9),Zae (i64 e10)]) b) (∃(xs11:List (List Dv)), [Zae (Zal 1 (digR (BlkT.pf x)))]= [Zae (Zal 1 xs11)]∧Zac xs11≤1000000∧∃(l12:List Row) (z13:List Int) (e14:Bool), [Zae (Zal 2 (rowsR z6))]= [Zae (Zal 2 (rowsR l12))]∧(Zac l12≤9223372036854775807∧(z13,e14)=pagesS l12)∧BIf (!e14) (R (.tup [Zbl (Qz11 s0 z6 xs11),Zae (i64 0)]) b) (∃(s15:StT) (p16:List Int) (q17:List Int) (z18:StT) (e19:Int), [Zbl (Qz11 s0 z6 xs11),Zae (Zal 1 (bytesR z13)),Zae (Zal 1 (digR (BlkT.pf x)))]= [stV s15,Zae (Zal 1 (bytesR p16)),Zae (Zal 1 (digR q17))]∧((Zac (StT.ps s15)≤9223372036854775807∧Zac q17≤1000000∧∀(x:List Int),x∈StT.qs s15→Zac x≤1000000)∧(z18,e19)=putT s15 p16 q17)∧BIf (e19 !=(0:Int)) (∃(s20:StT) (e21:Int), [Zbf 5 0,Zae (i64 12)]= [Zbf 5 0,Zae (i64 e21)]∧Blk.mk (Qz11 s0 z6 xs11) false false 0=stB s20∧R (.tup [Zbl (Qz4 s20),Zae (i64 e21)]) b) (R (.tup [stV z18,Zae (i64 0)]) b))))):=by kernel_rfl
set_option maxHeartbeats 1000000
def nextSt (s:StT) (x:BlkT):StT:=⟨s.no,s.ps,s.qs,(recS s.rows x.n x.s x.d).1,x.pf,s.tr⟩
def recvT (s:StT) (x:BlkT):StT×Int:=
 if refusedS s x≠0 then (s,refusedS s x) else if (recS s.rows x.n x.s x.d).2.2≠0 then (anewS s,(recS s.rows x.n x.s x.d).2.2)
 else if (pagesS (recS s.rows x.n x.s x.d).1).2=false then (nextSt s x,0)
 else if (putT (nextSt s x) (pagesS (recS s.rows x.n x.s x.d).1).1 x.pf).2≠0 then (anewS s,12) else ((putT (nextSt s x) (pagesS (recS s.rows x.n x.s x.d).1).1 x.pf).1,0)
theorem anLe (s:StT) (e:Int):LeV (.tup [.agg (anL s), .d (i64 e)]) (.tup [stV (anewS s), .d (i64 e)]):=
 LeV.tups (.cons (LeV.aggs (.cons .rfl (.cons .rfl (.cons .rfl (.cons .rfl (.cons .rfl (.cons .rfl (.cons (.nil rfl) (.cons (.nil rfl) (LeVs.refl _)))))))))) (.cons .rfl .nil))
theorem pcSReceive (s:StT) (x:BlkT) (hs:smallS s) (hx:x.pf.length≤1000000):PCall prog 15 [stV s,bkV x] (.tup [stV (recvT s x).1, .d (i64 (recvT s x).2)]):=by
 refine PCall.ofFnV (n:=100) (u:=false) (fun _=>wlNo _) mixed TRc_ok SRc_ok (fun Ev=>wlNo_ok Ev) func15 (by rfl) (by rfl) fun Ev bb=> ?_
 rw [sreceive_nf]
 have hl:=hs.2.2.1.1
 refine ⟨s,rfl,hs,s,x,_,rfl,⟨⟨hs,hx⟩,rfl⟩,Zar (fun h=> ?_) fun g1=> ?_⟩
 · rw [recvT,if_pos (by simpa using h)];exact .rfl
 have g1:refusedS s x=0:=by simpa using g1
 refine ⟨s.rows,x,(recS s.rows x.n x.s x.d).1,(recS s.rows x.n x.s x.d).2.1,(recS s.rows x.n x.s x.d).2.2,rfl,⟨by omega,rfl⟩,Zar (fun h=> ?_) fun g2=> ?_⟩
 · refine ⟨s,_,rfl,rfl, ?_⟩
   rw [recvT,if_neg (by rw [g1];simp),if_pos (by simpa using h)]
   exact anLe s _
 have g2:(recS s.rows x.n x.s x.d).2.2=0:=by simpa using g2
 have hr:=rec_len s.rows x.n x.s x.d
 refine ⟨_,rfl,by rw [digR_len];exact hx,(recS s.rows x.n x.s x.d).1,(pagesS (recS s.rows x.n x.s x.d).1).1,(pagesS (recS s.rows x.n x.s x.d).1).2,rfl,⟨by omega,rfl⟩,Zar (fun h=> ?_) fun g3=> ?_⟩
 · rw [recvT,if_neg (by rw [g1];simp),if_neg (by rw [g2];simp),if_pos (nbt h)]
   exact .rfl
 have g3:=nbf g3
 refine ⟨nextSt s x,_,x.pf,(putT (nextSt s x) (pagesS (recS s.rows x.n x.s x.d).1).1 x.pf).1,(putT (nextSt s x) (pagesS (recS s.rows x.n x.s x.d).1).1 x.pf).2,rfl,⟨⟨by have:=hs.1.1;show s.ps.length≤_;omega,hx,hs.2.1.2⟩,rfl⟩,Zar (fun h=> ?_) fun g4=> ?_⟩
 · refine ⟨nextSt s x,_,rfl,rfl, ?_⟩
   rw [recvT,if_neg (by rw [g1];simp),if_neg (by rw [g2];simp),if_neg (by rw [g3];simp),if_pos (by simpa using h)]
   exact anLe (nextSt s x) 12
 · rw [recvT,if_neg (by rw [g1];simp),if_neg (by rw [g2];simp),if_neg (by rw [g3];simp),if_neg (by simpa using g4)]
   exact .rfl
def cSReceive (args:List AV) (K:AV→Prop):Prop:=∃(s:StT) (x:BlkT) (z:StT) (e:Int),args= [stV s,bkV x]∧((smallS s∧x.pf.length≤1000000)∧(z,e)=recvT s x)∧K (.tup [stV z, .d (i64 e)])
theorem cSReceive_ok:∀args K,cSReceive args K→∃x,PCall prog 15 args x∧K x:=by
 rintro _ K ⟨s,x,z,e,rfl,⟨⟨h1,h2⟩,he⟩,h⟩
 have:=pcSReceive s x h1 h2
 rw [←he] at this
 exact ⟨_,this,h⟩
def noV (n:NotT):AV:= .agg (noL n)
def cAnnN (args:List AV) (K:AV→Prop):Prop:=∃(n:NotT) (z:Bool),args= [noV n]∧z=announcedS n.v n.n n.t∧K (.d (bo z))
theorem cAnnN_ok:∀args K,cAnnN args K→∃x,PCall prog 70 args x∧K x:=by
 rintro _ K ⟨n,_,rfl,rfl,h⟩;exact ⟨_,pcSAnn n.v n.n n.r n.t,h⟩
def cCntN (args:List AV) (K:AV→Prop):Prop:=∃(n:NotT) (z:Int),args= [noV n]∧z=countS n.n∧K (.d (i64 z))
theorem cCntN_ok:∀args K,cCntN args K→∃x,PCall prog 71 args x∧K x:=by
 rintro _ K ⟨n,_,rfl,rfl,h⟩;exact ⟨_,pcSCount n.v n.n n.r n.t,h⟩
def THr:List (Nat×(List AV→(AV→Prop)→Prop)):= [(70,cAnnN),(71,cCntN),(72,cTNew),(73,cTReset),(74,cTHear)]
theorem THr_ok:CallsOk prog THr:=Zag cAnnN_ok (Zag cCntN_ok (Zag cTNew_ok (Zag cTReset_ok (Zag cTHear_ok Zaj))))
def SHr:List (Nat×(List AV→List Blk→(AV→List Blk→Prop)→Prop)):= [(47,sCopied),(61,lendC cSValid)]
theorem SHr_ok:SCallsOk prog SHr:=Zcc sCopied_ok (Zcc (lendC_ok cSValid_ok) Zaf)
abbrev Qz2 (v0:StT) (v1:TrT):List AV:= [Zae (i64 (Zbm (StT.no v0))),Zae (i64 (Zbv (StT.no v0))),Zae (u64 (Zca (StT.no v0))),Zae (i64 (Zbz (StT.no v0))),Zae (Zal 1 (partsR (StT.ps v0))),Zae (Zal 1 (proofsR (StT.qs v0))),Zae (Zal 2 (rowsR (StT.rows v0))),Zae (Zal 1 (digR (StT.pf v0))),Zae (i64 (TrT.iv v1)),Zae (i64 (TrT.bg v1)),Zae (i64 (TrT.fi v1)),Zae (i64 (TrT.ct v1)),Zae (i64 (TrT.sd v1))]
abbrev Qz9 (v0:NotT) (v1:TrT):List AV:= [Zae (i64 (Zbm v0)),Zae (i64 (Zbv v0)),Zae (u64 (Zca v0)),Zae (i64 (Zbz v0)),Zae (Dv.s (.slice none 0 0)),Zae (Dv.s (.slice none 0 0)),Zae (Dv.s (.slice none 0 0)),Zae (Dv.s (.slice none 0 0)),Zae (i64 (TrT.iv v1)),Zae (i64 (TrT.bg v1)),Zae (i64 (TrT.fi v1)),Zae (i64 (TrT.ct v1)),Zae (i64 (TrT.sd v1))]
abbrev Qz24 (v0:StT) (v1:Int):List AV:= [Zbl (trL (StT.tr v0)),Zae (i64 v1)]
abbrev Qz33 (v0:StT) (v1:Int):List AV:= [Zae (i64 (TrT.sd (StT.tr v0))),Zae (i64 v1)]
theorem shear_nf (s:StT) (n:NotT) (p f:Int):wpFn prog ⟨THr,SHr,wl,y,false⟩ 100 f21 [stV s,noV n, .d (i64 p), .d (i64 f)] b R=(∃(s0:StT), [stV s]= [stV s0]∧(smallS s0)∧∃(s1:StT) (z2:Bool), [Zcq (stD s0)]= [Zcq (stD s1)]∧((smallS s1)∧z2=validP s1)∧BIf (!z2) (R (stV s0) b) (BIf (!(Zbm n==(0:Int)&&(Zbv n==(0:Int)&&(Zca n==(0:Int)&&(Zbz n==(0:Int)&&true))))) (∃(n3:NotT) (z4:Bool), [noV n]= [noV n3]∧z4=announcedS (Zbm n3) (Zbv n3) (Zbz n3)∧BIf (!z4) (R (stV s0) b) (BIf (decide (p<(0:Int))) (R (stV s0) b) (∃(n5:NotT) (z6:Int), [noV n]= [noV n5]∧z6=countS (Zbv n5)∧BIf (decide (p>z6)) (R (stV s0) b) (BIf (decide (f<(0:Int))) (R (stV s0) b) (BIf (decide (f>(999999984:Int))) (R (stV s0) b) (BIf (!(Zbm n==(0:Int)&&(Zbv n==(0:Int)&&(Zca n==(0:Int)&&(Zbz n==(0:Int)&&true))))) (BIf (decide (Zbm n>Zbm (StT.no s0))) (∃(s7:Int) (f8:Int) (z9:TrT) (e10:Int),(Qz33 s0 f)= [Zae (i64 s7),Zae (i64 f8)]∧(z9,e10)=newT s7 f8∧R (.agg (Qz9 n z9)) b) (BIf (decide (Zbm n<Zbm (StT.no s0))) (∃(t11:TrT) (f12:Int) (z13:TrT),(Qz24 s0 f)= [trV t11,Zae (i64 f12)]∧z13=resetT t11 f12∧R (.agg (Qz2 s0 z13)) b) (BIf (Zbm n==Zbm (StT.no s0)&&(Zbv n==Zbv (StT.no s0)&&(Zca n==Zca (StT.no s0)&&(Zbz n==Zbz (StT.no s0)&&true)))) (BIf (p !=((Zac (partsR (StT.ps s0)):Nat):Int)) (∃(t14:TrT) (f15:Int) (z16:TrT),(Qz24 s0 f)= [trV t14,Zae (i64 f15)]∧z16=resetT t14 f15∧R (.agg (Qz2 s0 z16)) b) (BIf (Zbm n==Zbm (StT.no s0)&&(Zbv n==Zbv (StT.no s0)&&(Zca n==Zca (StT.no s0)&&(Zbz n==Zbz (StT.no s0)&&true)))) (∃(t17:TrT) (z18:TrT), [Zbl (trL (StT.tr s0))]= [trV t17]∧z18=hearT t17∧R (.agg (Qz2 s0 z18)) b) (R (stV s0) b))) (BIf (Zbm n==Zbm (StT.no s0)&&(Zbv n==Zbv (StT.no s0)&&(Zca n==Zca (StT.no s0)&&(Zbz n==Zbz (StT.no s0)&&true)))) (∃(t19:TrT) (z20:TrT), [Zbl (trL (StT.tr s0))]= [trV t19]∧z20=hearT t19∧R (.agg (Qz2 s0 z20)) b) (R (stV s0) b))))) (BIf (decide (Zbm n>Zbm (StT.no s0))) (∃(s21:Int) (f22:Int) (z23:TrT) (e24:Int),(Qz33 s0 f)= [Zae (i64 s21),Zae (i64 f22)]∧(z23,e24)=newT s21 f22∧R (.agg (Qz9 n z23)) b) (BIf (decide (Zbm n<Zbm (StT.no s0))) (∃(t25:TrT) (f26:Int) (z27:TrT),(Qz24 s0 f)= [trV t25,Zae (i64 f26)]∧z27=resetT t25 f26∧R (.agg (Qz2 s0 z27)) b) (R (stV s0) b))))))))) (BIf (decide (p<(0:Int))) (R (stV s0) b) (∃(n28:NotT) (z29:Int), [noV n]= [noV n28]∧z29=countS (Zbv n28)∧BIf (decide (p>z29)) (R (stV s0) b) (BIf (decide (f<(0:Int))) (R (stV s0) b) (BIf (decide (f>(999999984:Int))) (R (stV s0) b) (BIf (!(Zbm n==(0:Int)&&(Zbv n==(0:Int)&&(Zca n==(0:Int)&&(Zbz n==(0:Int)&&true))))) (BIf (decide (Zbm n>Zbm (StT.no s0))) (∃(s30:Int) (f31:Int) (z32:TrT) (e33:Int),(Qz33 s0 f)= [Zae (i64 s30),Zae (i64 f31)]∧(z32,e33)=newT s30 f31∧R (.agg (Qz9 n z32)) b) (BIf (decide (Zbm n<Zbm (StT.no s0))) (∃(t34:TrT) (f35:Int) (z36:TrT),(Qz24 s0 f)= [trV t34,Zae (i64 f35)]∧z36=resetT t34 f35∧R (.agg (Qz2 s0 z36)) b) (BIf (Zbm n==Zbm (StT.no s0)&&(Zbv n==Zbv (StT.no s0)&&(Zca n==Zca (StT.no s0)&&(Zbz n==Zbz (StT.no s0)&&true)))) (BIf (p !=((Zac (partsR (StT.ps s0)):Nat):Int)) (∃(t37:TrT) (f38:Int) (z39:TrT),(Qz24 s0 f)= [trV t37,Zae (i64 f38)]∧z39=resetT t37 f38∧R (.agg (Qz2 s0 z39)) b) (BIf (Zbm n==Zbm (StT.no s0)&&(Zbv n==Zbv (StT.no s0)&&(Zca n==Zca (StT.no s0)&&(Zbz n==Zbz (StT.no s0)&&true)))) (∃(t40:TrT) (z41:TrT), [Zbl (trL (StT.tr s0))]= [trV t40]∧z41=hearT t40∧R (.agg (Qz2 s0 z41)) b) (R (stV s0) b))) (BIf (Zbm n==Zbm (StT.no s0)&&(Zbv n==Zbv (StT.no s0)&&(Zca n==Zca (StT.no s0)&&(Zbz n==Zbz (StT.no s0)&&true)))) (∃(t42:TrT) (z43:TrT), [Zbl (trL (StT.tr s0))]= [trV t42]∧z43=hearT t42∧R (.agg (Qz2 s0 z43)) b) (R (stV s0) b))))) (BIf (decide (Zbm n>Zbm (StT.no s0))) (∃(s44:Int) (f45:Int) (z46:TrT) (e47:Int),(Qz33 s0 f)= [Zae (i64 s44),Zae (i64 f45)]∧(z46,e47)=newT s44 f45∧R (.agg (Qz9 n z46)) b) (BIf (decide (Zbm n<Zbm (StT.no s0))) (∃(t48:TrT) (f49:Int) (z50:TrT),(Qz24 s0 f)= [trV t48,Zae (i64 f49)]∧z50=resetT t48 f49∧R (.agg (Qz2 s0 z50)) b) (R (stV s0) b)))))))))):=by kernel_rfl
def eqN (a c:NotT):Bool:=a.v==c.v&&(a.n==c.n&&(a.r==c.r&&a.t==c.t))
theorem eqN_iff {a c:NotT}:eqN a c=true↔a=c:=by
 obtain ⟨a1,a2,a3,a4⟩:=a
 obtain ⟨c1,c2,c3,c4⟩:=c
 simp [eqN]
def okHear (s:StT) (n:NotT) (p f:Int):Bool:=validP s&&(zeroN n||announcedS n.v n.n n.t)&&decide (0≤p)&&decide (p≤countS n.n)&&frameS f
def withTr (s:StT) (t:TrT):StT:=⟨s.no,s.ps,s.qs,s.rows,s.pf,t⟩
def hearS (s:StT) (n:NotT) (p f:Int):StT:=
 if okHear s n p f=false then s else if n.v>s.no.v then ⟨n, [], [], [], [],(newT s.tr.sd f).1⟩
 else if n.v<s.no.v then withTr s (resetT s.tr f) else if (!zeroN n&&eqN n s.no)=true then (if p≠s.ps.length then withTr s (resetT s.tr f) else withTr s (hearT s.tr)) else s
theorem pcSHear (s:StT) (n:NotT) (p f:Int) (hs:smallS s):PCall prog 21 [stV s,noV n, .d (i64 p), .d (i64 f)] (stV (hearS s n p f)):=by
 refine PCall.ofFnV (n:=100) (u:=false) (fun _=>wlNo _) mixed THr_ok SHr_ok (fun Ev=>wlNo_ok Ev) func21 (by rfl) (by rfl) fun Ev bb=> ?_
 rw [shear_nf]
 refine ⟨s,rfl,hs,s,_,rfl,⟨hs,rfl⟩, ?_⟩
 have hz:(Zbm n==(0:Int)&&(Zbv n==(0:Int)&&(Zca n==(0:Int)&&(Zbz n==(0:Int)&&true))))=zeroN n:=by simp only [zeroN,Bool.and_true]
 have he:(Zbm n==Zbm (StT.no s)&&(Zbv n==Zbv (StT.no s)&&(Zca n==Zca (StT.no s)&&(Zbz n==Zbz (StT.no s)&&true))))=eqN n s.no:=by simp only [eqN,Bool.and_true]
 rw [hz,he,partsR_len]
 have bad:okHear s n p f=false→LeV (stV s) (stV (hearS s n p f)):=fun h=>by rw [hearS,if_pos h];exact .rfl
 have bV:(!validP s)=true→LeV (stV s) (stV (hearS s n p f)):=fun h=>bad (by rw [okHear,nbt h];rfl)
 have bP:decide (p<0)=true→LeV (stV s) (stV (hearS s n p f)):=fun h=>bad (by rw [okHear,decide_eq_false (p:=0≤p) (by have:=of_decide_eq_true h;omega)];simp)
 have bC:decide (p>countS n.n)=true→LeV (stV s) (stV (hearS s n p f)):=fun h=>bad (by rw [okHear,decide_eq_false (p:=p≤countS n.n) (by have:=of_decide_eq_true h;omega)];simp)
 have bF0:decide (f<0)=true→LeV (stV s) (stV (hearS s n p f)):=fun h=>bad (by rw [okHear,show frameS f=false from Bool.eq_false_iff.2 fun h'=>by have:=inS_iff.1 h';have:=of_decide_eq_true h;omega];simp)
 have bF1:decide (f>999999984)=true→LeV (stV s) (stV (hearS s n p f)):=fun h=>bad (by rw [okHear,show frameS f=false from Bool.eq_false_iff.2 fun h'=>by have:=inS_iff.1 h';have:=of_decide_eq_true h;omega];simp)
 have good:(!validP s)=false→(zeroN n||announcedS n.v n.n n.t)=true→decide (p<0)=false→decide (p>countS n.n)=false→decide (f<0)=false→decide (f>999999984)=false→¬okHear s n p f=false:=by
   intro h1 h2 h3 h4 h5 h6
   have h3:=of_decide_eq_false h3
   have h4:=of_decide_eq_false h4
   have h5:=of_decide_eq_false h5
   have h6:=of_decide_eq_false h6
   rw [okHear,nbf h1,h2,decide_eq_true (p:=0≤p) (by omega),decide_eq_true (p:=p≤countS n.n) (by omega),show frameS f=true from inS_iff.2 (by omega)]
   decide
 have newer:¬okHear s n p f=false→decide (n.v>s.no.v)=true→LeV (Zbl [Zae (i64 n.v),Zae (i64 n.n),Zae (u64 n.r),Zae (i64 n.t),Zae (Dv.s (Zbn none 0 0)),Zae (Dv.s (Zbn none 0 0)),Zae (Dv.s (Zbn none 0 0)),Zae (Dv.s (Zbn none 0 0)),Zae (i64 (newT s.tr.sd f).1.iv),Zae (i64 (newT s.tr.sd f).1.bg),Zae (i64 (newT s.tr.sd f).1.fi),Zae (i64 (newT s.tr.sd f).1.ct),Zae (i64 (newT s.tr.sd f).1.sd)]) (stV (hearS s n p f)):=by
   intro h1 h2
   rw [hearS,if_neg h1,if_pos (of_decide_eq_true h2)]
   exact LeV.aggs (.cons .rfl (.cons .rfl (.cons .rfl (.cons .rfl (.cons (.nil rfl) (.cons (.nil rfl) (.cons (.nil rfl) (.cons (.nil rfl) (LeVs.refl _)))))))))
 have older:¬okHear s n p f=false→decide (n.v>s.no.v)=false→decide (n.v<s.no.v)=true→hearS s n p f=withTr s (resetT s.tr f):=by
   intro h1 h2 h3
   rw [hearS,if_neg h1,if_neg (of_decide_eq_false h2),if_pos (of_decide_eq_true h3)]
 have rest:¬okHear s n p f=false→decide (n.v>s.no.v)=false→decide (n.v<s.no.v)=false→hearS s n p f=if (!zeroN n&&eqN n s.no)=true then (if p≠s.ps.length then withTr s (resetT s.tr f) else withTr s (hearT s.tr)) else s:=by
   intro h1 h2 h3
   rw [hearS,if_neg h1,if_neg (of_decide_eq_false h2),if_neg (of_decide_eq_false h3)]
 cases hzz:zeroN n<;>cases hee:eqN n s.no<;>simp only [Bool.not_true,Bool.not_false,BIf_true,BIf_false]<;>simp only [hzz,hee] at good rest
 · refine Zar bV fun g1=>⟨n,_,rfl,rfl,Zar (fun h=>bad (by rw [okHear,hzz,nbt h];simp)) fun g2=>Zar bP fun g3=>⟨n,_,rfl,rfl,Zar bC fun g4=>Zar bF0 fun g5=>Zar bF1 fun g6=> ?_⟩⟩
   have g:=good g1 (by rw [nbf g2];rfl) g3 g4 g5 g6
   refine Zar (fun h=>⟨_,_,_,_,rfl,rfl,newer g h⟩) fun g7=>Zar (fun h=>⟨s.tr,_,_,rfl,rfl, ?_⟩) fun g8=> ?_
   · rw [older g g7 h];exact .rfl
   · rw [rest g g7 g8];exact .rfl
 · refine Zar bV fun g1=>⟨n,_,rfl,rfl,Zar (fun h=>bad (by rw [okHear,hzz,nbt h];simp)) fun g2=>Zar bP fun g3=>⟨n,_,rfl,rfl,Zar bC fun g4=>Zar bF0 fun g5=>Zar bF1 fun g6=> ?_⟩⟩
   have g:=good g1 (by rw [nbf g2];rfl) g3 g4 g5 g6
   refine Zar (fun h=>⟨_,_,_,_,rfl,rfl,newer g h⟩) fun g7=>Zar (fun h=>⟨s.tr,_,_,rfl,rfl, ?_⟩) fun g8=>Zar (fun h=>⟨s.tr,_,_,rfl,rfl, ?_⟩) fun h=>⟨s.tr,_,rfl,rfl, ?_⟩
   · rw [older g g7 h];exact .rfl
   · rw [rest g g7 g8,if_pos (c:=(!false&&true)=true) rfl,if_pos (by simpa using h)];exact .rfl
   · rw [rest g g7 g8,if_pos (c:=(!false&&true)=true) rfl,if_neg (by simpa using h)];exact .rfl
 · refine Zar bV fun g1=>Zar bP fun g3=>⟨n,_,rfl,rfl,Zar bC fun g4=>Zar bF0 fun g5=>Zar bF1 fun g6=> ?_⟩
   have g:=good g1 rfl g3 g4 g5 g6
   refine Zar (fun h=>⟨_,_,_,_,rfl,rfl,newer g h⟩) fun g7=>Zar (fun h=>⟨s.tr,_,_,rfl,rfl, ?_⟩) fun g8=> ?_
   · rw [older g g7 h];exact .rfl
   · rw [rest g g7 g8];exact .rfl
 · refine Zar bV fun g1=>Zar bP fun g3=>⟨n,_,rfl,rfl,Zar bC fun g4=>Zar bF0 fun g5=>Zar bF1 fun g6=> ?_⟩
   have g:=good g1 rfl g3 g4 g5 g6
   refine Zar (fun h=>⟨_,_,_,_,rfl,rfl,newer g h⟩) fun g7=>Zar (fun h=>⟨s.tr,_,_,rfl,rfl, ?_⟩) fun g8=> ?_
   · rw [older g g7 h];exact .rfl
   · rw [rest g g7 g8];exact .rfl
def cSHear (args:List AV) (K:AV→Prop):Prop:=∃(s:StT) (n:NotT) (p f:Int) (z:StT),args= [stV s,noV n, .d (i64 p), .d (i64 f)]∧(smallS s∧z=hearS s n p f)∧K (stV z)
theorem cSHear_ok:∀args K,cSHear args K→∃x,PCall prog 21 args x∧K x:=by
 rintro _ K ⟨s,n,p,f,_,rfl,⟨h1,rfl⟩,h⟩;exact ⟨_,pcSHear s n p f h1,h⟩
structure NearT where
 x0:Int
 x1:Int
 x2:Int
 x3:Int
 x4:Int
 x5:Int
 x6:Int
 x7:Int
 x8:Int
 x9:Int
 x10:Int
 x11:Int
 s12:List (List Dv)
 s13:List (List Dv)
 s14:List (List Dv)
 s15:List (List Dv)
 b16:Bool
 s17:List (List Dv)
 s18:List (List Dv)
 s19:List (List Dv)
 no:NotT
 pg:Int
 x25:Int
 x26:Int
 x27:Int
 s28:List (List Dv)
 s29:List (List Dv)
 b30:Bool
def nearD (x:NearT):List Dv:= [i64 x.x0,i64 x.x1,i64 x.x2,i64 x.x3,i64 x.x4,i64 x.x5,i64 x.x6,i64 x.x7,i64 x.x8,i64 x.x9,i64 x.x10,i64 x.x11, .sl 4 x.s12, .sl 5 x.s13, .sl 3 x.s14, .sl 4 x.s15,bo x.b16, .sl 8 x.s17, .sl 8 x.s18, .sl 1 x.s19,i64 x.no.v,i64 x.no.n,u64 x.no.r,i64 x.no.t,i64 x.pg,i64 x.x25,i64 x.x26,i64 x.x27, .sl 1 x.s28, .sl 1 x.s29,bo x.b30]
def nearR (l:List NearT):List (List Dv):=l.map nearD
theorem nearR_len (l:List NearT):(nearR l).length=l.length:=by simp [nearR]
def tmLk (s:StT) (near:List (List Dv)) (n i:Int):List AV:= [.yl, .rptr [.sl 31 near], .rptr [.pt (stD s)], .bad, .bad, .bad, .d (.sl 31 near), .d (i64 n), .d (i64 i)]++Zad 21 .bad
noncomputable def lpLk:Code:=sub [1,2,3] (code f137)
theorem lacking_nf (s:StT) (near:List (List Dv)):wpFn prog ⟨[], [],wl,y,false⟩ 100 f64 [.rptr (stD s), .d (.sl 31 near)] b R=(R (AV.fn (Fn.func 137) [] [Zcq [Zal 31 near],Zcq [Dv.pt (stD s)]]) b):=by kernel_rfl
theorem rLk (s:StT) (near:List (List Dv)) (n i:Int):wpc prog ⟨[], [],wl,y,false⟩ 100 lpLk (tmLk s near n i) [] b (maskK 0 [0,1,2,6,7,8] K)=(BIf (decide (i<n)) (BIf (true&&decide (0≤i)) (∃(x0:Int) (x1:Int) (x2:Int) (x3:Int) (x4:Int) (x5:Int) (x6:Int) (x7:Int) (x8:Int) (x9:Int) (x10:Int) (x11:Int) (xs12:List (List Dv)) (xs13:List (List Dv)) (xs14:List (List Dv)) (xs15:List (List Dv)) (b16:Bool) (xs17:List (List Dv)) (xs18:List (List Dv)) (xs19:List (List Dv)) (x20:Int) (x21:Int) (x22:Int) (x23:Int) (x24:Int) (x25:Int) (x26:Int) (x27:Int) (xs28:List (List Dv)) (xs29:List (List Dv)) (b30:Bool),near[Zat i]? =some [i64 x0,i64 x1,i64 x2,i64 x3,i64 x4,i64 x5,i64 x6,i64 x7,i64 x8,i64 x9,i64 x10,i64 x11,Zal 4 xs12,Zal 5 xs13,Zal 3 xs14,Zal 4 xs15,bo b16,Zal 8 xs17,Zal 8 xs18,Zal 1 xs19,i64 x20,i64 x21,u64 x22,i64 x23,i64 x24,i64 x25,i64 x26,i64 x27,Zal 1 xs28,Zal 1 xs29,bo b30]∧BIf (x20==Zbm (StT.no s)&&(x21==Zbv (StT.no s)&&(x22==Zca (StT.no s)&&(x23==Zbz (StT.no s)&&true)))) (y b [Zae (i64 x24)] fun (cont33:Bool) (b34:β)=>BIf (!cont33) (K .ret (AV.yl::Zcq [Zal 31 near]::Zcq [Dv.pt (stD s)]::bds 3 (Zae (Zal 31 near)::Zae (i64 n)::Zae (i64 i)::bds 21 [])) [] b34) (K .normal (AV.yl::Zcq [Zal 31 near]::Zcq [Dv.pt (stD s)]::bds 3 (Zae (Zal 31 near)::Zae (i64 n)::Zae (i64 (Zaa .i64 (i+1)))::bds 21 [])) [] b34)) (K .normal (AV.yl::Zcq [Zal 31 near]::Zcq [Dv.pt (stD s)]::bds 3 (Zae (Zal 31 near)::Zae (i64 n)::Zae (i64 (Zaa .i64 (i+1)))::bds 21 [])) [] b)) False) (K (Exit.exit 0) (AV.yl::Zcq [Zal 31 near]::Zcq [Dv.pt (stD s)]::bds 3 (Zae (Zal 31 near)::Zae (i64 n)::Zae (i64 i)::bds 21 [])) [] b)):=by kernel_rfl
theorem near_at {l rest:List NearT} {x:NearT} {k:Nat} (hd:l.drop k=x::rest):(nearR l)[k]? =some (nearD x):=by
 obtain ⟨h1,h2,_⟩:=drop_cons hd
 simp [nearR,h2]
def lackL (s:StT) (l:List NearT):List (List AV):=(l.filter fun x=>eqN x.no s.no).map fun x=> [.d (i64 x.pg)]
theorem wrLk {Ev:Env prog} {Q:Exit→St Ev.β→Prop} (s:StT) (l:List NearT) (hl:l.length≤1000000):∀(rest:List NearT) (k:Nat) (b:Ev.β),l.drop k=rest→
   YList Ev.Y (lackL s rest) b (fun b'=>∀i:Int,Q (.exit 0) ⟨tmLk s (nearR l) l.length i, [],b'⟩∧Q .ret ⟨tmLk s (nearR l) l.length i, [],b'⟩)→WR Ev lpLk (rest.length+1) ⟨tmLk s (nearR l) l.length k, [],b⟩ Q
 | [],k,b,hd,h=>by
   have hk:=drop_nil hd
   refine WR.ofMask [0,1,2,6,7,8] mixed (CX.Ok.of (u:=false) Zaj Zaf) (k:=100) ?_
   refine Eq.mpr (rLk _ _ _ _ s (nearR l) l.length k) ?_
   refine Zea (by simp;omega) ?_
   exact (h k).1
 | x::rest,k,b,hd,h=>by
   obtain ⟨hk,h2,hd'⟩:=drop_cons hd
   refine WR.ofMask [0,1,2,6,7,8] mixed (CX.Ok.of (u:=false) Zaj Zaf) (k:=100) ?_
   refine Eq.mpr (rLk _ _ _ _ s (nearR l) l.length k) ?_
   have e1:Zaa Zax ((k:Int)+1)=((k+1:Nat):Int):=wrapN (by omega)
   rw [e1,Zba]
   refine Zbt (by simp;omega) (Zbt (by simp) ⟨x.x0,x.x1,x.x2,x.x3,x.x4,x.x5,x.x6,x.x7,x.x8,x.x9,x.x10,x.x11,x.s12,x.s13,x.s14,x.s15,x.b16,x.s17,x.s18,x.s19,x.no.v,x.no.n,x.no.r,x.no.t,x.pg,x.x25,x.x26,x.x27,x.s28,x.s29,x.b30,near_at hd, ?_⟩)
   have he:(x.no.v==s.no.v&&(x.no.n==s.no.n&&(x.no.r==s.no.r&&(x.no.t==s.no.t&&true))))=eqN x.no s.no:=by simp only [eqN,Bool.and_true]
   rw [he]
   refine Zar (fun g=> ?_) fun g=> ?_
   · have hL:lackL s (x::rest)= [.d (i64 x.pg)]::lackL s rest:=by simp [lackL,g]
     rw [hL] at h
     refine Ev.Ymono h fun c b' h=> ?_
     cases c with
     |true=>exact Zea rfl (wrLk s l hl rest (k+1) b' hd' h)
     |false=>exact Zbt rfl (h _).2
   · have hL:lackL s (x::rest)=lackL s rest:=by simp [lackL,g]
     rw [hL] at h
     exact wrLk s l hl rest (k+1) b hd' h
def wlLk {β:Type} (Y:YieldT β):WLT β:=fun c tm hp b K=>∃(s:StT) (l:List NearT),c= .loop lpLk∧maskTm [0,1,2,6,7,8] 0 tm=tmLk s (nearR l) (nearR l).length 0∧hp= []∧l.length≤1000000∧YList Y (lackL s l) b (fun b'=>∀i:Int,K (.exit 0) (tmLk s (nearR l) l.length i) [] b'∧K .ret (tmLk s (nearR l) l.length i) [] b')
theorem wlLk_ok {Ev:Env prog} (c:Code) (tm:List AV) (hp:List Blk) (b:Ev.β) (K:Exit→List AV→List Blk→Ev.β→Prop) (h:wlLk Ev.Y c tm hp b K):W Ev c ⟨tm,hp,b⟩ (fun e s=>K e s.tm s.hp s.b):=by
 obtain ⟨s,l,rfl,htm,rfl,hl,hK⟩:=h
 rw [nearR_len] at htm
 refine W.cast (htm▸maskTm_le _ tm 0) (LeH.refl _) ?_
 exact W.rounds (wrLk (Q:=fun e s=>K e s.tm s.hp s.b) s l hl l 0 b rfl hK)
theorem lk_nf (s:StT) (near:List (List Dv)):wpc prog ⟨[], [],wlLk y,y,false⟩ 100 (code f137) (startTm f137 [.yl, .rptr [.sl 31 near], .rptr [.pt (stD s)]]) [] b (fnK prog f137 fun _ b=>Q b)=(
 ∃(s0:StT) (l1:List NearT),Zbq lpLk= .loop lpLk∧tmLk s near near.length 0=tmLk s0 (nearR l1) (nearR l1).length 0∧([]:List Blk)= []∧l1.length≤1000000∧YList y (lackL s0 l1) b fun b'=>∀_:Int,Q b'∧Q b'):=by kernel_rfl
theorem icLk (s:StT) (l:List NearT) (hl:l.length≤1000000):ICall prog 137 [.yl, .rptr [.sl 31 (nearR l)], .rptr [.pt (stD s)]] (fun Y b Q=>YList Y (lackL s l) b Q):=by
 refine ICall.ofW (c:=code f137) func137 (by rfl) (by rfl) fun Ev b Q h=> ?_
 have h1:wpc prog ⟨[], [],wlLk Ev.Y,Ev.Y,false⟩ 100 (code f137) (startTm f137 [.yl, .rptr [.sl 31 (nearR l)], .rptr [.pt (stD s)]]) [] b (fnK prog f137 fun _ b=>Q b):=by
   rw [lk_nf]
   exact ⟨s,l,rfl,rfl,rfl,hl,YList.mono (fun b h _=>⟨h,h⟩) _ _ h⟩
 refine wpc_sound mixed (CX.Ok.ofWl Zaj Zaf wlLk_ok) h1 fun e tm hp b hK=> ?_
 obtain ⟨g1,ys,g2,z,g3,g4⟩:=fnK_sound hK
 exact ⟨g1,ys,g2,g4⟩
theorem pcLacking (s:StT) (near:List (List Dv)):PCall prog 64 [.rptr (stD s), .d (.sl 31 near)] (.fn (.func 137) [] [.rptr [.sl 31 near], .rptr [.pt (stD s)]]):=by
 refine Zbi (n:=100) (u:=false) mixed Zaj Zaf func64 (by rfl) (by rfl) fun Ev bb=> ?_
 rw [lacking_nf]
def cLacking (args:List AV) (K:AV→Prop):Prop:=∃(s:StT) (near:List (List Dv)),args= [.rptr (stD s), .d (.sl 31 near)]∧K (.fn (.func 137) [] [.rptr [.sl 31 near], .rptr [.pt (stD s)]])
theorem cLacking_ok:∀args K,cLacking args K→∃x,PCall prog 64 args x∧K x:=by
 rintro _ K ⟨s,l,rfl,h⟩;exact ⟨_,pcLacking s l,h⟩
def cEncB (args:List AV) (K:AV→Prop):Prop:=∃(p:List Int) (n s:Int) (d:List Int),args= [.d (.sl 1 (bytesR p)), .d (i64 n), .d (i64 s)]∧(encOk p n s=true∧d=encS p s)∧K (.tup [.agg [.d (i64 n), .d (i64 s), .d (.sl 1 (bytesR d)),nilV], .d (i64 0)])
theorem cEncB_ok:∀args K,cEncB args K→∃x,PCall prog 34 args x∧K x:=by
 rintro _ K ⟨p,n,s,d,rfl,⟨h1,rfl⟩,h⟩
 have:=pcEncode p n s
 rw [encA,if_pos h1] at this
 exact ⟨_,this,h⟩
def TSv:List (Nat×(List AV→(AV→Prop)→Prop)):= [(63,cTTick),(64,cLacking),(34,cEncB),(51,cClone50)]
theorem TSv_ok:CallsOk prog TSv:=Zag cTTick_ok (Zag cLacking_ok (Zag cEncB_ok (Zag cClone50_ok Zaj)))
def SSv:List (Nat×(List AV→List Blk→(AV→List Blk→Prop)→Prop)):= [(47,sCopied),(61,lendC cSValid),(62,lendC cSEmpty)]
theorem SSv_ok:SCallsOk prog SSv:=Zcc sCopied_ok (Zcc (lendC_ok cSValid_ok) (Zcc (lendC_ok cSEmpty_ok) Zaf))
noncomputable def rfSv:Code:=sub [1,1,1,1,1,1,0,1,2] (code f17)
theorem rfSv_shape:rfSv= .rangeFunc (.tmp 61) #[62] (assignOf rfSv) (bodyOf rfSv):=by kernel_rfl
def tmSv (s:StT) (near:List (List Dv)) (f:Int) (e:Bool):List AV:= [.bad, .bad, .d (i64 f), .ptr 0 0, .bad, .bad, .ptr 1 0, .ptr 2 0, .d (bo false), .ptr 5 0, .ptr 6 0, .d (bo e), .ptr 7 0]++Zad 48 .bad++ [.fn (.func 137) [] [.rptr [.sl 31 near], .rptr [.pt (stD s)]]]++Zad 60 .bad
def nil0:AV:= .d (.s (.slice none 0 0))
def zB13:Blk:=⟨[.d (i64 0), .d (i64 0), .d (u64 0), .d (i64 0),nil0,nil0,nil0,nil0, .d (i64 0), .d (i64 0), .d (i64 0), .d (i64 0), .d (i64 0)],false,false,0⟩
def zB4:Blk:=⟨[.d (i64 0), .d (i64 0),nil0,nil0],false,false,0⟩
def hpSv (s:StT) (t:TrT) (p:Int):List Blk:= [stB s,zB13,zB4,stB s,outC s (.own 33 1 (partsR s.ps)) (.own 28 1 (proofsR s.qs)) (.own 71 2 (rowsR s.rows)),⟨stL (withTr s t),true,false,0⟩,trB t,⟨[.d (i64 p)],false,false,0⟩]
def minS (p x:Int):Int:=if x<p then x else p
theorem sv_round (s s1:StT) (t:TrT) (near:List (List Dv)) (f p x:Int) (e:Bool):wpcY prog ⟨TSv,SSv,wl,y,false⟩ 100 #[62] (assignOf rfSv) (bodyOf rfSv) (tmSv s1 near f e) [.d (i64 x)] (hpSv s t p) b (takeK 8 Kh)=(
 ∃z:Int,z=minS p x∧Kh .normal (hpSv s t z) b):=by kernel_rfl
def leastS (l:List Int) (p:Int):Int:=l.foldl minS p
def lackP (s:StT) (l:List NearT):List Int:=(l.filter fun x=>eqN x.no s.no).map (·.pg)
theorem lackL_eq (s:StT) (l:List NearT):lackL s l=(lackP s l).map fun p=> [.d (i64 p)]:=by simp [lackL,lackP]
theorem rangeSv {Ev:Env prog} {b:Ev.β} {Q:Exit→St Ev.β→Prop} (s s1:StT) (t:TrT) (near:List (List Dv)) (f:Int) (e:Bool):∀(l:List Int) (p:Int),
   Q .normal ⟨tmSv s1 near f e,hpSv s t (leastS l p),b⟩→
   YList (YBody Ev (tmSv s1 near f e) #[62] (assignOf rfSv) (bodyOf rfSv) 8) (l.map fun p=> [.d (i64 p)]) (hpSv s t p,b,none) (rangeQ (tmSv s1 near f e) Q)
 | [],p,h=>h
 | x::l,p,h=>by
   refine YList.step (X:=⟨TSv,SSv,wlW Ev,Ev.Y,false⟩) (k:=100) mixed (CX.Ok.of TSv_ok SSv_ok) rfl ?_
   show wpcY _ _ _ _ _ _ _ [.d (i64 _)] (hpSv _ _ _) b (takeK 8 _)
   rw [sv_round]
   exact ⟨_,rfl,rangeSv s s1 t near f e l (minS p x) h⟩
def wlSv {β:Type}:WLT β:=fun c tm hp b K=>∃(s:StT) (t:TrT) (l:List NearT) (f p:Int) (e:Bool) (z:Int),c=rfSv∧maskTm [2,3,6,7,8,9,10,11,12,61] 0 tm=tmSv (withTr s t) (nearR l) f e∧hp=hpSv s t p∧(l.length≤1000000∧z=leastS (lackP (withTr s t) l) p)∧
 K .normal (tmSv (withTr s t) (nearR l) f e) (hpSv s t z) b
theorem wlSv_ok {Ev:Env prog} (c:Code) (tm:List AV) (hp:List Blk) (b:Ev.β) (K:Exit→List AV→List Blk→Ev.β→Prop) (h:wlSv c tm hp b K):W Ev c ⟨tm,hp,b⟩ (fun e s=>K e s.tm s.hp s.b):=by
 obtain ⟨s,t,l,f,p,e,z,rfl,htm,rfl,⟨hl,rfl⟩,hK⟩:=h
 refine W.cast (htm▸maskTm_le [2,3,6,7,8,9,10,11,12,61] tm 0) (LeH.refl _) ?_
 rw [rfSv_shape]
 refine W.range (s:=⟨tmSv (withTr s t) (nearR l) f e,_,b⟩) (k:=137) (first:= []) (caps:= [.rptr [.sl 31 (nearR l)], .rptr [.pt (stD (withTr s t))]]) rfl rfl rfl (icLk (withTr s t) l hl) ?_
 rw [lackL_eq]
 exact rangeSv s (withTr s t) t (nearR l) f e _ p hK
abbrev Qz12:List AV:= [Zae (i64 0),Zae (i64 0),Zae (Dv.s (.slice none 0 0)),Zae (Dv.s (.slice none 0 0))]
abbrev Qz35 (v0:StT) (v1:TrT):List AV:= [Zbl (stL (withTr v0 v1)),Zbl Qz12,Zae (bo false)]
theorem sserve_nf (s:StT) (near:List (List Dv)) (f:Int):wpFn prog ⟨TSv,SSv,wlSv,y,false⟩ 100 f17 [stV s, .d (.sl 31 near), .d (i64 f)] b R=(∃(s0:StT), [stV s]= [stV s0]∧(smallS s0)∧∃(s1:StT) (z2:Bool), [Zcq (stD s0)]= [Zcq (stD s1)]∧((smallS s1)∧z2=validP s1)∧BIf (!z2) (R (.tup [stV s0,Zbl Qz12,Zae (bo false)]) b) (∃(s3:StT) (z4:Bool), [Zcq (stD s0)]= [Zcq (stD s3)]∧((smallS s3)∧z4=emptyS s3)∧BIf z4 (R (.tup [stV s0,Zbl Qz12,Zae (bo false)]) b) (BIf (decide (f<(0:Int))) (R (.tup [stV s0,Zbl Qz12,Zae (bo false)]) b) (BIf (decide (f>(999999984:Int))) (R (.tup [stV s0,Zbl Qz12,Zae (bo false)]) b) (∃(t5:TrT) (f6:Int) (z7:TrT) (e8:Bool),(Qz24 s0 f)= [trV t5,Zae (i64 f6)]∧(z7,e8)=tickT t5 f6∧∃(s9:StT) (near10:List (List Dv)), [Zcq [i64 (Zbm (StT.no s0)),i64 (Zbv (StT.no s0)),u64 (Zca (StT.no s0)),i64 (Zbz (StT.no s0)),Zal 1 (partsR (StT.ps s0)),Zal 1 (proofsR (StT.qs s0)),Zal 2 (rowsR (StT.rows s0)),Zal 1 (digR (StT.pf s0)),i64 (TrT.iv z7),i64 (TrT.bg z7),i64 (TrT.fi z7),i64 (TrT.ct z7),i64 (TrT.sd z7)],Zae (Zal 31 near)]= [Zcq (stD s9),Zae (Zal 31 near10)]∧∃(s11:StT) (t12:TrT) (l13:List NearT) (f14:Int) (p15:Int) (e16:Bool) (z17:Int),rfSv=rfSv∧(Zaz::Zaz::Zae (i64 f)::Zbf 0 0::Zaz::Zaz::Zbf 1 0::Zbf 2 0::Zae (bo false)::Zbf 5 0::Zbf 6 0::Zae (bo e8)::Zbf 7 0::bds 48 (AV.fn (Fn.func 137) [] [Zcq [Zal 31 near10],Zcq [Dv.pt (stD s9)]]::bds 60 []))=(Zaz::Zaz::Zae (i64 f14)::Zbf 0 0::Zaz::Zaz::Zbf 1 0::Zbf 2 0::Zae (bo false)::Zbf 5 0::Zbf 6 0::Zae (bo e16)::Zbf 7 0::bds 48 (AV.fn (Fn.func 137) [] [Zcq [Zal 31 (nearR l13)],Zcq [Dv.pt (stD (withTr s11 t12))]]::bds 60 []))∧ [stB s,Blk.mk Qz3 false false 0,Blk.mk Qz12 false false 0,stB s0,Blk.mk (Qz10 s0) false false 0,Blk.mk (Qz2 s0 z7) true false 0,Blk.mk (trL z7) false false 0,cell (i64 ((Zac (partsR (StT.ps s0)):Nat):Int))]= [stB s11,Blk.mk Qz3 false false 0,Blk.mk Qz12 false false 0,stB s11,Blk.mk (Qz10 s11) false false 0,Blk.mk (stL (withTr s11 t12)) true false 0,Blk.mk (trL t12) false false 0,cell (i64 p15)]∧(Zac l13≤1000000∧z17=leastS (lackP (withTr s11 t12) l13) p15)∧BIf (!e16) (R (.tup (Qz35 s11 t12)) b) (BIf (decide (z17<(0:Int))) (R (.tup (Qz35 s11 t12)) b) (BIf (decide (z17≥((Zac (partsR (StT.ps (withTr s11 t12))):Nat):Int))) (R (.tup (Qz35 s11 t12)) b) (BIf (true&&decide (0≤z17)) (∃(xs18:List (List Dv)),(partsR (StT.ps (withTr s11 t12)))[Zat z17]? =some [Zal 1 xs18]∧∃(p21:List Int) (n22:Int) (s23:Int) (d24:List Int), [Zae (Zal 1 xs18),Zae (i64 z17),Zae (i64 (Int.tmod (Zaa .i64 (Zaa .i64 ((64:Int)*f14)+Int.tmod (TrT.sd t12) (64:Int))) (1000000001:Int)))]= [Zae (Zal 1 (bytesR p21)),Zae (i64 n22),Zae (i64 s23)]∧(encOk p21 n22 s23=true∧d24=encS p21 s23)∧BIf (true&&decide (0≤z17)) (∃(xs25:List (List Dv)),(proofsR (StT.qs (withTr s11 t12)))[Zat z17]? =some [Zal 1 xs25]∧∃(xs28:List (List Dv)), [Zae (Zal 1 xs25)]= [Zae (Zal 1 xs28)]∧Zac xs28≤1000000∧R (.tup [Zbl (stL (withTr s11 t12)),Zbl [Zae (i64 n22),Zae (i64 s23),Zae (Zal 1 (bytesR d24)),Zae (Zal 1 xs28)],Zae (bo true)]) b) False) False)))))))):=by kernel_rfl
theorem sound_16 {s:StT} (h:soundT s=true):(s.ps.length:Int)≤countS s.no.n∧countS s.no.n≤16∧1≤countS s.no.n∧s.qs.length=s.ps.length∧(∀p∈s.ps,p.length=256)∧announcedS s.no.v s.no.n s.no.t=true:=by
 obtain ⟨f1,f2,f3,f4,f5⟩:=sound_facts h
 obtain ⟨k,hk,hk1,hk2⟩:=sized_nat f4
 have hk:s.no.n=(k:Int):=hk
 have hc:=countS_eq (n:=k) (by omega)
 have h':=h
 simp only [soundT,soundS,Zam] at h'
 have h2:(s.ps.length:Int)≤countS s.no.n:=by have:=h'.2.1;simp at this;exact this
 rw [hk,hc] at h2 ⊢
 exact ⟨h2,by omega,by omega,f2,f3,by rw [←hk];exact f5⟩
theorem valid_sound {s:StT} (h:validP s=true) (he:emptyS s=false):soundT s=true∧validS s.rows=true∧(s.rows.length:Int)<16∧(s.rows.isEmpty|| !fullP s)=true∧(!s.rows.isEmpty||s.pf.isEmpty)=true∧validT s.tr=true:=by
 rw [validP,he,Bool.false_or] at h
 simp only [Zam,decide_eq_true_eq] at h
 exact ⟨h.1,h.2.1,h.2.2.1,h.2.2.2.1,h.2.2.2.2.1,h.2.2.2.2.2⟩
theorem later_sd (t:TrT) (f:Int):(laterT t f).sd=t.sd:=by
 unfold laterT;split<;>rfl
theorem tick_sd (t:TrT) (f:Int):(tickT t f).1.sd=t.sd:=by
 unfold tickT
 split
 · exact later_sd t f
 · rfl
def zeroBk:BlkT:=⟨0,0, [], []⟩
def seedF (f sd:Int):Int:=(64*f+sd % 64) % 1000000001
def okServe (s:StT) (f:Int):Bool:=validP s&& !emptyS s&&frameS f
def serveS (s:StT) (l:List NearT) (f:Int):StT×BlkT×Bool:=
 if okServe s f=false then (s,zeroBk,false)
 else if (tickT s.tr f).2=false∨leastS (lackP s l) s.ps.length<0∨leastS (lackP s l) s.ps.length≥s.ps.length then (withTr s (tickT s.tr f).1,zeroBk,false)
 else (withTr s (tickT s.tr f).1,⟨leastS (lackP s l) s.ps.length,seedF f s.tr.sd,encS (nthL s.ps (leastS (lackP s l) s.ps.length).toNat) (seedF f s.tr.sd),nthL s.qs (leastS (lackP s l) s.ps.length).toNat⟩,true)
theorem zbLe (x:AV) (e:Bool):LeV (.tup [x,Zbl [Zae (i64 0),Zae (i64 0),Zae (Dv.s (Zbn none 0 0)),Zae (Dv.s (Zbn none 0 0))], .d (bo e)]) (.tup [x,bkV zeroBk, .d (bo e)]):=
 LeV.tups (.cons .rfl (.cons (LeV.aggs (.cons .rfl (.cons .rfl (.cons (.nil rfl) (.cons (.nil rfl) .nil))))) (.cons .rfl .nil)))
theorem pcSServe (s:StT) (l:List NearT) (f:Int) (hs:smallS s) (hl:l.length≤1000000):PCall prog 17 [stV s, .d (.sl 31 (nearR l)), .d (i64 f)] (.tup [stV (serveS s l f).1,bkV (serveS s l f).2.1, .d (bo (serveS s l f).2.2)]):=by
 refine PCall.ofFnV (n:=100) (u:=false) (fun _=>wlSv) mixed TSv_ok SSv_ok (fun Ev=>wlSv_ok) func17 (by rfl) (by rfl) fun Ev bb=> ?_
 rw [sserve_nf]
 have bad:okServe s f=false→LeV (.tup [stV s,Zbl [Zae (i64 0),Zae (i64 0),Zae (Dv.s (Zbn none 0 0)),Zae (Dv.s (Zbn none 0 0))], .d (bo false)]) (.tup [stV (serveS s l f).1,bkV (serveS s l f).2.1, .d (bo (serveS s l f).2.2)]):=fun h=>by
   rw [serveS,if_pos h];exact zbLe _ _
 refine ⟨s,rfl,hs,s,_,rfl,⟨hs,rfl⟩,Zar (fun h=>bad (by rw [okServe,nbt h];rfl)) fun g1=>⟨s,_,rfl,⟨hs,rfl⟩,Zar (fun h=>bad (by rw [okServe,h];simp)) fun g2=>Zar (fun h=>bad ?_) fun g3=>Zar (fun h=>bad ?_) fun g4=> ?_⟩⟩
 · rw [okServe,show frameS f=false from Bool.eq_false_iff.2 fun h'=>by have:=inS_iff.1 h';have:=of_decide_eq_true h;omega,Bool.and_false]
 · rw [okServe,show frameS f=false from Bool.eq_false_iff.2 fun h'=>by have:=inS_iff.1 h';have:=of_decide_eq_true h;omega,Bool.and_false]
 have g3:=of_decide_eq_false g3
 have g4:=of_decide_eq_false g4
 have hv:=nbf g1
 have hok:¬okServe s f=false:=by rw [okServe,hv,g2,show frameS f=true from inS_iff.2 (by omega)];decide
 obtain ⟨a1,a2,a3,a4,a5,a6⟩:=valid_sound hv g2
 obtain ⟨b1,b2,b3,b4,b5,b6⟩:=sound_16 a1
 have hsd:=(validT_iff.1 a6).2.2.1
 refine ⟨s.tr,f,(tickT s.tr f).1,(tickT s.tr f).2,rfl,rfl,withTr s (tickT s.tr f).1,_,rfl,s,(tickT s.tr f).1,l,f,s.ps.length,(tickT s.tr f).2,leastS (lackP s l) s.ps.length,rfl,rfl,by rw [partsR_len];rfl,⟨hl,rfl⟩,Zar (fun h=> ?_) fun g5=>Zar (fun h=> ?_) fun g6=>Zar (fun h=> ?_) fun g7=> ?_⟩
 · rw [serveS,if_neg hok,if_pos (.inl (nbt h))];exact zbLe _ _
 · rw [serveS,if_neg hok,if_pos (.inr (.inl (of_decide_eq_true h)))];exact zbLe _ _
 · rw [serveS,if_neg hok,if_pos (.inr (.inr (by have:=of_decide_eq_true h;rw [partsR_len] at this;exact this)))];exact zbLe _ _
 have g5:=nbf g5
 have g6:=of_decide_eq_false g6
 have g7:=of_decide_eq_false g7
 rw [partsR_len] at g7
 have g7:¬leastS (lackP s l) (s.ps.length:Int)≥s.ps.length:=g7
 generalize hp:leastS (lackP s l) (s.ps.length:Int)=p at g6 g7 ⊢
 have hpl:p.toNat<s.ps.length:=by omega
 have hpq:p.toNat<s.qs.length:=by omega
 have hseed:Int.tmod (Zaa Zax (Zaa Zax (64*f)+Int.tmod (tickT s.tr f).1.sd 64)) 1000000001=seedF f s.tr.sd:=by
   rw [tick_sd,Int.tmod_eq_emod_of_nonneg (a:=s.tr.sd) hsd.1,wr64 (x:=64*f) (by omega) (by omega),wr64 (by omega) (by omega),Int.tmod_eq_emod_of_nonneg (by omega)];rfl
 have hsr:0≤seedF f s.tr.sd∧seedF f s.tr.sd≤1000000000:=by unfold seedF;omega
 refine Zbt (by simp;omega) ⟨bytesR (nthL s.ps p.toNat),parts_at hpl,nthL s.ps p.toNat,p,seedF f s.tr.sd,_,by rw [hseed],⟨?_,rfl⟩,Zbt (by simp;omega) ⟨digR (nthL s.qs p.toNat),proofs_at hpq,_,rfl,by rw [digR_len];exact hs.2.1.2 _ (nthL_mem hpq), ?_⟩⟩
 · rw [encOk,b5 _ (nthL_mem hpl),seedS_iff.2 hsr,Bool.and_true]
   simp [pageS];omega
 · rw [serveS,if_neg hok,hp,if_neg (by rw [g5];simp;omega)];exact .rfl
def cSServe (args:List AV) (K:AV→Prop):Prop:=∃(s:StT) (l:List NearT) (f:Int) (z:StT) (x:BlkT) (e:Bool),args= [stV s, .d (.sl 31 (nearR l)), .d (i64 f)]∧((smallS s∧l.length≤1000000)∧(z,x,e)=serveS s l f)∧K (.tup [stV z,bkV x, .d (bo e)])
theorem cSServe_ok:∀args K,cSServe args K→∃x,PCall prog 17 args x∧K x:=by
 rintro _ K ⟨s,l,f,z,x,e,rfl,⟨⟨h1,h2⟩,he⟩,h⟩
 have:=pcSServe s l f h1 h2
 rw [←he] at this
 exact ⟨_,this,h⟩
set_option maxHeartbeats 0
set_option maxRecDepth 100000
set_option maxRecDepth 20000
def hp0:List Int:=padS (smp.take 256)
def hp1:List Int:=padS (smp.drop 256)
def hR:Int:=(rootS [hp0,hp1]).1
def hN:NotT:=⟨3,300,hR,50⟩
def hs0:SprT:=⟨hN, [], [], [], [],0,0,0,0,0⟩
def hs1:SprT:=⟨hN, [hp0], [[leafS hp1]], [], [],0,0,0,0,0⟩
def hs2:SprT:=⟨hN, [hp0,hp1], [[leafS hp1], [leafS hp0]], [], [],0,0,0,0,0⟩
def hX:Int:=Zaa IntKind.u64 ((BitVec.toNat (Zao 64 (leafS hp0) ^^^ Zao 64 (1:Int)):Nat):Int)
set_option maxRecDepth 100000
set_option maxRecDepth 20000
theorem split_flat:∀(n:Nat) (p:List Int),p.length≤n→∃z,((chunkD 256 n p).map padS).flatten=p++Zad z 0
 | 0,p,h=>by
   have:p= []:=List.length_eq_zero_iff.1 (by omega)
   subst this;exact ⟨0,rfl⟩
 | n+1,p,h=>by
   rw [chunkD]
   cases hp:p with
   |nil=>exact ⟨0,rfl⟩
   | cons a l=>
     rw [if_neg (by simp),←hp,List.map_cons,List.flatten_cons]
     have hl:1≤p.length:=by rw [hp];simp
     obtain ⟨z,hz⟩:=split_flat n (p.drop 256) (by simp;omega)
     rw [hz]
     by_cases h256:256≤p.length
     · refine ⟨z, ?_⟩
       have:padS (p.take 256)=p.take 256:=by
         have e:(p.take 256).length=256:=by simp;omega
         rw [padS,e];simp
       rw [this,←List.append_assoc,List.take_append_drop]
     · refine ⟨(256 - p.length)+z, ?_⟩
       rw [List.take_of_length_le (by omega),List.drop_of_length_le (by omega),List.nil_append,padS,List.append_assoc,List.replicate_append_replicate]
theorem all_zeros (z:Nat):(Zad z (0:Int)).all (· ==0)=true:=List.all_eq_true.2 fun x hx=>by rw [(List.mem_replicate.1 hx).2];rfl
theorem split_all {p:List Int}:anyOther (splitS p)=false:=by
 rw [anyOther,List.any_eq_false]
 intro q hq
 rw [split_pieces] at hq
 obtain ⟨i,_,rfl⟩:=Zbe.1 hq
 have:=padS_len (piece_len p i)
 simp;omega
theorem split_len (p:List Int):(splitS p).length=(p.length+255) / 256:=by rw [split_pieces];simp
theorem join_split {p:List Int} {n:Nat} (hn:sizedS (n:Int)=true) (hc:(n+255) / 256=(p.length+255) / 256):
   joinS (splitS p) n=if (p.drop n).all (· ==0) then ((p++Zad (n - p.length) 0).take n,0) else ([],12):=by
 obtain ⟨k,hk,h1,h2⟩:=sized_nat hn
 have hk:n=k:=by omega
 subst hk
 obtain ⟨z,hz⟩:=split_flat p.length p (Nat.le_refl _)
 have hz:(splitS p).flatten=p++Zad z 0:=hz
 have hg:((!sizedS (n:Int))||((((splitS p).length:Int) !=countS n)||anyOther (splitS p)))=false:=by
   rw [hn,split_all,split_len,countS_eq (by omega),hc];simp
 have hs:=sum_pages (ps:=splitS p) split_all
 rw [hz,split_len] at hs
 rw [joinS,if_neg (by rw [hg];simp),Zba,hz]
 simp only [List.length_append,List.length_replicate] at hs
 have hd:(p++Zad z 0).drop n=p.drop n++Zad (z - (n - p.length)) 0:=by
   rw [List.drop_append,List.drop_replicate]
 have hall:((p++Zad z 0).drop n).all (· ==0)=(p.drop n).all (· ==0):=by
   rw [hd,List.all_append,all_zeros,Bool.and_true]
 have ht:(p++Zad z 0).take n=(p++Zad (n - p.length) 0).take n:=by
   rw [List.take_append,List.take_append,List.take_replicate,List.take_replicate]
   congr 2;omega
 by_cases h:(p.drop n).all (· ==0)=true
 · rw [if_neg (by rw [trimS_all,hall,h];simp),if_pos h,ht]
 · rw [if_pos (by rw [trimS_all,hall];simpa using h),if_neg h]
set_option maxRecDepth 100000
set_option maxRecDepth 20000
def rootF:Nat→List Int→Int
 |0,now=>nth now 0
 |n+1,now=>if 1<now.length then rootF n (nextL now) else nth now 0
theorem last_root:∀(n:Nat) (now:List Int) (v:Int),lastS (levelsF n now) v=rootF n now
 |0,now,v=>rfl
 | n+1,now,v=>by
   rw [levelsF,rootF]
   split
   · exact last_root n (nextL now) _
   · rfl
theorem nth_cons (a:Int) (l:List Int) (i:Nat):nth (a::l) (i+1)=nth l i:=by simp [nth]
theorem next_len:∀l:List Int,(nextL l).length=(l.length+1) / 2
 | []=>rfl
 | [a]=>by simp [nextL]
 | a::c::l=>by
   have:=next_len l
   simp only [nextL,List.length_cons];omega
theorem next_nth:∀(l:List Int) (k:Nat),k<l.length→nth (nextL l) (k / 2)=if sibN k<l.length then (if k % 2=1 then pairS (nth l (sibN k)) (nth l k) else pairS (nth l k) (nth l (sibN k))) else nth l k
 | [],k,h=>by simp at h
 | [a],k,h=>by
   have:k=0:=by simp at h;omega
   subst this
   rfl
 | a::c::l,0,h=>by
   rw [show sibN 0=1 from rfl,if_pos (by simp),if_neg (by decide)];rfl
 | a::c::l,1,h=>by
   rw [show sibN 1=0 from rfl,if_pos (by simp),if_pos (by decide)];rfl
 | a::c::l,k+2,h=>by
   have ih:=next_nth l k (by simp at h;omega)
   have e1:(k+2) / 2=k / 2+1:=by omega
   have e2:sibN (k+2)=sibN k+2:=by unfold sibN;split<;>split<;>omega
   have e3:(k+2) % 2=k % 2:=by omega
   rw [e1,e2,e3,nextL,nth_cons,ih]
   have e4:nth (a::c::l) (sibN k+2)=nth l (sibN k):=by rw [show sibN k+2=(sibN k+1)+1 from rfl,nth_cons,nth_cons]
   have e5:nth (a::c::l) (k+2)=nth l k:=by rw [show k+2=(k+1)+1 from rfl,nth_cons,nth_cons]
   rw [e4,e5]
   by_cases hs:sibN k<l.length
   · rw [if_pos hs,if_pos (show sibN k+2<(a::c::l).length by simp only [List.length_cons];omega)]
   · rw [if_neg hs,if_neg (show ¬sibN k+2<(a::c::l).length by simp only [List.length_cons];omega)]
theorem check_right:∀(n w k:Nat) (now:List Int),now.length=w→k<w→w≤n+1→checkF (walkP n w k) (proofF (levelsF n now) k) (nth now k)=some ([],rootF n now)
 | 0,w,k,now,hw,hk,hn=>by
   have:k=0:=by omega
   subst this
   rw [walkP,levelsF,proofF,show sibN 0=1 from rfl,if_neg (by omega),proofF];rfl
 | n+1,w,k,now,hw,hk,hn=>by
   rw [walkP,levelsF,rootF,hw]
   by_cases h1:1<w
   · rw [if_pos h1,if_pos h1,if_pos h1,proofF,hw]
     have hnx:=next_nth now k (by omega)
     have hln:=next_len now
     have ih:=check_right n ((w+1) / 2) (k / 2) (nextL now) (by rw [hln,hw]) (by omega) (by omega)
     rw [hw] at hnx
     by_cases hs:sibN k<w
     · rw [if_pos hs] at hnx ⊢
       rw [decide_eq_true hs,List.singleton_append]
       by_cases hodd:k % 2=1
       · rw [if_pos hodd] at hnx
         rw [show (k % 2==1)=true by simp [hodd],checkF_t,←hnx];exact ih
       · rw [if_neg hodd] at hnx
         rw [show (k % 2==1)=false by simp;omega,checkF_g,←hnx];exact ih
     · rw [if_neg hs] at hnx ⊢
       rw [decide_eq_false hs,List.nil_append,checkF_f,←hnx];exact ih
   · rw [if_neg h1,if_neg h1,if_neg h1,proofF,proofF,List.append_nil]
     have:k=0:=by omega
     subst this
     rw [hw,show sibN 0=1 from rfl,if_neg (by omega)];rfl
theorem map_nth {l:List (List Int)} {i:Nat} (h:i<l.length):nth (l.map leafS) i=leafS (nthL l i):=by simp [nth,nthL,h]
theorem check_page {ps:List (List Int)} (h:areS ps=true) {i:Nat} (hi:i<ps.length):checkF (walkS ps.length i) (proofF (levelsS ps) i) (leafS (nthL ps i))=some ([],(rootS ps).1):=by
 rw [rootS,if_pos h,levelsS,last_root,walkS,List.length_map,←map_nth hi]
 exact check_right ps.length ps.length i (ps.map leafS) (by simp) hi (by omega)
theorem check_form {r:Int} {w i:Nat} {p q:List Int} (h1:1≤w) (h2:w≤16) (h3:i<w) (h4:p.length≤256):checkS r w i p q=topS r (checkF (walkS w i) q (leafS p)):=by
 rw [checkS,Zba,Zba,decide_eq_false (by omega),decide_eq_false (by omega),decide_eq_false (by omega),decide_eq_false (by omega),decide_eq_false (by omega)];rfl
theorem page_len {ps:List (List Int)} {i:Nat} (h:areS ps=true) (hi:i<ps.length):(proofF (levelsS ps) i).length≤16:=by
 have hl:ps.length≤16:=(areS_ok h).1
 have hF:=checkF_len ps.length ps.length i (proofF (levelsS ps) i) (leafS (nthL ps i))
 have hc:=check_page h hi
 rw [walkS] at hc
 have:=lenW_le ps.length ps.length i
 rcases Nat.lt_or_ge (proofF (levelsS ps) i).length (lenW ps.length ps.length i) with h1|h1
 · omega
 · obtain ⟨z,hz⟩:=hF.2 h1
   rw [hz] at hc
   simp only [Option.some.injEq,Prod.mk.injEq,List.drop_eq_nil_iff] at hc
   omega
def IsB (x:Int):Prop:=0≤x∧x<256
theorem split_range {p:List Int} (h:∀x∈p,IsB x):∀q∈splitS p,∀x∈q,IsB x:=by
 intro q hq x hx
 rw [split_pieces] at hq
 obtain ⟨i,_,rfl⟩:=Zbe.1 hq
 rw [padS] at hx
 rcases List.mem_append.1 hx with hx|hx
 · exact h x (List.mem_of_mem_drop (List.mem_of_mem_take hx))
 · rw [(List.mem_replicate.1 hx).2];exact ⟨by decide,by decide⟩
section
set_option maxRecDepth 100000
end
set_option maxRecDepth 20000
section
set_option maxRecDepth 100000
end
set_option maxRecDepth 20000
theorem allP_no (s z:SprT) (h:z.no=s.no):∀(ps qs:List (List Int)) (k:Nat),allP z k ps qs=allP s k ps qs
 | [],qs,k=>by rw [allP,allP]<;>(intros;simp_all)
 |p::ps, [],k=>by rw [allP,allP]<;>(intros;simp_all)
 |p::ps,q::qs,k=>by rw [allP,allP,allP_no s z h ps qs,provedS,provedS,h]
theorem allP_app (s:SprT) (p q:List Int):∀(ps qs:List (List Int)) (k:Nat),ps.length=qs.length→allP s k (ps++ [p]) (qs++ [q])=(allP s k ps qs&&provedS s ((k+ps.length:Nat):Int) p q)
 | [], [],k,h=>by
   show (provedS s k p q&&allP s (k+1) [] [])=_
   rw [show allP s (k+1) [] []=true from rfl,show allP s k [] []=true from rfl,Bool.and_true,Bool.true_and];rfl
 | [],q::qs,k,h=>by simp at h
 |p::ps, [],k,h=>by simp at h
 | a::ps,c::qs,k,h=>by
   show (provedS s k a c&&allP s (k+1) (ps++ [p]) (qs++ [q]))=((provedS s k a c&&allP s (k+1) ps qs)&&_)
   rw [allP_app s p q ps qs (k+1) (by simpa using h),Bool.and_assoc]
   congr 3
   rw [List.length_cons];congr 1;omega
theorem sound_put {s:SprT} {p q:List Int} (h:soundS s=true) (hp:p.length=256) (hc:(s.ps.length:Int)≠countS s.no.n) (hq:provedS s s.ps.length p q=true) (z:SprT) (hn:z.no=s.no) (h1:z.ps=s.ps++ [p]) (h2:z.qs=s.qs++ [q]):soundS z=true:=by
 obtain ⟨f1,f2,f3,f4,f5⟩:=sound_facts h
 simp only [soundS,Zam] at h
 obtain ⟨g1,g2,g3,g4,g5⟩:=h
 have g2:¬((s.ps.length:Int)>countS s.no.n):=by simpa using g2
 have g4:anyOther s.ps=false:=by simpa using g4
 have a1:anyOther (s.ps++ [p])=false:=by
   rw [anyOther] at g4 ⊢
   rw [List.any_append,g4]
   simp [hp]
 have a2:allP z 0 (s.ps++ [p]) (s.qs++ [q])=true:=by
   rw [allP_no s z hn,allP_app s p q _ _ _ f2.symm,g5,Nat.zero_add,hq];rfl
 rw [soundS,hn,h1,h2,g1,a1,a2]
 simp [f2];omega
section
set_option maxRecDepth 100000
end
set_option maxRecDepth 20000
structure Lays (no:NotT) (ps:List (List Int)):Prop where
 are:areS ps=true
 two:∀p∈ps,p.length=256
 ann:announcedS no.v no.n no.t=true
 cnt:countS no.n=ps.length
 rt:no.r=(rootS ps).1
def proofL (ps:List (List Int)) (i:Nat):List Int:=proofF (levelsS ps) i
def layS (no:NotT) (ps:List (List Int)) (k:Nat):SprT:=⟨no,ps.take k,(Zbd k).map (proofL ps), [], [],0,0,0,0,0⟩
theorem lay_len {no:NotT} {ps:List (List Int)} {k:Nat} (hk:k≤ps.length):(layS no ps k).ps.length=k:=by simp [layS];omega
theorem lay_at {ps:List (List Int)} {i:Nat} (h:i<ps.length):ps.take (i+1)=ps.take i++ [nthL ps i]:=by
 rw [nthL,List.getD_eq_getElem?_getD,List.getElem?_eq_getElem h,List.take_add_one,List.getElem?_eq_getElem h];rfl
theorem lay_proved {no:NotT} {ps:List (List Int)} (h:Lays no ps) {k i:Nat} (hi:i<ps.length):provedS (layS no ps k) i (nthL ps i) (proofL ps i)=true:=by
 obtain ⟨a1,a2,a3⟩:=areS_ok h.are
 show checkS no.r (countS no.n) i _ _=true
 rw [h.cnt,check_form (by omega) a1 hi (a3 _ (nthL_mem hi)),proofL,check_page h.are hi,h.rt]
 simp [topS]
theorem lay_qs {no:NotT} {ps:List (List Int)} (h:Lays no ps) {k:Nat} (hk:k≤ps.length):∀x∈(layS no ps k).qs,x.length≤1000000:=by
 intro x hx
 simp only [layS,Zbe,List.mem_range] at hx
 obtain ⟨i,hi,rfl⟩:=hx
 have:=page_len (i:=i) h.are (by omega)
 rw [proofL];omega
theorem lay_sound {no:NotT} {ps:List (List Int)} (h:Lays no ps):∀k:Nat,k≤ps.length→soundS (layS no ps k)=true
 | 0,_=>by
   have e:layS no ps 0=⟨no, [], [], [], [],0,0,0,0,0⟩:=by simp [layS]
   obtain ⟨a1,a2,a3⟩:=areS_ok h.are
   rw [e,soundS,h.ann,h.cnt]
   simp [anyOther,allP]
 | k+1,hk=>by
   refine sound_put (s:=layS no ps k) (p:=nthL ps k) (q:=proofL ps k) (lay_sound h k (by omega)) (h.two _ (nthL_mem (by omega))) ?_ (by rw [lay_len (by omega)];exact lay_proved h (by omega)) _ rfl (lay_at (by omega)) ?_
   · rw [lay_len (by omega)]
     show (k:Int)≠countS no.n
     rw [h.cnt];omega
   · show (Zbd (k+1)).map _=(Zbd k).map _++_
     rw [List.range_succ,List.map_append];rfl
theorem lay_proof {ps:List (List Int)} (h:areS ps=true) {k:Nat} (hk:k<ps.length):proofS ps k=(proofL ps k,0):=by
 rw [proofS,h,if_pos (by simp;omega),Zba];rfl
theorem lays_page {v t:Int} {p:List Int} (h:sizedS p.length=true) (ha:announcedS v p.length t=true):annS v p t=(⟨v,p.length,(rootS (splitS p)).1,t⟩,0)∧Lays ⟨v,p.length,(rootS (splitS p)).1,t⟩ (splitS p):=by
 have ar:=split_are h
 obtain ⟨k,hk,k1,k2⟩:=sized_nat h
 refine ⟨?_,ar,fun x hx=> ?_,ha, ?_,rfl⟩
 · rw [annS,if_pos (by rw [h,ha];rfl),show (rootS (splitS p)).2=0 by rw [rootS,if_pos ar]]
 · rw [split_pieces] at hx
   obtain ⟨i,_,rfl⟩:=Zbe.1 hx
   exact padS_len (piece_len p i)
 · show countS p.length=_
   rw [countS_eq (by omega),split_len]
set_option maxHeartbeats 1000000
def laySt (no:NotT) (ps:List (List Int)) (k:Nat) (l:List Row) (q:List Int) (t:TrT):StT:=⟨no,ps.take k,(Zbd k).map (proofL ps),l,q,t⟩
theorem allP_congr {s s':SprT} (h1:s.no=s'.no):∀(l q:List (List Int)) (i:Nat),allP s i l q=allP s' i l q
 | [],_,_=>rfl
 |_::_, [],_=>rfl
 | p::l,q::qs,i=>by
   show (provedS s i p q&&allP s (i+1) l qs)=(provedS s' i p q&&allP s' (i+1) l qs)
   rw [allP_congr h1 l qs (i+1),show provedS s i p q=provedS s' i p q by unfold provedS;rw [h1]]
theorem soundS_congr {s s':SprT} (h1:s.no=s'.no) (h2:s.ps=s'.ps) (h3:s.qs=s'.qs):soundS s=soundS s':=by
 unfold soundS
 rw [h1,h2,h3,allP_congr h1]
theorem lay_st_sound {no:NotT} {ps:List (List Int)} (h:Lays no ps) {k:Nat} (hk:k≤ps.length) (l:List Row) (q:List Int) (t:TrT):soundT (laySt no ps k l q t)=true:=by
 have e:soundS (laySt no ps k l q t).sp=soundS (layS no ps k):=soundS_congr rfl rfl rfl
 rw [soundT,e];exact lay_sound h k hk
theorem lay_st_len {no:NotT} {ps:List (List Int)} {k:Nat} (hk:k≤ps.length) (l:List Row) (q:List Int) (t:TrT):(laySt no ps k l q t).ps.length=k:=by simp [laySt];omega
theorem lays_16 {no:NotT} {ps:List (List Int)} (h:Lays no ps):ps.length≤16∧1≤ps.length:=by
 have:=sound_16 (lay_st_sound h (Nat.zero_le _) [] [] zeroT)
 have hc:=h.cnt
 have h2:countS no.n≤16:=this.2.1
 have h3:1≤countS no.n:=this.2.2.1
 omega
theorem ann_zero {no:NotT} (h:announcedS no.v no.n no.t=true):zeroN no=false:=by
 simp only [announcedS,Zam,decide_eq_true_eq] at h
 rw [Bool.eq_false_iff]
 intro hz
 simp only [zeroN,Zam,beq_iff_eq] at hz
 omega
theorem lay_st_valid {no:NotT} {ps:List (List Int)} (h:Lays no ps) {k:Nat} (hk:k≤ps.length) {l:List Row} {q:List Int} {t:TrT} (hg:Good l) (hl:l.length<16) (hf:l= []∨k<ps.length) (hq:l≠ []∨q= []) (ht:validT t=true):
   emptyS (laySt no ps k l q t)=false∧validP (laySt no ps k l q t)=true:=by
 have he:emptyS (laySt no ps k l q t)=false:=by
   rw [emptyS,show zeroN (laySt no ps k l q t).no=false from ann_zero h.ann];rfl
 refine ⟨he, ?_⟩
 rw [validP,he,lay_st_sound h hk,show validS (laySt no ps k l q t).rows=true by rw [←validR_eq];exact (validR_good l).2 hg]
 rw [show (laySt no ps k l q t).rows=l from rfl,show (laySt no ps k l q t).pf=q from rfl,show (laySt no ps k l q t).tr=t from rfl,ht,decide_eq_true (p:=(l.length:Int)<16) (by omega)]
 have hfull:(l.isEmpty|| !fullP (laySt no ps k l q t))=true:=by
   rcases hf with rfl|hf
   · rfl
   · rw [fullP,lay_st_len hk,show (laySt no ps k l q t).no=no from rfl,h.cnt]
     rw [Bool.or_eq_true];right
     simp;omega
 have hqe:(!l.isEmpty||q.isEmpty)=true:=by
   rcases hq with hq|rfl
   · cases l with
     |nil=>exact absurd rfl hq
     |cons _ _=>rfl
   · simp
 rw [hfull,hqe];rfl
theorem rec_sumN {p:List Int} {s n:Int} (hn:pageS n=true) (hs:seedS s=true) (l:List Row):recS l n s (encS p s)=addS l (setS s) (sumB p (setS s)):=by
 rw [enc_sum hs,recS,if_pos]
 simp [recOk,hs,sumB_len,hn]
theorem page_of {ps:List (List Int)} {k:Nat} (h:ps.length≤16) (hk:k<ps.length):pageS (k:Int)=true:=by simp [pageS];omega
theorem first_new {p:List Int} {m:Int} (h0:1≤m) (h1:m<65536):(addS [] m (sumB p m)).2.1=true:=by
 rcases fresh_law (p:=p) (ss:= []) (fun s h=>by cases h) h0 h1 with h|h
 · exfalso
   have e:or64 m (thereS [])=m:=by
     obtain ⟨k,rfl⟩:∃k:Nat,m=k:=⟨m.toNat,by omega⟩
     have:k<65536:=by omega
     unfold or64 thereS
     simp only [List.foldl_nil]
     rw [show (Zao 64 (k:Int)|||Zao 64 0)=Zao 64 (k:Int) by simp]
     rw [wrap_i64]
     · simp [BitVec.toNat_ofInt];omega
     · simp [BitVec.toNat_ofInt];omega
     · simp [BitVec.toNat_ofInt];omega
   rw [e] at h
   simp only [thereS,List.foldl_nil] at h
   omega
 · exact h
def blkOf (ps:List (List Int)) (k:Nat) (m:Int):BlkT:=⟨k,m,encS (nthL ps k) m,proofL ps k⟩
theorem lay_refused {no:NotT} {ps:List (List Int)} (h:Lays no ps) {k:Nat} (hk:k<ps.length) {l:List Row} {q:List Int} {t:TrT} (hg:Good l) (hl:l.length<16) (hq:l≠ []→q=proofL ps k) (hq0:l≠ []∨q= []) (ht:validT t=true) {m:Int} (hm:seedS m=true):
   refusedS (laySt no ps k l q t) (blkOf ps k m)=0:=by
 obtain ⟨a1,a2⟩:=lay_st_valid h (by omega) hg hl (.inr hk) hq0 ht
 obtain ⟨b1,b2⟩:=lays_16 h
 obtain ⟨c1,c2⟩:=seedS_iff.1 hm
 have hbad:badB (blkOf ps k m)=false:=by
   have hd:(encS (nthL ps k) m).length=16:=by rw [enc_sum hm];exact sumB_len _ _
   have e:badB (blkOf ps k m)=(decide ((k:Int)<0)||(decide ((k:Int)≥16)||(decide (m<0)||(decide (m>1000000000)||(((encS (nthL ps k) m).length:Int) !=16))))):=rfl
   rw [e,hd,decide_eq_false (p:=(k:Int)<0) (by omega),decide_eq_false (p:=(k:Int)≥16) (by omega),decide_eq_false (p:=m<0) (by omega),decide_eq_false (p:=m>1000000000) (by omega)]
   rfl
 have hfull:fullP (laySt no ps k l q t)=false:=by
   rw [fullP,lay_st_len (by omega),show (laySt no ps k l q t).no=no from rfl,h.cnt]
   simp;omega
 rw [refusedS,if_neg (by rw [a2,hbad];decide),if_neg (by rw [a1];decide),if_neg (by rw [hfull];decide),lay_st_len (by omega),if_neg (by simp [blkOf]),if_neg (by simp [blkOf]),if_neg]
 show ¬(!l.isEmpty&& !decide (proofL ps k=q))=true
 cases l with
 |nil=>simp
 |cons r l=>rw [hq (by simp)];simp
theorem putT_lay {no:NotT} {ps:List (List Int)} (h:Lays no ps) {k:Nat} (hk:k<ps.length) (l:List Row) (q:List Int) (t:TrT):putT (laySt no ps k l q t) (nthL ps k) (proofL ps k)=(laySt no ps (k+1) [] [] t,0):=by
 have h1:=lay_st_sound h (k:=k) (by omega) l q t
 have h2:=h.two _ (nthL_mem hk)
 have h3:provedS (laySt no ps k l q t).sp (laySt no ps k l q t).ps.length (nthL ps k) (proofL ps k)=true:=by
   rw [lay_st_len (by omega)];exact lay_proved (k:=k) h hk
 rw [putT,if_neg (by rw [h1,h2];simp),if_neg,if_neg (by rw [h3];simp)]
 · show (StT.mk no (ps.take k++ [nthL ps k]) ((Zbd k).map (proofL ps)++ [proofL ps k]) [] [] t,(0:Int))=_
   rw [←lay_at hk,laySt,List.range_succ,List.map_append];rfl
 · rw [lay_st_len (by omega)]
   show ¬(k:Int)=countS no.n
   rw [h.cnt];omega
theorem lay_recv {no:NotT} {ps:List (List Int)} (h:Lays no ps) {k:Nat} (hk:k<ps.length) {l:List Row} {q:List Int} {t:TrT} (hb:∀x∈nthL ps k,0≤x∧x<256) (hT:Tru (nthL ps k) l) (hl:l.length<16) (hq:l≠ []→q=proofL ps k) (hq0:l≠ []∨q= []) (ht:validT t=true) {m:Int} (hm:seedS m=true):
   recvT (laySt no ps k l q t) (blkOf ps k m)=if (addS l (setS m) (sumB (nthL ps k) (setS m))).1.length=16 then (laySt no ps (k+1) [] [] t,0) else (laySt no ps k (addS l (setS m) (sumB (nthL ps k) (setS m))).1 (proofL ps k) t,0):=by
 have hr:=lay_refused h hk hT.good hl hq hq0 ht hm
 obtain ⟨s0,s1⟩:=setS_range hm
 obtain ⟨g1,g2,g3,g4⟩:=add_count hT s0 (show setS m<65536 by omega)
 have er:recS (laySt no ps k l q t).rows (blkOf ps k m).n (blkOf ps k m).s (blkOf ps k m).d=addS l (setS m) (sumB (nthL ps k) (setS m)):=rec_sumN (page_of (lays_16 h).1 hk) hm l
 have hp:=h.two _ (nthL_mem hk)
 have en:nextSt (laySt no ps k l q t) (blkOf ps k m)=laySt no ps k (addS l (setS m) (sumB (nthL ps k) (setS m))).1 (proofL ps k) t:=by
   rw [nextSt,er];rfl
 rw [recvT,if_neg (by rw [hr];simp),er,if_neg (by rw [g1];simp)]
 by_cases h16:(addS l (setS m) (sumB (nthL ps k) (setS m))).1.length=16
 · have hpg:(pagesS (addS l (setS m) (sumB (nthL ps k) (setS m))).1).2=true:=by rw [pages_iff g2,h16];rfl
   rw [if_pos h16,if_neg (by rw [hpg];simp),pages_data g2 hp hb hpg,en,show (blkOf ps k m).pf=proofL ps k from rfl,putT_lay h hk,if_neg (by simp)]
 · have hpg:(pagesS (addS l (setS m) (sumB (nthL ps k) (setS m))).1).2=false:=by rw [pages_iff g2];simp [h16]
   rw [if_neg h16,if_pos hpg,en]
def FedA (no:NotT) (ps:List (List Int)) (k:Nat) (t:TrT) (st:StT):Prop:=
 ∃l q,st=laySt no ps k l q t∧Tru (nthL ps k) l∧l.length<16∧(l≠ []→q=proofL ps k)∧(l≠ []∨q= [])
def Fed (no:NotT) (ps:List (List Int)) (k:Nat) (t:TrT) (st:StT):Prop:=st=laySt no ps (k+1) [] [] t∨FedA no ps k t st
def bytesOk (p:List Int):Prop:=∀x∈p,0≤x∧x<256
theorem done_refused {no:NotT} {ps:List (List Int)} (h:Lays no ps) {k:Nat} (hk:k<ps.length) {t:TrT} (ht:validT t=true) {m:Int} (hm:seedS m=true):
   recvT (laySt no ps (k+1) [] [] t) (blkOf ps k m)=(laySt no ps (k+1) [] [] t,if k+1=ps.length then 10 else 14):=by
 obtain ⟨a1,a2⟩:=lay_st_valid h (k:=k+1) (by omega) (l:= []) (q:= []) (Tru.nil []).good (by simp) (.inl rfl) (.inr rfl) ht
 obtain ⟨b1,b2⟩:=lays_16 h
 obtain ⟨c1,c2⟩:=seedS_iff.1 hm
 have hd:(encS (nthL ps k) m).length=16:=by rw [enc_sum hm];exact sumB_len _ _
 have hbad:badB (blkOf ps k m)=false:=by
   have e:badB (blkOf ps k m)=(decide ((k:Int)<0)||(decide ((k:Int)≥16)||(decide (m<0)||(decide (m>1000000000)||(((encS (nthL ps k) m).length:Int) !=16))))):=rfl
   rw [e,hd,decide_eq_false (p:=(k:Int)<0) (by omega),decide_eq_false (p:=(k:Int)≥16) (by omega),decide_eq_false (p:=m<0) (by omega),decide_eq_false (p:=m>1000000000) (by omega)]
   rfl
 have hr:refusedS (laySt no ps (k+1) [] [] t) (blkOf ps k m)=if k+1=ps.length then 10 else 14:=by
   rw [refusedS,if_neg (by rw [a2,hbad];decide),if_neg (by rw [a1];decide),fullP,lay_st_len (by omega),show (laySt no ps (k+1) [] [] t).no=no from rfl,h.cnt]
   by_cases hf:k+1=ps.length
   · rw [if_pos (by rw [hf];simp),if_pos hf]
   · rw [if_neg (by simp;omega),if_neg hf,if_pos (by show (k:Int)<_;omega)]
 rw [recvT,hr,if_pos (by split<;>decide)]
theorem Fed.step {no:NotT} {ps:List (List Int)} {k:Nat} {t:TrT} {st:StT} (h:Lays no ps) (hk:k<ps.length) (hb:bytesOk (nthL ps k)) (ht:validT t=true) (hf:Fed no ps k t st) {m:Int} (hm:seedS m=true):
   Fed no ps k t (recvT st (blkOf ps k m)).1∧((recvT st (blkOf ps k m)).2=0∨(recvT st (blkOf ps k m)).2=10∨(recvT st (blkOf ps k m)).2=14):=by
 rcases hf with rfl|⟨l,q,rfl,hT,hl,hq,hq0⟩
 · rw [done_refused h hk ht hm]
   exact ⟨.inl rfl,by by_cases h':k+1=ps.length<;>simp [h']⟩
 · obtain ⟨s0,s1⟩:=setS_range hm
   obtain ⟨g1,g2,g3,g4⟩:=add_count hT s0 (show setS m<65536 by omega)
   rw [lay_recv h hk hb hT hl hq hq0 ht hm]
   by_cases h16:(addS l (setS m) (sumB (nthL ps k) (setS m))).1.length=16
   · rw [if_pos h16];exact ⟨.inl rfl, .inl rfl⟩
   · rw [if_neg h16]
     refine ⟨.inr ⟨_,_,rfl,g2,by have:=g2.good.len;omega,fun _=>rfl, .inl ?_⟩, .inl rfl⟩
     intro he
     have h0:l= []:=by
       have:(addS l (setS m) (sumB (nthL ps k) (setS m))).1.length=0:=by rw [he];rfl
       exact List.length_eq_zero_iff.1 (by omega)
     subst h0
     have:=first_new (p:=nthL ps k) s0 (show setS m<65536 by omega)
     rw [he,this] at g4
     simp at g4
theorem Fed.small {no:NotT} {ps:List (List Int)} {k:Nat} {t:TrT} {st:StT} (h:Lays no ps) (hk:k<ps.length) (hf:Fed no ps k t st):smallS st:=by
 obtain ⟨b1,b2⟩:=lays_16 h
 have key:∀(j:Nat) (l:List Row) (q:List Int),j≤ps.length→smallRows l→q.length≤1000000→smallS (laySt no ps j l q t):=by
   intro j l q hj h1 h2
   refine ⟨⟨by rw [lay_st_len hj];omega,fun p hp=> ?_⟩,⟨by simp [laySt];omega,lay_qs h hj⟩,h1,h2⟩
   rw [h.two p (List.mem_of_mem_take hp)];omega
 rcases hf with rfl|⟨l,q,rfl,hT,hl,hq,hq0⟩
 · exact key _ _ _ (by omega) ⟨by simp,fun r hr=>by cases hr⟩ (by simp)
 · refine key _ _ _ (by omega) ⟨by omega,fun r hr=>by rw [hT.good.len16 r hr];omega⟩ ?_
   by_cases hn:l= []
   · rcases hq0 with h0|h0
     · exact absurd hn h0
     · rw [h0];simp
   · rw [hq hn,proofL]
     have:=page_len (i:=k) h.are (by omega);omega
def feedT (ps:List (List Int)) (k:Nat) (st:StT) (ss:List Int):StT:=ss.foldl (fun s m=>(recvT s (blkOf ps k m)).1) st
theorem recvS_grows {p:List Int}:∀ {ss:List Int} {l:List Row},(∀s∈ss,seedS s=true)→Tru p l→l.length≤(allS p (masks ss) l).1.length
 | [],l,_,_=>Nat.le_refl _
 | m::ss,l,hs,ht=>by
   have hm:=hs m (List.mem_cons_self ..)
   obtain ⟨s0,s1⟩:=setS_range hm
   obtain ⟨g1,g2,g3,g4⟩:=add_count ht s0 (show setS m<65536 by omega)
   have e2:allS p (masks (m::ss)) l=allS p (masks ss) (addS l (setS m) (sumB p (setS m))).1:=by
     show allS p (setS m::masks ss) l=_
     rw [allS,if_neg (by simp;omega)]
     dsimp only
     rw [if_neg (by rw [g1];simp)]
   rw [e2]
   have:=recvS_grows (fun s hs'=>hs s (List.mem_cons_of_mem _ hs')) g2
   omega
theorem feed_rows {no:NotT} {ps:List (List Int)} {k:Nat} {t:TrT} (h:Lays no ps) (hk:k<ps.length) (hb:bytesOk (nthL ps k)) (ht:validT t=true):∀(ss:List Int) (l:List Row) (q:List Int),(∀s∈ss,seedS s=true)→Tru (nthL ps k) l→l.length<16→(l≠ []→q=proofL ps k)→(l≠ []∨q= [])→
   feedT ps k (laySt no ps k l q t) ss=laySt no ps (k+1) [] [] t∧16≤(allS (nthL ps k) (masks ss) l).1.length∨∃q',feedT ps k (laySt no ps k l q t) ss=laySt no ps k (allS (nthL ps k) (masks ss) l).1 q' t∧(allS (nthL ps k) (masks ss) l).1.length<16
 | [],l,q,hs,hT,hl,hq,hq0=> .inr ⟨q,rfl,hl⟩
 | m::ss,l,q,hs,hT,hl,hq,hq0=>by
   have hm:=hs m (List.mem_cons_self ..)
   have hs':=fun s hs'=>hs s (List.mem_cons_of_mem _ hs')
   obtain ⟨s0,s1⟩:=setS_range hm
   obtain ⟨g1,g2,g3,g4⟩:=add_count hT s0 (show setS m<65536 by omega)
   have e2:allS (nthL ps k) (masks (m::ss)) l=allS (nthL ps k) (masks ss) (addS l (setS m) (sumB (nthL ps k) (setS m))).1:=by
     show allS (nthL ps k) (setS m::masks ss) l=_
     rw [allS,if_neg (by simp;omega)]
     dsimp only
     rw [if_neg (by rw [g1];simp)]
   have e1:feedT ps k (laySt no ps k l q t) (m::ss)=feedT ps k (recvT (laySt no ps k l q t) (blkOf ps k m)).1 ss:=rfl
   rw [e2,e1,lay_recv h hk hb hT hl hq hq0 ht hm]
   by_cases h16:(addS l (setS m) (sumB (nthL ps k) (setS m))).1.length=16
   · rw [if_pos h16]
     left
     constructor
     · have:∀ss:List Int,(∀s∈ss,seedS s=true)→feedT ps k (laySt no ps (k+1) [] [] t) ss=laySt no ps (k+1) [] [] t:=by
         intro ss
         induction ss with
         |nil=>intro _;rfl
         | cons x ss ih=>
           intro hx
           have e:feedT ps k (laySt no ps (k+1) [] [] t) (x::ss)=feedT ps k (recvT (laySt no ps (k+1) [] [] t) (blkOf ps k x)).1 ss:=rfl
           rw [e,done_refused h hk ht (hx x (List.mem_cons_self ..))]
           exact ih fun s hs=>hx s (List.mem_cons_of_mem _ hs)
       exact this ss hs'
     · have:=recvS_grows (p:=nthL ps k) hs' g2
       omega
   · rw [if_neg h16]
     refine feed_rows h hk hb ht ss _ _ hs' g2 (by have:=g2.good.len;omega) (fun _=>rfl) (.inl ?_)
     intro he
     have h0:l= []:=by
       have:(addS l (setS m) (sumB (nthL ps k) (setS m))).1.length=0:=by rw [he];rfl
       exact List.length_eq_zero_iff.1 (by omega)
     subst h0
     have:=first_new (p:=nthL ps k) s0 (show setS m<65536 by omega)
     rw [he,this] at g4
     simp at g4
def TFe:List (Nat×(List AV→(AV→Prop)→Prop)):= [(87,cProof),(34,cEncB),(15,cSReceive)]
theorem TFe_ok:CallsOk prog TFe:=Zag cProof_ok (Zag cEncB_ok (Zag cSReceive_ok Zaj))
noncomputable def lpFe:Code:=sub [1,1,1,0,1,2,3] (code f28)
def tmFe (ps:List (List Dv)) (k:Int) (q ss:List (List Dv)) (n i:Int):List AV:= [.bad, .d (.sl 1 ps), .d (i64 k), .bad, .ptr 0 0, .bad, .bad, .bad, .ptr 1 0, .bad, .d (.sl 1 q)]++Zad 22 .bad++ [.d (.sl 1 ss), .d (i64 n), .d (i64 i)]++Zad 38 .bad
theorem rFe (s:StT) (b1:List AV) (ps q ss:List (List Dv)) (k n i:Int):wpc prog ⟨TFe, [],wl,y,false⟩ 100 lpFe (tmFe ps k q ss n i) [stB s,zB13] b (maskK 2 [1,2,4,8,10,33,34,35] K)=(BIf (decide (i<n)) (BIf (true&&decide (0≤i)) (∃(x0:Int),ss[Zat i]? =some [i64 x0]∧BIf (true&&decide (0≤k)) (∃(xs3:List (List Dv)),ps[Zat k]? =some [Zal 1 xs3]∧∃(p6:List Int) (n7:Int) (s8:Int) (d9:List Int), [Zae (Zal 1 xs3),Zae (i64 k),Zae (i64 x0)]= [Zae (Zal 1 (bytesR p6)),Zae (i64 n7),Zae (i64 s8)]∧(encOk p6 n7 s8=true∧d9=encS p6 s8)∧∃(s10:StT) (x11:BlkT) (z12:StT) (e13:Int), [stV s,Zbl [Zae (i64 n7),Zae (i64 s8),Zae (Zal 1 (bytesR d9)),Zae (Zal 1 q)]]= [stV s10,bkV x11]∧(((smallS s10)∧Zac (BlkT.pf x11)≤1000000)∧(z12,e13)=recvT s10 x11)∧BIf (e13 !=(0:Int)) (BIf (e13 !=(14:Int)) (BIf (e13 !=(10:Int)) (K .ret (Zaz::Zae (Zal 1 ps)::Zae (i64 k)::Zaz::Zbf 0 0::bds 3 (Zbf 1 0::Zaz::Zae (Zal 1 q)::bds 22 (Zae (Zal 1 ss)::Zae (i64 n)::Zae (i64 i)::bds 38 []))) [stB s,stB s] b) (K .normal (Zaz::Zae (Zal 1 ps)::Zae (i64 k)::Zaz::Zbf 0 0::bds 3 (Zbf 1 0::Zaz::Zae (Zal 1 q)::bds 22 (Zae (Zal 1 ss)::Zae (i64 n)::Zae (i64 (Zaa .i64 (i+1)))::bds 38 []))) [stB z12,Blk.mk Qz3 false false 0] b)) (K .normal (Zaz::Zae (Zal 1 ps)::Zae (i64 k)::Zaz::Zbf 0 0::bds 3 (Zbf 1 0::Zaz::Zae (Zal 1 q)::bds 22 (Zae (Zal 1 ss)::Zae (i64 n)::Zae (i64 (Zaa .i64 (i+1)))::bds 38 []))) [stB z12,Blk.mk Qz3 false false 0] b)) (K .normal (Zaz::Zae (Zal 1 ps)::Zae (i64 k)::Zaz::Zbf 0 0::bds 3 (Zbf 1 0::Zaz::Zae (Zal 1 q)::bds 22 (Zae (Zal 1 ss)::Zae (i64 n)::Zae (i64 (Zaa .i64 (i+1)))::bds 38 []))) [stB z12,Blk.mk Qz3 false false 0] b)) False) False) (K (Exit.exit 0) (Zaz::Zae (Zal 1 ps)::Zae (i64 k)::Zaz::Zbf 0 0::bds 3 (Zbf 1 0::Zaz::Zae (Zal 1 q)::bds 22 (Zae (Zal 1 ss)::Zae (i64 n)::Zae (i64 i)::bds 38 []))) [stB s,Blk.mk Qz3 false false 0] b)):=by kernel_rfl
theorem plain_nf:wpFn prog ⟨[], [],wl,y,true⟩ 100 f29 [] b R=(R (.d (Zal 1 [[i64 0], [i64 1], [i64 2], [i64 3], [i64 4], [i64 5], [i64 6], [i64 7], [i64 8], [i64 9], [i64 10], [i64 11], [i64 12], [i64 13], [i64 14], [i64 15]])) b):=by kernel_rfl
theorem pcPlainL:PCall prog 29 [] (.d (.sl 1 (intsR ss0))):=by
 refine Zbi (n:=100) (u:=true) mixed Zaj Zaf func29 (by rfl) (by rfl) fun Ev bb=> ?_
 rw [plain_nf];rfl
def cPlainL (args:List AV) (K:AV→Prop):Prop:=args= []∧∃z:List Int,z=ss0∧K (.d (.sl 1 (intsR z)))
theorem cPlainL_ok:∀args K,cPlainL args K→∃x,PCall prog 29 args x∧K x:=by
 rintro _ K ⟨rfl,_,rfl,h⟩;exact ⟨_,pcPlainL,h⟩
theorem lays_enc {no:NotT} {ps:List (List Int)} (h:Lays no ps) {k:Nat} (hk:k<ps.length) {m:Int} (hm:seedS m=true):encOk (nthL ps k) k m=true:=by
 rw [encOk,h.two _ (nthL_mem hk),page_of (lays_16 h).1 hk,hm];rfl
theorem drop_nth {ss rest:List Int} {m:Int} {j:Nat} (hd:ss.drop j=m::rest):(intsR ss)[j]? =some [i64 m]:=by
 obtain ⟨h1,h2,_⟩:=drop_cons hd
 simp [intsR,h2]
theorem wrFe {Ev:Env prog} {b:Ev.β} {Q:Exit→St Ev.β→Prop} {no:NotT} {ps:List (List Int)} {k:Nat} {t:TrT} (h:Lays no ps) (hk:k<ps.length) (hb:bytesOk (nthL ps k)) (ht:validT t=true) (ss:List Int) (hs:∀s∈ss,seedS s=true) (hl:ss.length≤1000):
   ∀(rest:List Int) (j:Nat) (st:StT),ss.drop j=rest→Fed no ps k t st→(∀i:Int,Q (.exit 0) ⟨tmFe (partsR ps) k (digR (proofL ps k)) (intsR ss) ss.length i, [stB (feedT ps k st rest),zB13],b⟩)→WR Ev lpFe (rest.length+1) ⟨tmFe (partsR ps) k (digR (proofL ps k)) (intsR ss) ss.length j, [stB st,zB13],b⟩ Q
 | [],j,st,hd,hf,hQ=>by
   have hj:=drop_nil hd
   refine WR.ofMask [1,2,4,8,10,33,34,35] mixed (CX.Ok.of (u:=false) TFe_ok Zaf) (k:=100) ?_
   refine Eq.mpr (rFe _ _ _ _ st [] (partsR ps) (digR (proofL ps k)) (intsR ss) k ss.length j) ?_
   exact Zea (by simp;omega) (hQ j)
 | m::rest,j,st,hd,hf,hQ=>by
   obtain ⟨hj,h2,hd'⟩:=drop_cons hd
   have hm:seedS m=true:=hs m (Zbb h2)
   obtain ⟨f1,f2⟩:=hf.step h hk hb ht hm
   refine WR.ofMask [1,2,4,8,10,33,34,35] mixed (CX.Ok.of (u:=false) TFe_ok Zaf) (k:=100) ?_
   refine Eq.mpr (rFe _ _ _ _ st [] (partsR ps) (digR (proofL ps k)) (intsR ss) k ss.length j) ?_
   rw [wrapN (by omega),Zba,Zba]
   have hn:=page_len (i:=k) h.are (by omega)
   refine Zbt (by simp;omega) (Zbt (by simp) ⟨m,drop_nth hd,Zbt (by simp) ⟨bytesR (nthL ps k),parts_at hk,nthL ps k,k,m,_,rfl,⟨lays_enc h hk hm,rfl⟩,st,blkOf ps k m,(recvT st (blkOf ps k m)).1,(recvT st (blkOf ps k m)).2,rfl,⟨⟨hf.small h hk,by show (proofL ps k).length≤_;rw [proofL];omega⟩,rfl⟩, ?_⟩⟩)
   have nx:=wrFe (Q:=Q) h hk hb ht ss hs hl rest (j+1) (recvT st (blkOf ps k m)).1 hd' f1 hQ
   rcases f2 with f2|f2|f2<;>rw [f2]
   · exact Zea rfl nx
   · exact Zbt rfl (Zbt rfl (Zea rfl nx))
   · exact Zbt rfl (Zea rfl nx)
def wlFe {β:Type}:WLT β:=fun c tm hp b K=>∃(no:NotT) (ps:List (List Int)) (k:Nat) (t:TrT) (st:StT) (ss:List Int) (z:StT),c= .loop lpFe∧maskTm [1,2,4,8,10,33,34,35] 0 tm=tmFe (partsR ps) k (digR (proofL ps k)) (intsR ss) (intsR ss).length 0∧hp= [stB st,zB13]∧
 ((Lays no ps∧k<ps.length∧bytesOk (nthL ps k)∧validT t=true∧(∀s∈ss,seedS s=true)∧ss.length≤1000∧Fed no ps k t st)∧z=feedT ps k st ss)∧∀i:Int,K (.exit 0) (tmFe (partsR ps) k (digR (proofL ps k)) (intsR ss) ss.length i) [stB z,zB13] b
theorem wlFe_ok {Ev:Env prog} (c:Code) (tm:List AV) (hp:List Blk) (b:Ev.β) (K:Exit→List AV→List Blk→Ev.β→Prop) (h:wlFe c tm hp b K):W Ev c ⟨tm,hp,b⟩ (fun e s=>K e s.tm s.hp s.b):=by
 obtain ⟨no,ps,k,t,st,ss,z,rfl,htm,rfl,⟨⟨h1,h2,h3,h4,h5,h6,h7⟩,rfl⟩,hK⟩:=h
 rw [intsR_len] at htm
 refine W.cast (htm▸maskTm_le _ tm 0) (LeH.refl _) ?_
 exact W.rounds (wrFe (Q:=fun e s=>K e s.tm s.hp s.b) h1 h2 h3 h4 ss h5 h6 ss 0 st rfl h7 hK)
theorem feed_nf (s:StT) (ps ss:List (List Dv)) (k:Int):wpFn prog ⟨TFe, [],wlFe,y,false⟩ 100 f28 [stV s, .d (.sl 1 ps), .d (i64 k), .d (.sl 1 ss)] b R=(∃(ps0:List (List Int)) (i1:Int) (z2:List Int×Int), [Zae (Zal 1 ps),Zae (i64 k)]= [Zae (Zal 1 (partsR ps0)),Zae (i64 i1)]∧z2=proofS ps0 i1∧BIf (Prod.snd z2 !=(0:Int)) (R (.tup [stV s,Zae (bo false)]) b) (BIf (decide (k≥((Zac ps:Nat):Int))) (R (.tup [stV s,Zae (bo false)]) b) (∃(no3:NotT) (ps4:List (List Int)) (k5:Nat) (t6:TrT) (st7:StT) (ss8:List Int) (z9:StT),Zbq lpFe=Zbq lpFe∧(Zaz::Zae (Zal 1 ps)::Zae (i64 k)::Zaz::Zbf 0 0::bds 3 (Zbf 1 0::Zaz::Zae (Zal 1 (digR (Prod.fst z2)))::bds 22 (Zae (Zal 1 ss)::Zae (i64 ((Zac ss:Nat):Int))::Zae (i64 0)::bds 38 [])))=(Zaz::Zae (Zal 1 (partsR ps4))::Zae (i64 (k5:Int))::Zaz::Zbf 0 0::bds 3 (Zbf 1 0::Zaz::Zae (Zal 1 (digR (proofL ps4 k5)))::bds 22 (Zae (Zal 1 (intsR ss8))::Zae (i64 ((Zac (intsR ss8):Nat):Int))::Zae (i64 0)::bds 38 [])))∧ [stB s,Blk.mk Qz3 false false 0]= [stB st7,Blk.mk Qz3 false false 0]∧((Lays no3 ps4∧k5<Zac ps4∧(∀(x:Int),x∈nthL ps4 k5→(0:Int)≤x∧x<(256:Int))∧validT t6=true∧(∀(s:Int),s∈ss8→seedS s=true)∧Zac ss8≤1000∧(st7=laySt no3 ps4 (k5+1) [] [] t6∨∃(l10:List Row) (q11:List Int),st7=laySt no3 ps4 k5 l10 q11 t6∧Tru (nthL ps4 k5) l10∧Zac l10<16∧(l10≠ []→q11=proofL ps4 k5)∧(l10≠ []∨q11= [])))∧z9=feedT ps4 k5 st7 ss8)∧∀(i:Int),R (.tup [stV z9,Zae (bo true)]) b))):=by kernel_rfl
def OkFeed (no:NotT) (ps:List (List Int)) (k:Nat) (t:TrT) (st:StT) (ss:List Int):Prop:=Lays no ps∧k<ps.length∧bytesOk (nthL ps k)∧validT t=true∧(∀s∈ss,seedS s=true)∧ss.length≤1000∧Fed no ps k t st
theorem pcFeed {no:NotT} {ps:List (List Int)} {k:Nat} {t:TrT} {st:StT} {ss:List Int} (h:OkFeed no ps k t st ss):PCall prog 28 [stV st, .d (.sl 1 (partsR ps)), .d (i64 k), .d (.sl 1 (intsR ss))] (.tup [stV (feedT ps k st ss), .d (bo true)]):=by
 refine PCall.ofFnW (n:=100) (u:=false) (fun _=>wlFe) mixed TFe_ok Zaf (fun Ev=>wlFe_ok) func28 (by rfl) (by rfl) fun Ev bb=> ?_
 rw [feed_nf]
 have hp:=lay_proof h.1.are h.2.1
 refine ⟨ps,k,_,rfl,rfl,Zea (by rw [hp];rfl) (Zea (by rw [partsR_len];have:=h.2.1;simp;omega) ⟨no,ps,k,t,st,ss,_,rfl,by rw [hp],rfl,⟨h,rfl⟩,fun i=>rfl⟩)⟩
def cFeed (args:List AV) (K:AV→Prop):Prop:=∃(no:NotT) (ps:List (List Int)) (k:Nat) (t:TrT) (st:StT) (ss:List Int) (z:StT),args= [stV st, .d (.sl 1 (partsR ps)), .d (i64 k), .d (.sl 1 (intsR ss))]∧(OkFeed no ps k t st ss∧z=feedT ps k st ss)∧K (.tup [stV z, .d (bo true)])
theorem cFeed_ok:∀args K,cFeed args K→∃x,PCall prog 28 args x∧K x:=by
 rintro _ K ⟨no,ps,k,t,st,ss,_,rfl,⟨h1,rfl⟩,h⟩;exact ⟨_,pcFeed h1,h⟩
noncomputable def lpPg:Code:=sub [1,1,0,1,2,3] (code f45)
def prgF (i:Nat):Int:=Zaa .u8 (Zaa .i64 (1+Int.tmod (Zaa .i64 ((i:Int)*5)) 251))
def prgP (k:Nat):List Int:=(Zbd k).map prgF++Zad (300 - k) 0
def prg:List Int:=(Zbd 300).map prgF
def tmPg (n i:Int):List AV:= [.bad, .bad, .bad, .gref 0 0 300 1, .bad, .bad, .bad, .bad, .d (i64 n), .d (i64 i)]++Zad 12 .bad
theorem rPg (cs:List AV) (n i:Int):wpc prog ⟨[],GB5,wl,y,false⟩ 100 lpPg (tmPg n i) [blkG cs 0] b (maskT [3,8,9] K)=(BIf (decide (i<n)) (0=0∧BIf (decide (0≤i)&&decide (i<(300:Int))) (0=0∧BIf (decide (Zat i*1+1≤Zac cs)) (K .normal (bds 3 (AV.gref 0 0 300 1::bds 4 (Zae (i64 n)::Zae (i64 (Zaa .i64 (i+1)))::bds 12 []))) [Blk.mk (List.take (Zat i*1) cs++ [Zae (u8 (Zaa .u8 (Zaa .i64 ((1:Int)+Int.tmod (Zaa .i64 (i*(5:Int))) (251:Int)))))]++List.drop (Zat i*1+1) cs) false true 0] b) False) False) (K (Exit.exit 0) (bds 3 (AV.gref 0 0 300 1::bds 4 (Zae (i64 n)::Zae (i64 i)::bds 12 []))) [Blk.mk cs false true 0] b)):=by kernel_rfl
theorem prgP_step {k:Nat} (hk:k<300):(flatA (bytesR (prgP k))).take (k*1)++ [Zae (u8 (prgF k))]++(flatA (bytesR (prgP k))).drop (k*1+1)=flatA (bytesR (prgP (k+1))):=by
 have e0:((Zbd k).map prgF).length=k:=by simp
 have e1:prgP (k+1)=(Zbd k).map prgF++ [prgF k]++Zad (300 - (k+1)) 0:=by
   rw [prgP,List.range_succ,List.map_append];rfl
 have e2:Zad (300 - k) (0:Int)=0::Zad (300 - (k+1)) 0:=by
   rw [show 300 - k=(300 - (k+1))+1 by omega,List.replicate_succ]
 rw [flatA_bytes,flatA_bytes,e1,Nat.mul_one,prgP,e2]
 rw [←List.map_take,←List.map_drop,List.take_left' e0,List.drop_append,List.drop_of_length_le (by omega),e0]
 simp
theorem prgP_len {k:Nat} (hk:k≤300):(prgP k).length=300:=by simp [prgP];omega
theorem wrPg {Ev:Env prog} {b:Ev.β} {Q:Exit→St Ev.β→Prop}:∀(n k:Nat),300 - k=n→k≤300→
   (∀i:Int,Q (.exit 0) ⟨tmPg 300 i, [blkG (flatA (bytesR prg)) 0],b⟩)→WR Ev lpPg (n+1) ⟨tmPg 300 k, [blkG (flatA (bytesR (prgP k))) 0],b⟩ Q
 | n,k,hn,hk,h=>by
   refine WR.ofMaskT [3,8,9] mixed (CX.Ok.of (u:=false) Zaj GB5_ok) (k:=100) ?_
   rw [rPg]
   refine Zar (fun g=> ?_) fun g=> ?_
   · have hlt:k<300:=by have:=of_decide_eq_true g;omega
     refine ⟨rfl,Zbt (by simp<;>omega) ⟨rfl,Zbt (by rw [flatA_bytes,List.length_map,prgP_len hk];simp<;>omega) ?_⟩⟩
     rw [Zba,show Zaa .u8 (Zaa .i64 (1+Int.tmod (Zaa .i64 ((k:Int)*5)) 251))=prgF k from rfl,prgP_step hlt,wrap_succ (n:=300) hlt (by omega)]
     cases n with
     |zero=>omega
     |succ n=>exact wrPg n (k+1) (by omega) (by omega) h
   · have hk:k=300:=by have:=of_decide_eq_false g;omega
     subst hk
     have e:prgP 300=prg:=by rw [prgP,Nat.sub_self,List.replicate_zero,List.append_nil];rfl
     rw [e];exact h _
def wlPg {β:Type}:WLT β:=fun c tm hp b K=>c= .loop lpPg∧maskTm [3,8,9] 0 tm=tmPg 300 0∧hp= [blkG (flatA (Zad 300 [u8 0])) 0]∧∃z:List Int,z=prg∧∀k:Int,K (.exit 0) (tmPg 300 k) [blkG (flatA (bytesR z)) 0] b
theorem wlPg_ok {Ev:Env prog} (c:Code) (tm:List AV) (hp:List Blk) (b:Ev.β) (K:Exit→List AV→List Blk→Ev.β→Prop) (h:wlPg c tm hp b K):W Ev c ⟨tm,hp,b⟩ (fun e s=>K e s.tm s.hp s.b):=by
 obtain ⟨rfl,htm,rfl,z,rfl,hK⟩:=h
 refine W.cast (htm▸maskTm_le _ tm 0) (LeH.refl _) ?_
 have e:Zad 300 [u8 0]=bytesR (prgP 0):=by rw [prgP,List.range_zero,List.map_nil,List.nil_append,bytesR,List.map_replicate]
 rw [e]
 exact W.rounds (wrPg (Q:=fun e s=>K e s.tm s.hp s.b) 300 0 rfl (by omega) hK)
abbrev Qz31:List AV:=bds 3 (AV.gref 0 0 300 1::bds 4 (Zae (i64 300)::Zae (i64 0)::bds 12 []))
theorem program_nf:wpFn prog ⟨[],GB5,wlPg,y,false⟩ 100 f45 [.d (i64 300)] b R=(0=0∧Zbq lpPg=Zbq lpPg∧Qz31=Qz31∧ [Blk.mk (Zad 300 (Zae (u8 0))) false true 0]= [Blk.mk (Zad 300 (Zae (u8 0))) false true 0]∧∃(z0:List Int),z0=prg∧∀(k:Int),0=0∧∃(xs1:List (List Dv)),flatA (bytesR z0)=flatA xs1∧Zac xs1=300∧(∀(r:List Dv),r∈xs1→Zac r=1)∧R (.d (Zal 1 xs1)) b):=by kernel_rfl
theorem prg_len:prg.length=300:=by simp [prg]
theorem pcProgram:PCall prog 45 [.d (i64 300)] (.d (.sl 1 (bytesR prg))):=by
 refine PCall.ofFnW (n:=100) (u:=false) (fun _=>wlPg) mixed Zaj GB5_ok (fun Ev=>wlPg_ok) func45 (by rfl) (by rfl) fun Ev bb=> ?_
 rw [program_nf]
 refine ⟨rfl,rfl,rfl,rfl,_,rfl,fun _=>⟨rfl,bytesR prg,rfl,by rw [bytesR_len,prg_len],bytes_row,rfl⟩⟩
def cProgram (args:List AV) (K:AV→Prop):Prop:=∃z:List Int,args= [.d (i64 300)]∧z=prg∧K (.d (.sl 1 (bytesR z)))
theorem cProgram_ok:∀args K,cProgram args K→∃x,PCall prog 45 args x∧K x:=by
 rintro _ K ⟨_,rfl,rfl,h⟩;exact ⟨_,pcProgram,h⟩
set_option maxRecDepth 100000
set_option maxHeartbeats 0
def cWholeT (args:List AV) (K:AV→Prop):Prop:=∃(s:StT) (z:List Int) (e:Bool),args= [stV s]∧(smallS s∧(z,e)=wholeS s.sp)∧K (.tup [.d (.sl 1 (bytesR z)), .d (bo e)])
theorem cWholeT_ok:∀args K,cWholeT args K→∃x,PCall prog 30 args x∧K x:=by
 rintro _ K ⟨s,z,e,rfl,⟨hs,he⟩,h⟩
 exact cWhole_ok _ K ⟨s.sp,z,e,rfl,⟨by have:=hs.1.1;show s.ps.length≤_;omega,he⟩,h⟩
def THe:List (Nat×(List AV→(AV→Prop)→Prop)):= [(45,cProgram),(27,cSplitE),(25,cAnnounce),(21,lessC cSHear),(34,cEncB),(15,lessC cSReceive),(29,cPlainL),(28,cFeed),(30,cWholeT),(17,semC cSServe),(31,cBytes)]
theorem THe_ok:CallsOk prog THe:=Zag cProgram_ok (Zag cSplitE_ok (Zag cAnnounce_ok (Zag (lessC_ok cSHear_ok) (Zag cEncB_ok (Zag (lessC_ok cSReceive_ok) (Zag cPlainL_ok (Zag cFeed_ok (Zag cWholeT_ok (Zag (semC_ok cSServe_ok) (Zag cBytes_ok Zaj))))))))))
abbrev Qz28 (v0:Int) (v1:Int) (v2:List Int):List AV:= [Zae (i64 v0),Zae (i64 v1),Zae (Zal 1 (bytesR v2)),Zae (Dv.s (.slice none 0 0))]
theorem shead_nf:wpFn prog ⟨THe, [],wl,y,false⟩ 200 f13 [] b R=(∃(z0:List Int), [Zae (i64 300)]= [Zae (i64 300)]∧z0=prg∧∃(p1:List Int) (q2:List (List Int)) (e3:Int), [Zae (Zal 1 (bytesR z0))]= [Zae (Zal 1 (bytesR p1))]∧(Zac p1≤9223372036854775807∧(q2,e3)=splitE p1)∧∃(v4:Int) (t5:Int) (p6:List Int) (z7:NotT) (e8:Int), [Zae (i64 2),Zae (Zal 1 (bytesR z0)),Zae (i64 100)]= [Zae (i64 v4),Zae (Zal 1 (bytesR p6)),Zae (i64 t5)]∧(Zac p6≤9223372036854775807∧(z7,e8)=annS v4 p6 t5)∧∃(args9:List AV),LeVs [Zbl [Zae (i64 0),Zae (i64 0),Zae (u64 0),Zae (i64 0),Zae (Dv.s (.slice none 0 0)),Zae (Dv.s (.slice none 0 0)),Zae (Dv.s (.slice none 0 0)),Zae (Dv.s (.slice none 0 0)),Zae (i64 0),Zae (i64 0),Zae (i64 0),Zae (i64 0),Zae (i64 7)],noV z7,Zae (i64 1),Zae (i64 5)] args9∧∃(s10:StT) (n11:NotT) (p12:Int) (f13:Int) (z14:StT),args9= [stV s10,noV n11,Zae (i64 p12),Zae (i64 f13)]∧((smallS s10)∧z14=hearS s10 n11 p12 f13)∧BIf (e3 !=(0:Int)) (R (.d (bo false)) b) (BIf (e8 !=(0:Int)) (R (.d (bo false)) b) (BIf (!(Zbm (StT.no z14)==Zbm z7&&(Zbv (StT.no z14)==Zbv z7&&(Zca (StT.no z14)==Zca z7&&(Zbz (StT.no z14)==Zbz z7&&true))))) (R (.d (bo false)) b) (BIf (TrT.iv (StT.tr z14) !=(1:Int)) (R (.d (bo false)) b) (BIf (TrT.sd (StT.tr z14) !=(7:Int)) (R (.d (bo false)) b) (∃(xs15:List (List Dv)),(partsR q2)[1]? =some [Zal 1 xs15]∧∃(p18:List Int) (n19:Int) (s20:Int) (d21:List Int), [Zae (Zal 1 xs15),Zae (i64 1),Zae (i64 0)]= [Zae (Zal 1 (bytesR p18)),Zae (i64 n19),Zae (i64 s20)]∧(encOk p18 n19 s20=true∧d21=encS p18 s20)∧∃(args22:List AV),LeVs [stV z14,Zbl (Qz28 n19 s20 d21)] args22∧∃(s23:StT) (x24:BlkT) (z25:StT) (e26:Int),args22= [stV s23,bkV x24]∧(((smallS s23)∧Zac (BlkT.pf x24)≤1000000)∧(z25,e26)=recvT s23 x24)∧∃(args27:List AV),LeVs [Zbl Qz3,Zbl (Qz28 n19 s20 d21)] args27∧∃(s28:StT) (x29:BlkT) (z30:StT) (e31:Int),args27= [stV s28,bkV x29]∧(((smallS s28)∧Zac (BlkT.pf x29)≤1000000)∧(z30,e31)=recvT s28 x29)∧([]:List AV)= []∧∃(z32:List Int),z32=ss0∧∃(no33:NotT) (ps34:List (List Int)) (k35:Nat) (t36:TrT) (st37:StT) (ss38:List Int) (z39:StT), [stV z14,Zae (Zal 1 (partsR q2)),Zae (i64 0),Zae (Zal 1 (intsR z32))]= [stV st37,Zae (Zal 1 (partsR ps34)),Zae (i64 (k35:Int)),Zae (Zal 1 (intsR ss38))]∧((Lays no33 ps34∧k35<Zac ps34∧(∀(x:Int),x∈nthL ps34 k35→(0:Int)≤x∧x<(256:Int))∧validT t36=true∧(∀(s:Int),s∈ss38→seedS s=true)∧Zac ss38≤1000∧(st37=laySt no33 ps34 (k35+1) [] [] t36∨∃(l40:List Row) (q41:List Int),st37=laySt no33 ps34 k35 l40 q41 t36∧Tru (nthL ps34 k35) l40∧Zac l40<16∧(l40≠ []→q41=proofL ps34 k35)∧(l40≠ []∨q41= [])))∧z39=feedT ps34 k35 st37 ss38)∧([]:List AV)= []∧∃(z42:List Int),z42=ss0∧∃(no43:NotT) (ps44:List (List Int)) (k45:Nat) (t46:TrT) (st47:StT) (ss48:List Int) (z49:StT), [stV z39,Zae (Zal 1 (partsR q2)),Zae (i64 1),Zae (Zal 1 (intsR z42))]= [stV st47,Zae (Zal 1 (partsR ps44)),Zae (i64 (k45:Int)),Zae (Zal 1 (intsR ss48))]∧((Lays no43 ps44∧k45<Zac ps44∧(∀(x:Int),x∈nthL ps44 k45→(0:Int)≤x∧x<(256:Int))∧validT t46=true∧(∀(s:Int),s∈ss48→seedS s=true)∧Zac ss48≤1000∧(st47=laySt no43 ps44 (k45+1) [] [] t46∨∃(l50:List Row) (q51:List Int),st47=laySt no43 ps44 k45 l50 q51 t46∧Tru (nthL ps44 k45) l50∧Zac l50<16∧(l50≠ []→q51=proofL ps44 k45)∧(l50≠ []∨q51= [])))∧z49=feedT ps44 k45 st47 ss48)∧∃(s52:StT) (z53:List Int) (e54:Bool), [stV z49]= [stV s52]∧((smallS s52)∧(z53,e54)=wholeS (StT.sp s52))∧∃(args55:List AV),LeVs [stV z49,Zbl (Qz28 n19 s20 d21)] args55∧∃(s56:StT) (x57:BlkT) (z58:StT) (e59:Int),args55= [stV s56,bkV x57]∧(((smallS s56)∧Zac (BlkT.pf x57)≤1000000)∧(z58,e59)=recvT s56 x57)∧∃(args60:List AV),SemVs [stV z49,AV.full 31 [[i64 0,i64 0,i64 0,i64 0,i64 0,i64 0,i64 0,i64 0,i64 0,i64 0,i64 0,i64 0,Dv.s (.slice none 0 0),Dv.s (.slice none 0 0),Dv.s (.slice none 0 0),Dv.s (.slice none 0 0),bo false,Dv.s (.slice none 0 0),Dv.s (.slice none 0 0),Dv.s (.slice none 0 0),i64 (Zbm z7),i64 (Zbv z7),u64 (Zca z7),i64 (Zbz z7),i64 1,i64 0,i64 0,i64 0,Dv.s (.slice none 0 0),Dv.s (.slice none 0 0),bo false]],Zae (i64 5)] args60∧∃(s61:StT) (l62:List NearT) (f63:Int) (z64:StT) (x65:BlkT) (e66:Bool),args60= [stV s61,Zae (Zal 31 (nearR l62)),Zae (i64 f63)]∧(((smallS s61)∧Zac l62≤1000000)∧(z64,x65,e66)=serveS s61 l62 f63)∧BIf (e26==(6:Int)) (BIf (e31==(4:Int)) (BIf (e59==(10:Int)) (BIf e54 (BIf (((Zac (partsR (StT.ps z39)):Nat):Int)==(1:Int)) (∃(a67:List Int) (c68:List Int) (z69:Bool), [Zae (Zal 1 (bytesR z53)),Zae (Zal 1 (bytesR z0))]= [Zae (Zal 1 (bytesR a67)),Zae (Zal 1 (bytesR c68))]∧(Zac a67≤9223372036854775807∧z69=decide (a67=c68))∧BIf z69 (BIf e66 (BIf (BlkT.n x65==(1:Int)) (BIf (BlkT.s x65==(327:Int)) (R (.d (bo (((Zac (digR (BlkT.pf x65)):Nat):Int)==(1:Int)))) b) (R (.d (bo false)) b)) (R (.d (bo false)) b)) (R (.d (bo false)) b)) (R (.d (bo false)) b)) (R (.d (bo false)) b)) (R (.d (bo false)) b)) (R (.d (bo false)) b)) (R (.d (bo false)) b)) (R (.d (bo false)) b))))))):=by kernel_rfl
set_option maxRecDepth 20000
set_option maxHeartbeats 2000000
def hps:List (List Int):=splitS prg
def hno:NotT:=(annS 2 prg 100).1
def ht:TrT:=beginS 7 1 5
theorem hsz:sizedS (prg.length:Int)=true:=by rw [prg_len];decide
theorem hann:announcedS 2 (prg.length:Int) 100=true:=by rw [prg_len];decide
theorem hno_eq:annS 2 prg 100=(hno,0):=by rw [hno,(lays_page hsz hann).1]
theorem hlays:Lays hno hps:=by
 have:=lays_page (v:=2) (t:=100) hsz hann
 rw [hno,this.1];exact this.2
theorem hps_len:hps.length=2:=by rw [hps,split_len,prg_len]
theorem prg_isB:∀x∈prg,IsB x:=by
 intro x hx
 obtain ⟨i,hi,rfl⟩:=Zbe.1 hx
 have hi:=List.mem_range.1 hi
 have key:∀i,i<300→IsB (prgF i):=by unfold IsB;decide+kernel
 exact key i hi
theorem hps_ok {k:Nat} (hk:k<2):bytesOk (nthL hps k):=fun x hx=>split_range prg_isB _ (nthL_mem (by show k<hps.length;rw [hps_len];exact hk)) x hx
theorem ht_valid:validT ht=true:=begin_valid (.inl rfl) (by decide) (by decide)
theorem ht_bel:belowS (1000003*7+5) (1 - 1 / 2)=0:=by
 have:=belowS_range (1000003*7+5) (n:=1 - 1 / 2) (by decide) (by decide)
 omega
theorem ht_fi:ht.fi=5:=by
 show (5:Int)+1 / 2+belowS (1000003*7+5) (1 - 1 / 2)=5
 rw [ht_bel];decide
theorem ht_tick:tickT ht 5=(ht,true):=by
 have e:laterT ht 5=ht:=by rw [laterT,if_neg (by decide)]
 rw [tickT,if_pos (by rw [ht_valid];decide),e,ht_fi];rfl
def zst (sd:Int):StT:=⟨⟨0,0,0,0⟩, [], [], [], [],⟨0,0,0,0,sd⟩⟩
def hst:StT:=laySt hno hps 0 [] [] ht
theorem hno_fields:hno.v=2∧hno.n=300∧hno.t=100:=by
 rw [hno,(lays_page hsz hann).1]
 exact ⟨rfl,by show (prg.length:Int)=300;rw [prg_len];rfl,rfl⟩
theorem hhear:hearS (zst 7) hno 1 5=hst:=by
 obtain ⟨f1,f2,f3⟩:=hno_fields
 have h1:okHear (zst 7) hno 1 5=true:=by
   rw [okHear,show validP (zst 7)=true by rw [validP,show emptyS (zst 7)=true by decide];rfl,hlays.ann,f2,show frameS 5=true by decide,show countS 300=2 by decide]
   simp
 have e:(newT 7 5).1=ht:=by rw [newT,if_pos (by decide)];rfl
 rw [hearS,if_neg (by rw [h1];decide),if_pos (by rw [f1];decide)]
 show StT.mk hno [] [] [] [] (newT 7 5).1=_
 rw [e];rfl
theorem hfeed {k:Nat} (hk:k<2):feedT hps k (laySt hno hps k [] [] ht) ss0=laySt hno hps (k+1) [] [] ht:=by
 have hk':k<hps.length:=by rw [hps_len];exact hk
 have hf:=all_full (p:=nthL hps k) (ms:=masks ss0) (hps_ok hk) (by decide+kernel) masks16_full
 rcases feed_rows hlays hk' (hps_ok hk) ht_valid ss0 [] [] (by decide) (Tru.nil _) (by simp) (by simp) (.inr rfl) with h|⟨q,h1,h2⟩
 · exact h.1
 · omega
theorem hbad (m:Int) (hm:seedS m=true):badB (blkOf hps 1 m)=false:=by
 obtain ⟨c1,c2⟩:=seedS_iff.1 hm
 have hd:(encS (nthL hps 1) m).length=16:=by rw [enc_sum hm];exact sumB_len _ _
 have e:badB (blkOf hps 1 m)=(decide ((1:Int)<0)||(decide ((1:Int)≥16)||(decide (m<0)||(decide (m>1000000000)||(((encS (nthL hps 1) m).length:Int) !=16))))):=rfl
 rw [e,hd,decide_eq_false (p:=m<0) (by omega),decide_eq_false (p:=m>1000000000) (by omega)]
 rfl
def hblk:BlkT:=⟨1,0,encS (nthL hps 1) 0, []⟩
theorem hbad0:badB hblk=false:=by
 have:=hbad 0 (by decide)
 exact this
theorem hlater:(recvT hst hblk).2=6:=by
 obtain ⟨a1,a2⟩:=lay_st_valid hlays (k:=0) (by omega) (l:= []) (q:= []) (Tru.nil []).good (by simp) (.inl rfl) (.inr rfl) ht_valid
 have hf:fullP hst=false:=by
   rw [hst,fullP,lay_st_len (by omega),show (laySt hno hps 0 [] [] ht).no=hno from rfl,hlays.cnt,hps_len];decide
 have hr:refusedS hst hblk=6:=by
   rw [refusedS,if_neg (by rw [hst,a2,hbad0];decide),if_neg (by rw [hst,a1];decide),if_neg (by rw [hf];decide)]
   rfl
 rw [recvT,if_pos (by rw [hr];decide),hr]
theorem hempty:(recvT (zst 0) hblk).2=4:=by
 have hv:validP (zst 0)=true:=by rw [validP,show emptyS (zst 0)=true by decide];rfl
 have hr:refusedS (zst 0) hblk=4:=by
   rw [refusedS,if_neg (by rw [hv,hbad0];decide),if_pos (by decide)]
 rw [recvT,if_pos (by rw [hr];decide),hr]
def hend:StT:=laySt hno hps 2 [] [] ht
theorem hvalid:emptyS hend=false∧validP hend=true:=lay_st_valid hlays (k:=2) (by rw [hps_len];omega) (l:= []) (q:= []) (Tru.nil []).good (by simp) (.inl rfl) (.inr rfl) ht_valid
theorem hfull:(recvT hend hblk).2=10:=by
 have hf:fullP hend=true:=by
   rw [hend,fullP,lay_st_len (by rw [hps_len];omega),show (laySt hno hps 2 [] [] ht).no=hno from rfl,hlays.cnt,hps_len];decide
 have hr:refusedS hend hblk=10:=by
   rw [refusedS,if_neg (by rw [hvalid.2,hbad0];decide),if_neg (by rw [hvalid.1];decide),if_pos hf]
 rw [recvT,if_pos (by rw [hr];decide),hr]
theorem hwhole:wholeS hend.sp=(prg,true):=by
 have h1:soundS hend.sp=true:=lay_st_sound hlays (by rw [hps_len];omega) [] [] ht
 have h2:hend.sp.ps=hps:=List.take_of_length_le (by rw [hps_len];omega)
 have h3:hend.sp.no.n=((prg.length:Nat):Int):=by rw [prg_len];exact hno_fields.2.1
 have h4:=join_split (p:=prg) (n:=prg.length) hsz rfl
 rw [List.drop_of_length_le (Nat.le_refl _),if_pos (by rfl),Nat.sub_self,List.replicate_zero,List.append_nil,List.take_of_length_le (Nat.le_refl _)] at h4
 rw [wholeS,if_pos h1,h2,h3,show joinS hps prg.length=joinS (splitS prg) prg.length from rfl,h4];rfl
def hnear:NearT:=⟨0,0,0,0,0,0,0,0,0,0,0,0, [], [], [], [],false, [], [], [],hno,1,0,0,0, [], [],false⟩
theorem hserve:(serveS hend [hnear] 5).2.2=true∧(serveS hend [hnear] 5).2.1.n=1∧(serveS hend [hnear] 5).2.1.s=327∧(serveS hend [hnear] 5).2.1.pf.length=1:=by
 have h1:okServe hend 5=true:=by rw [okServe,hvalid.1,hvalid.2];decide
 have hl:lackP hend [hnear]= [1]:=by
   rw [lackP,List.filter_cons,if_pos (show eqN hnear.no hend.no=true from eqN_iff.2 rfl)];rfl
 have hp:hend.ps.length=2:=lay_st_len (by rw [hps_len];omega) [] [] ht
 have hle:leastS [1] 2=1:=by decide
 have htk:tickT hend.tr 5=(ht,true):=ht_tick
 rw [serveS,if_neg (by rw [h1];decide),hl,hp,htk]
 rw [if_neg (by rw [show leastS [1] ((2:Nat):Int)=1 from hle];decide)]
 rw [show leastS [1] ((2:Nat):Int)=1 from hle]
 refine ⟨rfl,rfl,rfl, ?_⟩
 have e:nthL hend.qs (1:Int).toNat=proofL hps 1:=rfl
 show (nthL hend.qs (1:Int).toNat).length=1
 rw [e,proofL,levelsS]
 generalize hm:hps.map leafS=now
 have hn:now.length=2:=by rw [←hm,List.length_map,hps_len]
 rw [hn]
 have e2:(nextL now).length=1:=by
   match now,hn with
   | [a,c],_=>rfl
 rw [levelsF,if_pos (by omega),levelsF,if_neg (by omega),proofF,if_pos (by rw [hn];decide),proofF,if_neg (by rw [e2];decide),proofF]
 rfl
set_option maxRecDepth 100000
set_option maxHeartbeats 4000000
theorem zstLe (sd:Int):LeV (Zbl [Zae (i64 (0:Int)),Zae (i64 (0:Int)),Zae (u64 (0:Int)),Zae (i64 (0:Int)),Zae (Dv.s (Zbn none 0 0)),Zae (Dv.s (Zbn none 0 0)),Zae (Dv.s (Zbn none 0 0)),Zae (Dv.s (Zbn none 0 0)),Zae (i64 (0:Int)),Zae (i64 (0:Int)),Zae (i64 (0:Int)),Zae (i64 (0:Int)),Zae (i64 sd)]) (stV (zst sd)):=
 LeV.aggs (.cons .rfl (.cons .rfl (.cons .rfl (.cons .rfl (.cons (.nil rfl) (.cons (.nil rfl) (.cons (.nil rfl) (.cons (.nil rfl) (LeVs.refl _)))))))))
theorem blkLe0 (n s:Int) (d:List Int):LeV (Zbl [Zae (i64 n),Zae (i64 s),Zae (Zal 1 (bytesR d)),Zae (Dv.s (Zbn none 0 0))]) (bkV ⟨n,s,d, []⟩):=
 LeV.aggs (.cons .rfl (.cons .rfl (.cons .rfl (.cons (.nil rfl) .nil))))
theorem nearLe (n:NotT) (p:Int):RowLes [[i64 (0:Int),i64 (0:Int),i64 (0:Int),i64 (0:Int),i64 (0:Int),i64 (0:Int),i64 (0:Int),i64 (0:Int),i64 (0:Int),i64 (0:Int),i64 (0:Int),i64 (0:Int),Dv.s (Zbn none 0 0),Dv.s (Zbn none 0 0),Dv.s (Zbn none 0 0),Dv.s (Zbn none 0 0),bo false,Dv.s (Zbn none 0 0),Dv.s (Zbn none 0 0),Dv.s (Zbn none 0 0),i64 (Zbm n),i64 (Zbv n),u64 (Zca n),i64 (Zbz n),i64 p,i64 (0:Int),i64 (0:Int),i64 (0:Int),Dv.s (Zbn none 0 0),Dv.s (Zbn none 0 0),bo false]]
   (nearR [⟨0,0,0,0,0,0,0,0,0,0,0,0, [], [], [], [],false, [], [], [],n,p,0,0,0, [], [],false⟩]):=by
 refine .cons ?_ .nil
 have r:∀ {c:Dv} {xs ys:List Dv},CellLes xs ys→CellLes (c::xs) (c::ys):=fun h=> .cons .rfl h
 have z:∀ {k:Nat} {xs ys:List Dv},CellLes xs ys→CellLes (.s (.slice none 0 0)::xs) (.sl k []::ys):=fun h=> .cons .nil h
 exact r<|r<|r<|r<|r<|r<|r<|r<|r<|r<|r<|r<|z<|z<|z<|z<|r<|z<|z<|z<|r<|r<|r<|r<|r<|r<|r<|r<|z<|z<|r .nil
theorem hsmall {k:Nat} (hk:k≤2):smallS (laySt hno hps k [] [] ht):=by
 by_cases h0:k=0
 · subst h0
   exact ⟨⟨by simp [laySt],by simp [laySt]⟩,⟨by simp [laySt],by simp [laySt]⟩,⟨by simp [laySt],by simp [laySt]⟩,by simp [laySt]⟩
 · obtain ⟨j,rfl⟩:∃j,k=j+1:=⟨k - 1,by omega⟩
   exact Fed.small (k:=j) hlays (by rw [hps_len];omega) (.inl rfl)
theorem zsmall (sd:Int):smallS (zst sd):=⟨⟨by simp [zst],by simp [zst]⟩,⟨by simp [zst],by simp [zst]⟩,⟨by simp [zst],by simp [zst]⟩,by simp [zst]⟩
theorem pcSHead:PCall prog 13 [] (.d (bo true)):=by
 refine Zbi (n:=200) (u:=false) mixed THe_ok Zaf func13 (by rfl) (by rfl) fun Ev bb=> ?_
 rw [shead_nf]
 have hk1:(1:Nat)<hps.length:=by rw [hps_len];omega
 have hk0:(0:Nat)<hps.length:=by rw [hps_len];omega
 have hq1:(partsR hps)[1]? =some [Zal 1 (bytesR (nthL hps 1))]:=by
   match hh:hps,hps_len with
   | [a,c],_=>rfl
 have hl1:(nthL hps 1).length=256:=hlays.two _ (nthL_mem hk1)
 have hs0:∀s∈ss0,seedS s=true:=by decide
 refine ⟨prg,rfl,rfl,prg,hps,0,rfl,⟨by rw [prg_len];omega,by rw [splitE,if_pos hsz];rfl⟩,2,100,prg,hno,0,rfl,⟨by rw [prg_len];omega,hno_eq.symm⟩, [stV (zst 7),noV hno, .d (i64 1), .d (i64 5)], .cons (zstLe 7) (LeVs.refl _),zst 7,hno,1,5,hst,rfl,⟨zsmall 7,hhear.symm⟩,
   Zea (by decide) (Zea (by decide) (Zea ?_ (Zea (by decide) (Zea (by decide) ⟨_,hq1,nthL hps 1,1,0,encS (nthL hps 1) 0,rfl,⟨by rw [encOk,hl1];decide,rfl⟩, [stV hst,bkV hblk], .cons .rfl (.cons (blkLe0 _ _ _) .nil),hst,hblk,_,6,rfl,⟨⟨hsmall (by omega),by decide⟩,by rw [←hlater]⟩,
     [stV (zst 0),bkV hblk], .cons (zstLe 0) (.cons (blkLe0 _ _ _) .nil),zst 0,hblk,_,4,rfl,⟨⟨zsmall 0,by decide⟩,by rw [←hempty]⟩,rfl,ss0,rfl,
     hno,hps,0,ht,hst,ss0,laySt hno hps 1 [] [] ht,rfl,⟨⟨hlays,hk0,hps_ok (by omega),ht_valid,hs0,by decide, .inr ⟨[], [],rfl,Tru.nil _,by simp,by simp, .inr rfl⟩⟩,(hfeed (k:=0) (by omega)).symm⟩,rfl,ss0,rfl,
     hno,hps,1,ht,laySt hno hps 1 [] [] ht,ss0,hend,rfl,⟨⟨hlays,hk1,hps_ok (by omega),ht_valid,hs0,by decide, .inr ⟨[], [],rfl,Tru.nil _,by simp,by simp, .inr rfl⟩⟩,(hfeed (k:=1) (by omega)).symm⟩,
     hend,prg,true,rfl,⟨hsmall (by omega),hwhole.symm⟩, [stV hend,bkV hblk], .cons .rfl (.cons (blkLe0 _ _ _) .nil),hend,hblk,_,10,rfl,⟨⟨hsmall (by omega),by decide⟩,by rw [←hfull]⟩,
     [stV hend, .d (.sl 31 (nearR [hnear])), .d (i64 5)], .cons .rfl (.cons (SemV.rows (nearLe hno 1)) (.cons .rfl .nil)),hend, [hnear],5,(serveS hend [hnear] 5).1,(serveS hend [hnear] 5).2.1,true,rfl,⟨⟨hsmall (by omega),by decide⟩,by rw [←hserve.1]⟩,
     Zbt (by decide) (Zbt (by decide) (Zbt (by decide) (Zbt rfl (Zbt ?_ ⟨prg,prg,true,rfl,⟨by rw [prg_len];omega,by simp⟩,Zbt rfl (Zbt rfl (Zbt ?_ (Zbt ?_ ?_)))⟩))))⟩))))⟩
 · show (!(hno.v==hno.v&&(hno.n==hno.n&&(hno.r==hno.r&&(hno.t==hno.t&&true)))))=false
   simp
 · rw [partsR_len,lay_st_len (k:=1) (by omega)];rfl
 · rw [hserve.2.1];rfl
 · rw [hserve.2.2.1];rfl
 · rw [digR_len,hserve.2.2.2];rfl
def cSHead (args:List AV) (K:AV→Prop):Prop:=args= []∧K (.d (bo true))
theorem cSHead_ok:∀args K,cSHead args K→∃x,PCall prog 13 args x∧K x:=by
 rintro _ K ⟨rfl,h⟩;exact ⟨_,pcSHead,h⟩
end Go.Proofs.YtibhflogmbfpcaaGreatDoor.Am
namespace Go.Proofs.YtibhflogmbfpcaaGreatDoor.Am
open Go Go.RowKit Go.Proofs Go.ChangeShapes Go.WideShapes Go.ChangeAt Tryz
open AV renaming agg → Zbl, bad → Zaz, d → Zae, ptr → Zbf, rptr → Zcq
open BIf renaming f → Zea, of → Zar, t → Zbt
open BitVec renaming ofInt → Zao
open Bool renaming and_eq_true → Zam
open CallsOk renaming cons → Zag, nil → Zaj
open Go.Code renaming loop → Zbq
open Dv renaming sl → Zal
open Int renaming toNat → Zat, toNat_natCast → Zba
open Go.IntKind renaming i64 → Zax, wrap → Zaa
open List renaming length → Zac, mem_map → Zbe, mem_of_getElem? → Zbb, range → Zbd, replicate → Zad
open NotT renaming n → Zbv, r → Zca, t → Zbz, v → Zbm
open PCall renaming ofFn → Zbi
open SCallsOk renaming cons → Zcc, nil → Zaf
open SprT renaming no → Zby, ps → Zdt
open Go.Value renaming slice → Zbn
variable {β:Type} (b:β)
open AV (bad)
set_option linter.unusedVariables false
set_option maxRecDepth 20000
theorem Try_own:ownKnob Tryz.prog.godebug=none:=by kernel_rfl
theorem Try_laidOut:laidOutB prog=true:=by kernel_rfl
def laid5:List (String×DataW Unit):= [("math/bits.deBruijn32tab",Rows.laid_math_bits_deBruijn32tab),("math/bits.deBruijn64tab",Rows.laid_math_bits_deBruijn64tab),("unicode/utf8.acceptRanges",Rows.laid_unicode_utf8_acceptRanges),("slotmesh/random.steps",Rows.laid_slotmesh_random_steps),("unicode/utf8.first",Rows.laid_unicode_utf8_first)]
theorem gn0:Tryz.prog.globalNamed "math/bits.deBruijn32tab" =some 0:=by kernel_rfl
theorem gn1:Tryz.prog.globalNamed "math/bits.deBruijn64tab" =some 1:=by kernel_rfl
theorem gn2:Tryz.prog.globalNamed "slotmesh/random.steps" =some 2:=by kernel_rfl
theorem gn5:Tryz.prog.globalNamed "unicode/utf8.acceptRanges" =some 5:=by kernel_rfl
theorem flat_of {P:Program} {g n t:Nat} (h:(P.globals[g]?).map (·.type)=some t) (k:(((P.globals[g]?).map (·.type)).bind (flat P n)).isSome=true):∃tys,flat P n t=some tys:=by
 rw [h] at k;exact Option.isSome_iff_exists.1 k
theorem fl0:(((Tryz.prog.globals[0]?).map (·.type)).bind (flat prog 9)).isSome=true:=by kernel_rfl
theorem fl1:(((Tryz.prog.globals[1]?).map (·.type)).bind (flat prog 9)).isSome=true:=by kernel_rfl
theorem fl2:(((Tryz.prog.globals[2]?).map (·.type)).bind (flat prog 9)).isSome=true:=by kernel_rfl
theorem fl5:(((Tryz.prog.globals[5]?).map (·.type)).bind (flat prog 9)).isSome=true:=by kernel_rfl
theorem glob_met {W:World} (h:laidMetH prog laid5 W):Glob (AllOf W) W:=by
 rw [MakeChecks.laidMetH_plain _ _ _ (by kernel_rfl)] at h
 obtain ⟨ps,⟨g0,t0,cs0,f0,p0,q0,hg0,ht0,hv0,hd0,⟨g1,t1,cs1,f1,p1,q1,hg1,ht1,hv1,hd1,⟨g5,t5,cs5,f5,p5,q5,hg5,ht5,hv5,hd5,⟨g2,t2,cs2,f2,p2,q2,hg2,ht2,hv2,hd2,_⟩,_⟩,_⟩,_⟩,_,_⟩:=h
 obtain rfl:=Option.some.inj (gn0.symm.trans hg0)
 obtain rfl:=Option.some.inj (gn1.symm.trans hg1)
 obtain rfl:=Option.some.inj (gn2.symm.trans hg2)
 obtain rfl:=Option.some.inj (gn5.symm.trans hg5)
 have e0:=flat_of ht0 fl0
 have e1:=flat_of ht1 fl1
 have e2:=flat_of ht2 fl2
 have e5:=flat_of ht5 fl5
 obtain ⟨tys0,e0⟩:=e0
 obtain ⟨tys1,e1⟩:=e1
 obtain ⟨tys2,e2⟩:=e2
 obtain ⟨tys5,e5⟩:=e5
 have v0:=var_at gn0 hv0 hd0 e0 (k:=9) (vs:=laidTable 0) (by kernel_rfl)
 have v1:=var_at gn1 hv1 hd1 e1 (k:=9) (vs:=laidTable 1) (by kernel_rfl)
 have v2:=var_at gn2 hv2 hd2 e2 (k:=9) (vs:=laidTable 2) (by kernel_rfl)
 have v5:=var_at gn5 hv5 hd5 e5 (k:=9) (vs:=laidTable 5) (by kernel_rfl)
 have one:∀g,g<6→∀v∈laidTable g,v.oneCell'=true:=by
   have:(Zbd 6).all (fun g=>(laidTable g).all fun v=>v.oneCell')=true:=by kernel_rfl
   intro g hg v hv
   exact List.all_eq_true.1 (List.all_eq_true.1 this g (List.mem_range.2 hg)) v hv
 refine glob_of fun g hg j v hj=> ?_
 match g,hg with
 |0,_=>exact ⟨v0 j v hj,one 0 (by omega) v (Zbb hj)⟩
 |1,_=>exact ⟨v1 j v hj,one 1 (by omega) v (Zbb hj)⟩
 |2,_=>exact ⟨v2 j v hj,one 2 (by omega) v (Zbb hj)⟩
 |3,hg=>exact absurd rfl hg
 |4,hg=>exact absurd rfl hg
 |5,_=>exact ⟨v5 j v hj,one 5 (by omega) v (Zbb hj)⟩
 |n+6,hg=>exact absurd rfl hg
theorem flatBy:flat prog 20 33=some [.sl [.int .u8]]:=by kernel_rfl
theorem flatW3:flat prog 20 58=some [.sl [.int .u32]]:=by kernel_rfl
set_option maxRecDepth 100000
theorem jf6_0:(Rows.spreadEnoughRow.wf (OpenSpec.ofChange Rows.spreadEnoughSpec))=true:=by kernel_rfl
theorem jf6_1:(laidOutB Tryz.pinned.checked.prog)=true:=by kernel_rfl
theorem jf6_2:(mapsRowed Tryz.pinned.checked.prog)=true:=by kernel_rfl
theorem jf6_3:(Tryz.f6.params.all (Tryz.pinned.checked.prog.readableRec ·))=true:=by kernel_rfl
theorem jf6_4:(namedTie Tryz.pinned.checked.prog Rows.spreadEnoughRow.named Rows.spreadEnoughSpec.vars)=true:=by kernel_rfl
theorem jf6_5:((Rows.spreadEnoughRow.stops== []))=true:=by kernel_rfl
theorem jf6_6:((Tryz.pinned.checked.prog.stops== []))=true:=by kernel_rfl
theorem jf6_7:((Rows.spreadEnoughRow.knobs== []))=true:=by kernel_rfl
theorem jf6_8:((Tryz.pinned.checked.prog.stopKnobs== []))=true:=by kernel_rfl
theorem jf6_9:((Rows.spreadEnoughRow.inPlace==Tryz.pinned.checked.prog.inPlace 6))=true:=by kernel_rfl
theorem jf6_10:((Rows.spreadEnoughRow.unfollowed==Tryz.pinned.checked.prog.unfollowed 6))=true:=by kernel_rfl
theorem jf6_11:((Rows.spreadEnoughRow.recurses==Tryz.pinned.checked.prog.recurses 6))=true:=by kernel_rfl
theorem jf6_12:((Rows.spreadEnoughRow.named==Tryz.pinned.checked.prog.varsNamed 6))=true:=by kernel_rfl
theorem jf6_13:((Rows.spreadEnoughRow.maps==(Tryz.f6.params.toList++Rows.spreadEnoughSpec.plain.varTypes Tryz.pinned.checked.prog).any (Tryz.pinned.checked.prog.mapsRec ·)))=true:=by kernel_rfl
theorem jf6_14:((Rows.spreadEnoughRow.ifaces==(Tryz.f6.params.toList++Rows.spreadEnoughSpec.plain.varTypes Tryz.pinned.checked.prog).any (Tryz.pinned.checked.prog.ifacesRec ·)))=true:=by kernel_rfl
theorem jf6_15:((Rows.spreadEnoughRow.mapsOut==Tryz.pinned.checked.prog.mapsAmong Tryz.f6.resultTypes.toList))=true:=by kernel_rfl
theorem jf6_16:((Rows.spreadEnoughRow.loops==(Tryz.f6.params.toList++Rows.spreadEnoughSpec.plain.varTypes Tryz.pinned.checked.prog).any (Tryz.pinned.checked.prog.loopsFrom ·)))=true:=by kernel_rfl
theorem jf6_17:((Rows.spreadEnoughRow.wideKeys==(Tryz.f6.params.toList++Rows.spreadEnoughSpec.plain.varTypes Tryz.pinned.checked.prog++Tryz.f6.resultTypes.toList).any (Tryz.pinned.checked.prog.wideKeysFrom ·)))=true:=by kernel_rfl
theorem jf6_18:(Rows.spreadEnoughSpec.vars.all (Tryz.pinned.checked.prog.varReadable ·))=true:=by kernel_rfl
theorem jf6_19:(Tryz.f6.resultTypes.all (fun t=>Tryz.pinned.checked.prog.readableRec t&&decide (t<Tryz.pinned.checked.prog.types.size)))=true:=by kernel_rfl
theorem jf6_20:((Rows.spreadEnoughRow.ifacesOut==Tryz.f6.resultTypes.toList.any (Tryz.pinned.checked.prog.ifacesRec ·)))=true:=by kernel_rfl
theorem jf6_21:((Rows.spreadEnoughRow.loopsOut==Tryz.f6.resultTypes.toList.any (Tryz.pinned.checked.prog.loopsFrom ·)))=true:=by kernel_rfl
theorem jf6_22:((Rows.spreadEnoughRow.plainKeys==Tryz.pinned.checked.prog.plainKeys))=true:=by kernel_rfl
theorem jf6_23:(Rows.spreadEnoughRow.shortTexts.isNone)=true:=by kernel_rfl
theorem jf6_24:(Tryz.pinned.checked.prog.stopsHeard)=true:=by kernel_rfl
theorem jf6_25:(Tryz.pinned.checked.prog.mayEnter)=true:=by kernel_rfl
theorem jf6_26:((Rows.spreadEnoughRow.lifted==Tryz.pinned.checked.prog.liftsFinal))=true:=by kernel_rfl
theorem jf6_27:((Tryz.pinned.checked.prog.make==some Rows.spreadEnoughRow.make))=true:=by kernel_rfl
theorem jf6_28:((Rows.spreadEnoughRow.kinds==(if Rows.spreadEnoughRow.domain.isEmpty then [] else Tryz.f6.params.toList.map fun t=>match Tryz.pinned.checked.prog.underlying t with|some (.int k)=>some k|_=>none)))=true:=by kernel_rfl
theorem jf6_29:((Rows.spreadEnoughRow.pinned==Rows.spreadEnoughRow.pinnedBy))=true:=by kernel_rfl
theorem jf6_30:((Rows.spreadEnoughRow.veiled==(Tryz.f6.params.toList++Rows.spreadEnoughSpec.plain.varTypes Tryz.pinned.checked.prog++Tryz.f6.resultTypes.toList).any (Tryz.pinned.checked.prog.veiledRec ·)))=true:=by kernel_rfl
theorem jf6_31:(Rows.spreadEnoughRow.veiledFits Tryz.pinned.checked.prog Tryz.f6.params.toList (Tryz.f6.params.toList++Rows.spreadEnoughSpec.plain.varTypes Tryz.pinned.checked.prog++Tryz.f6.resultTypes.toList))=true:=by kernel_rfl
theorem and_t {a b:Bool} (h:a=true) (h1:b=true):(a&&b)=true:=by rw [h,h1];rfl
theorem closed6:joinedFacts Tryz.pinned.checked.prog 6 Tryz.f6 Rows.spreadEnoughSpec Rows.spreadEnoughRow=true:=(and_t (and_t (and_t (and_t (and_t (and_t (and_t (and_t (and_t (and_t (and_t (and_t (and_t (and_t (and_t (and_t (and_t (and_t (and_t (and_t (and_t (and_t (and_t (and_t (and_t (and_t (and_t (and_t (and_t (and_t (and_t jf6_0 jf6_1) jf6_2) jf6_3) jf6_4) jf6_5) jf6_6) jf6_7) jf6_8) jf6_9) jf6_10) jf6_11) jf6_12) jf6_13) jf6_14) jf6_15) jf6_16) jf6_17) jf6_18) jf6_19) jf6_20) jf6_21) jf6_22) jf6_23) jf6_24) jf6_25) jf6_26) jf6_27) jf6_28) jf6_29) jf6_30) jf6_31)
end Go.Proofs.YtibhflogmbfpcaaGreatDoor.Am
namespace Go.Proofs.YtibhflogmbfpcaaGreatDoor.Am
open Go Go.RowKit Go.Proofs Tryz
open AV renaming agg → Zbl, bad → Zaz, d → Zae, ptr → Zbf, rptr → Zcq
open BIf renaming f → Zea, of → Zar, t → Zbt
open BitVec renaming ofInt → Zao
open Bool renaming and_eq_true → Zam
open CallsOk renaming cons → Zag, nil → Zaj
open Go.Code renaming loop → Zbq
open Dv renaming sl → Zal
open Int renaming toNat → Zat, toNat_natCast → Zba
open Go.IntKind renaming i64 → Zax, wrap → Zaa
open List renaming length → Zac, mem_map → Zbe, mem_of_getElem? → Zbb, range → Zbd, replicate → Zad
open NotT renaming n → Zbv, r → Zca, t → Zbz, v → Zbm
open PCall renaming ofFn → Zbi
open SCallsOk renaming cons → Zcc, nil → Zaf
open SprT renaming no → Zby, ps → Zdt
open Go.Value renaming slice → Zbn
variable {β:Type} (wl:WLT β) (y:YieldT β) (b:β) (K:Exit→List AV→List Blk→β→Prop) (Q:β→Prop)
open AV (bad)
set_option linter.unusedVariables false
set_option maxRecDepth 20000
set_option maxHeartbeats 2000000
def redM (m k:Int):Int:=if and64 m (lead k) !=0 then xor64 m k else m
theorem red_fst (x r:Row):(red x r).1=redM x.1 r.1:=by unfold red redM;split<;>rfl
theorem foldl_red_fst:∀(l:List Row) (x:Row),(l.foldl red x).1=(l.map (·.1)).foldl redM x.1
 | [],x=>rfl
 |r::l,x=>by rw [List.foldl_cons,foldl_red_fst l,red_fst];rfl
def updM (x r:Int):Int:=if and64 r (lead x) !=0 then xor64 r x else r
theorem upd_fst (x r:Row):(upd x r).1=updM x.1 r.1:=by unfold upd updM;split<;>rfl
def insM (x:Int):List Int→List Int
 | []=> [x]
 |r::t=>if lead r<lead x then x::(r::t).map (updM x) else updM x r::insM x t
theorem ins_fst (x:Row):∀l:List Row,(insS x l).map (·.1)=insM x.1 (l.map (·.1))
 | []=>rfl
 | r::t=>by
   have key:∀t:List Row,(t.map (upd x)).map (·.1)=(t.map (·.1)).map (updM x.1):=by
     intro t
     rw [List.map_map,List.map_map]
     exact List.map_congr_left fun r _=>upd_fst x r
   show (if lead r.1<lead x.1 then fin x::(r::t).map (upd x) else upd x r::insS x t).map (·.1)=if lead r.1<lead x.1 then x.1::((r::t).map (·.1)).map (updM x.1) else updM x.1 r.1::insM x.1 (t.map (·.1))
   split
   · rw [List.map_cons,key];rfl
   · rw [List.map_cons,ins_fst x t,upd_fst]
def addM (l:List Int) (m:Int):List Int:=if l.foldl redM m==0 then l else insM (l.foldl redM m) l
theorem add_fst {p:List Int} {l:List Row} (h:Tru p l) {m:Int} (h0:1≤m) (h1:m<65536):(addS l m (sumB p m)).1.map (·.1)=addM (l.map (·.1)) m:=by
 have g1:=(add_count h h0 h1).1
 have hv:=(validS_good l).2 h.good
 have hfine:fine m (sumB p m)=true:=fine_of (r:=(m,sumB p m)) ⟨h0,h1⟩ (sumB_len p m)
 have hp:pad (sumB p m)=sumB p m:=pad16 (sumB_len p m)
 have ea:addS l m (sumB p m)=(if (l.foldl red (m,sumB p m)).1==0&&zero16 (l.foldl red (m,sumB p m)).2 then (l.map keepR,false,0) else if (l.foldl red (m,sumB p m)).1==0 then ([],false,12) else (insS (l.foldl red (m,sumB p m)) l,true,0)):=by
   unfold addS
   rw [hv,hfine,hp]
   have:=stepB_f (l.foldl red (m,sumB p m)) l []
   simp only [List.nil_append] at this
   simp only [Bool.not_true,Bool.or_self,Bool.false_eq_true,if_false]
   rw [←this];rfl
 have e0:(l.foldl red (m,sumB p m)).1=(l.map (·.1)).foldl redM m:=foldl_red_fst l _
 rw [ea] at g1 ⊢
 rw [addM,←e0]
 split
 · rename_i hz
   simp only [Zam] at hz
   rw [if_pos hz.1,keep_id h.good]
 · rename_i hz
   rw [if_neg hz] at g1
   split
   · rename_i hz2
     rw [if_pos hz2] at g1;cases g1
   · rename_i hz2
     exact ins_fst _ l
theorem sumB_nil (m:Int):sumB [] m=Zad 16 0:=by
 have hr:∀i,rowN [] i=Zad 16 0:=fun i=>by rw [rowN];simp only [nth,List.getD_nil];rfl
 have hx:xorL (Zad 16 0) (Zad 16 0)=Zad 16 0:=by decide
 have key:∀l:List Nat,l.foldl (stepM [] m) (Zad 16 0)=Zad 16 0:=by
   intro l
   induction l with
   |nil=>rfl
   | cons i l ih=>
     rw [List.foldl_cons]
     have:stepM [] m (Zad 16 0) i=Zad 16 0:=by
       unfold stepM
       split
       · rw [hr,hx]
       · rfl
     rw [this,ih]
 exact key _
set_option maxRecDepth 100000
set_option maxHeartbeats 4000000
def u32 (x:Int):Dv:= .s (.int .u32 x)
def w32R (l:List Int):List (List Dv):=l.map fun x=> [u32 x]
def TE6:List (Nat×(List AV→(AV→Prop)→Prop)):= [(28,lessC cFeed),(33,cSet),(32,lessC c12)]
theorem TE6_ok:CallsOk prog TE6:=Zag (lessC_ok cFeed_ok) (Zag cSet_ok (Zag (lessC_ok c12_ok) Zaj))
noncomputable def lpE6:Code:=sub [1,1,1,1,1,1,1,1,0,1,2,3] (code Tryz.f6)
def tmE6 (ps w:List (List Dv)) (x:AV) (n i:Int):List AV:= [.bad, .bad, .bad, .bad, .d (bo false), .d (bo true), .bad, .bad, .d (.sl 1 ps), .bad, .ptr 1 0,x]++Zad 37 .bad++ [.d (.sl 1 w), .d (i64 n), .d (i64 i)]++Zad 46 .bad
abbrev Qz16 (v0:List (List Dv)) (v1:List Row) (v2:List (List Dv)) (v3:Int) (v4:Int):List AV:=bds 4 (Zae (bo false)::Zae (bo true)::Zaz::Zaz::Zae (Zal 1 v0)::Zaz::Zbf 1 0::Zae (Zal 2 (rowsR v1))::bds 37 (Zae (Zal 1 v2)::Zae (i64 v3)::Zae (i64 v4)::bds 46 []))
abbrev Qz22 (v0:List Row) (v1:Int):List AV:= [Zae (Zal 2 (rowsR v0)),Zbl [Zae (i64 v1),AV.full 1 [[u8 0], [u8 0], [u8 0], [u8 0], [u8 0], [u8 0], [u8 0], [u8 0], [u8 0], [u8 0], [u8 0], [u8 0], [u8 0], [u8 0], [u8 0], [u8 0]]]]
abbrev Qz29 (v0:List (List Dv)) (v1:List Row×Bool×Int) (v2:List (List Dv)) (v3:Int) (v4:Int):List AV:=bds 4 (Zae (bo false)::Zae (bo true)::Zaz::Zaz::Zae (Zal 1 v0)::Zaz::Zbf 1 0::Zae (Zal 2 (rowsR (Prod.fst v1)))::bds 37 (Zae (Zal 1 v2)::Zae (i64 v3)::Zae (i64 v4)::bds 46 []))
theorem rE6 (ps w:List (List Dv)) (l:List Row) (n i:Int) (no:NotT) (s:StT):wpc prog ⟨TE6, [],wl,y,false⟩ 200 lpE6 (tmE6 ps w (.d (.sl 2 (rowsR l))) n i) [⟨noL no,false,false,0⟩,stB s] b (maskK 2 [4,5,8,10,11,49,50,51] K)=(BIf (decide (i<n)) (BIf (true&&decide (0≤i)) (∃(x0:Int),w[Zat i]? =some [u32 x0]∧BIf (decide (x0<(64:Int))) (∃(args3:List AV),LeVs [Zbl (stL s),Zae (Zal 1 ps),Zae (i64 0),AV.full 1 [[i64 (Zaa .i64 x0)]]] args3∧∃(no4:NotT) (ps5:List (List Int)) (k6:Nat) (t7:TrT) (st8:StT) (ss9:List Int) (z10:StT),args3= [Zbl (stL st8),Zae (Zal 1 (partsR ps5)),Zae (i64 (k6:Int)),Zae (Zal 1 (intsR ss9))]∧((Lays no4 ps5∧k6<Zac ps5∧(∀(x:Int),x∈nthL ps5 k6→(0:Int)≤x∧x<(256:Int))∧validT t7=true∧(∀(s:Int),s∈ss9→seedS s=true)∧Zac ss9≤1000∧(st8=laySt no4 ps5 (k6+1) [] [] t7∨∃(l11:List Row) (q12:List Int),st8=laySt no4 ps5 k6 l11 q12 t7∧Tru (nthL ps5 k6) l11∧Zac l11<16∧(l11≠ []→q12=proofL ps5 k6)∧(l11≠ []∨q12= [])))∧z10=feedT ps5 k6 st8 ss9)∧∃(x13:Int) (z14:Int), [Zae (i64 (Zaa .i64 x0))]= [Zae (i64 x13)]∧z14=setS x13∧∃(args15:List AV),LeVs (Qz22 l z14) args15∧∃(l16:List Row) (m17:Int) (b18:List Int) (x19:List Row×Bool×Int),args15= [Zae (Zal 2 (rowsR l16)),Zbl [Zae (i64 m17),Zae (Zal 1 (bytesR b18))]]∧2*Zac l16≤1000000∧x19=addS l16 m17 b18∧BIf (Prod.snd (Prod.snd x19) !=(0:Int)) (K .ret (Qz16 ps l w n i) [Blk.mk (noL no) false false 0,stB s] b) (BIf (!(((Zac (partsR (StT.ps z10)):Nat):Int)==(1:Int))==(((Zac (rowsR (Prod.fst x19)):Nat):Int)==(16:Int))) (K .ret (Qz29 ps x19 w n i) [Blk.mk (noL no) false false 0,stB z10] b) (K .normal (bds 4 (Zae (bo false)::Zae (bo true)::Zaz::Zaz::Zae (Zal 1 ps)::Zaz::Zbf 1 0::Zae (Zal 2 (rowsR (Prod.fst x19)))::bds 37 (Zae (Zal 1 w)::Zae (i64 n)::Zae (i64 (Zaa .i64 (i+1)))::bds 46 []))) [Blk.mk (noL no) false false 0,stB z10] b))) (∃(args20:List AV),LeVs [Zbl (stL s),Zae (Zal 1 ps),Zae (i64 0),AV.full 1 [[i64 (Int.tmod (Zaa .i64 x0) (1000000001:Int))]]] args20∧∃(no21:NotT) (ps22:List (List Int)) (k23:Nat) (t24:TrT) (st25:StT) (ss26:List Int) (z27:StT),args20= [Zbl (stL st25),Zae (Zal 1 (partsR ps22)),Zae (i64 (k23:Int)),Zae (Zal 1 (intsR ss26))]∧((Lays no21 ps22∧k23<Zac ps22∧(∀(x:Int),x∈nthL ps22 k23→(0:Int)≤x∧x<(256:Int))∧validT t24=true∧(∀(s:Int),s∈ss26→seedS s=true)∧Zac ss26≤1000∧(st25=laySt no21 ps22 (k23+1) [] [] t24∨∃(l28:List Row) (q29:List Int),st25=laySt no21 ps22 k23 l28 q29 t24∧Tru (nthL ps22 k23) l28∧Zac l28<16∧(l28≠ []→q29=proofL ps22 k23)∧(l28≠ []∨q29= [])))∧z27=feedT ps22 k23 st25 ss26)∧∃(x30:Int) (z31:Int), [Zae (i64 (Int.tmod (Zaa .i64 x0) (1000000001:Int)))]= [Zae (i64 x30)]∧z31=setS x30∧∃(args32:List AV),LeVs (Qz22 l z31) args32∧∃(l33:List Row) (m34:Int) (b35:List Int) (x36:List Row×Bool×Int),args32= [Zae (Zal 2 (rowsR l33)),Zbl [Zae (i64 m34),Zae (Zal 1 (bytesR b35))]]∧2*Zac l33≤1000000∧x36=addS l33 m34 b35∧BIf (Prod.snd (Prod.snd x36) !=(0:Int)) (K .ret (Qz16 ps l w n i) [Blk.mk (noL no) false false 0,stB s] b) (BIf (!(((Zac (partsR (StT.ps z27)):Nat):Int)==(1:Int))==(((Zac (rowsR (Prod.fst x36)):Nat):Int)==(16:Int))) (K .ret (Qz29 ps x36 w n i) [Blk.mk (noL no) false false 0,stB z27] b) (K .normal (bds 4 (Zae (bo false)::Zae (bo true)::Zaz::Zaz::Zae (Zal 1 ps)::Zaz::Zbf 1 0::Zae (Zal 2 (rowsR (Prod.fst x36)))::bds 37 (Zae (Zal 1 w)::Zae (i64 n)::Zae (i64 (Zaa .i64 (i+1)))::bds 46 []))) [Blk.mk (noL no) false false 0,stB z27] b)))) False) (K (Exit.exit 0) (Qz16 ps l w n i) [Blk.mk (noL no) false false 0,stB s] b)):=by kernel_rfl
def InvE (no:NotT) (ps:List (List Int)) (t:TrT) (st:StT) (lz:List Row):Prop:=Tru [] lz∧((st=laySt no ps 1 [] [] t∧lz.length=16)∨
 ∃l q,st=laySt no ps 0 l q t∧Tru (nthL ps 0) l∧l.length<16∧(l≠ []→q=proofL ps 0)∧(l≠ []∨q= [])∧l.map (·.1)=lz.map (·.1))
theorem InvE.fed {no:NotT} {ps:List (List Int)} {t:TrT} {st:StT} {lz:List Row} (h:InvE no ps t st lz):Fed no ps 0 t st:=by
 rcases h.2 with ⟨h1,_⟩|⟨l,q,h1,h2,h3,h4,h5,_⟩
 · exact .inl h1
 · exact .inr ⟨l,q,h1,h2,h3,h4,h5⟩
theorem InvE.step {no:NotT} {ps:List (List Int)} {t:TrT} {st:StT} {lz:List Row} (hL:Lays no ps) (hb:bytesOk (nthL ps 0)) (ht:validT t=true) (h:InvE no ps t st lz) {m:Int} (hm:seedS m=true):
   InvE no ps t (feedT ps 0 st [m]) (addS lz (setS m) (Zad 16 0)).1∧(addS lz (setS m) (Zad 16 0)).2.2=0∧((feedT ps 0 st [m]).ps.length=1↔(addS lz (setS m) (Zad 16 0)).1.length=16):=by
 obtain ⟨s0,s1⟩:=setS_range hm
 have s1':setS m<65536:=by omega
 obtain ⟨b1,b2⟩:=lays_16 hL
 have hk:0<ps.length:=b2
 rw [←sumB_nil (setS m)]
 obtain ⟨z1,z2,z3,z4⟩:=add_count h.1 s0 s1'
 have ef:feedT ps 0 st [m]=(recvT st (blkOf ps 0 m)).1:=rfl
 rw [ef]
 refine ⟨?_,z1, ?_⟩
 all_goals rcases h.2 with ⟨rfl,hz⟩|⟨l,q,rfl,g2,g3,g4,g5,g6⟩
 · rw [done_refused (k:=0) hL hk ht hm]
   have:=z2.good.len
   exact ⟨z2, .inl ⟨rfl,by omega⟩⟩
 · obtain ⟨c1,c2,c3,c4⟩:=add_count g2 s0 s1'
   have e1:=add_fst g2 s0 s1'
   have e2:=add_fst h.1 s0 s1'
   rw [g6,←e2] at e1
   have el:(addS l (setS m) (sumB (nthL ps 0) (setS m))).1.length=(addS lz (setS m) (sumB [] (setS m))).1.length:=by
     have:=congrArg Zac e1;simpa using this
   have hh:=lay_recv (k:=0) hL hk hb g2 g3 g4 g5 ht hm
   have hf:=(InvE.fed h).step hL hk hb ht hm
   rw [hh] at hf ⊢
   by_cases h16:(addS l (setS m) (sumB (nthL ps 0) (setS m))).1.length=16
   · rw [if_pos h16];exact ⟨z2, .inl ⟨rfl,by omega⟩⟩
   · rw [if_neg h16] at hf ⊢
     refine ⟨z2, .inr ⟨_,_,rfl,c2,by have:=c2.good.len;omega,fun _=>rfl, .inl ?_,e1⟩⟩
     intro he
     have h0:l= []:=by
       have:(addS l (setS m) (sumB (nthL ps 0) (setS m))).1.length=0:=by rw [he];rfl
       exact List.length_eq_zero_iff.1 (by omega)
     subst h0
     have:=first_new (p:=nthL ps 0) s0 s1'
     rw [he,this] at c4
     simp at c4
 · rw [done_refused (k:=0) hL hk ht hm]
   have:=z2.good.len
   rw [lay_st_len (k:=0+1) (by omega)]
   constructor
   · intro _;omega
   · intro _;rfl
 · obtain ⟨c1,c2,c3,c4⟩:=add_count g2 s0 s1'
   have e1:=add_fst g2 s0 s1'
   have e2:=add_fst h.1 s0 s1'
   rw [g6,←e2] at e1
   have el:(addS l (setS m) (sumB (nthL ps 0) (setS m))).1.length=(addS lz (setS m) (sumB [] (setS m))).1.length:=by
     have:=congrArg Zac e1;simpa using this
   rw [lay_recv (k:=0) hL hk hb g2 g3 g4 g5 ht hm]
   by_cases h16:(addS l (setS m) (sumB (nthL ps 0) (setS m))).1.length=16
   · rw [if_pos h16,lay_st_len (k:=0+1) (by omega),←el]
     exact ⟨fun _=>h16,fun _=>rfl⟩
   · rw [if_neg h16,lay_st_len (k:=0) (by omega),←el]
     exact ⟨fun h=>by omega,fun h=>absurd h h16⟩
def seedW (x:Int):Int:=Int.tmod (Zaa Zax x) 1000000001
theorem seedW_ok {x:Int} (h:0≤x∧x<4294967296):seedS (seedW x)=true:=by
 rw [seedS_iff,seedW,wr64 (by omega) (by omega),Int.tmod_eq_emod_of_nonneg h.1];omega
theorem w32_at {ws rest:List Int} {x:Int} {k:Nat} (hd:ws.drop k=x::rest):(w32R ws)[k]? =some [u32 x]:=by
 obtain ⟨h1,h2,_⟩:=drop_cons hd
 simp [w32R,h2]
theorem w32R_len (l:List Int):(w32R l).length=l.length:=by simp [w32R]
def hpE6 (no:NotT) (s:StT):List Blk:= [⟨noL no,false,false,0⟩,stB s]
theorem wrE6 {Ev:Env prog} {b:Ev.β} {Q:Exit→St Ev.β→Prop} {no:NotT} {ps:List (List Int)} {t:TrT} (hL:Lays no ps) (hb:bytesOk (nthL ps 0)) (ht:validT t=true) (w:List Int) (hl:w.length≤40) (hw:∀x∈w,0≤x∧x<4294967296):
   ∀(rest:List Int) (k:Nat) (st:StT) (lz:List Row),w.drop k=rest→InvE no ps t st lz→
   (∀(st:StT) (lz:List Row) (i:Int),Q (.exit 0) ⟨tmE6 (partsR ps) (w32R w) (.d (.sl 2 (rowsR lz))) w.length i,hpE6 no st,b⟩)→
   WR Ev lpE6 (rest.length+1) ⟨tmE6 (partsR ps) (w32R w) (.d (.sl 2 (rowsR lz))) w.length k,hpE6 no st,b⟩ Q
 | [],k,st,lz,hd,hi,h1=>by
   have hk:=drop_nil hd
   refine WR.ofMask [4,5,8,10,11,49,50,51] mixed (CX.Ok.of (u:=false) TE6_ok Zaf) (k:=200) ?_
   refine Eq.mpr (rE6 _ _ _ _ (partsR ps) (w32R w) lz w.length k no st) ?_
   exact Zea (by simp;omega) (h1 st lz k)
 | x::rest,k,st,lz,hd,hi,h1=>by
   obtain ⟨hk,hr2,hd'⟩:=drop_cons hd
   have hx:=hw x (Zbb hr2)
   obtain ⟨b1,b2⟩:=lays_16 hL
   have hlz:=hi.1.good.len
   refine WR.ofMask [4,5,8,10,11,49,50,51] mixed (CX.Ok.of (u:=false) TE6_ok Zaf) (k:=200) ?_
   refine Eq.mpr (rE6 _ _ _ _ (partsR ps) (w32R w) lz w.length k no st) ?_
   have e1:Zaa Zax ((k:Int)+1)=((k+1:Nat):Int):=wrapN (by omega)
   rw [Zba]
   have fin:∀ {m:Int},seedS m=true→∀(A B C:Prop),(B→B)→(WR Ev lpE6 (rest.length+1) ⟨tmE6 (partsR ps) (w32R w) (.d (.sl 2 (rowsR (addS lz (setS m) (Zad 16 0)).1))) w.length ((k+1:Nat):Int),hpE6 no (feedT ps 0 st [m]),b⟩ Q→C)→
       BIf ((addS lz (setS m) (Zad 16 0)).2.2 !=0) A (BIf (!(((partsR (feedT ps 0 st [m]).ps).length:Int)==1)==(((rowsR (addS lz (setS m) (Zad 16 0)).1).length:Int)==16)) B C):=by
     intro m hm A B C _ hC
     obtain ⟨i1,i2,i3⟩:=hi.step hL hb ht hm
     rw [i2,partsR_len,rowsR_len]
     refine Zea (by decide) (Zea ?_ (hC (wrE6 hL hb ht w hl hw rest (k+1) _ _ hd' i1 h1)))
     by_cases h:(feedT ps 0 st [m]).ps.length=1
     · rw [h,i3.1 h];rfl
     · have h2:¬(addS lz (setS m) (Zad 16 0)).1.length=16:=fun h'=>h (i3.2 h')
       have a1:(((feedT ps 0 st [m]).ps.length:Int)==1)=false:=by rw [beq_eq_false_iff_ne];omega
       have a2:(((addS lz (setS m) (Zad 16 0)).1.length:Int)==16)=false:=by rw [beq_eq_false_iff_ne];omega
       rw [a1,a2];rfl
   have hx64:Zaa .i64 x=x:=wr64 (by omega) (by omega)
   refine Zbt (by simp;omega) (Zbt (by simp) ⟨x,w32_at hd,Zar (fun g=> ?_) fun g=> ?_⟩)
   · have g:=of_decide_eq_true g
     have hm:seedS (Zaa .i64 x)=true:=by rw [hx64];exact seedS_iff.2 (by omega)
     refine ⟨_, .cons .rfl (.cons .rfl (.cons .rfl (.cons .full .nil))),no,ps,0,t,st, [Zaa .i64 x],feedT ps 0 st [Zaa .i64 x],rfl,⟨⟨hL,b2,hb,ht,fun s hs=>by rw [List.mem_singleton.1 hs];exact hm,by simp,hi.fed⟩,rfl⟩,Zaa .i64 x,_,rfl,rfl,
       _, .cons .rfl (.cons (LeV.aggs (.cons .rfl (.cons .full .nil))) .nil),lz,setS (Zaa .i64 x),Zad 16 0,_,rfl,by omega,rfl, ?_⟩
     exact fin hm _ _ _ (fun h=>h) fun h=>e1▸h
   · have hm:=seedW_ok hx
     refine ⟨_, .cons .rfl (.cons .rfl (.cons .rfl (.cons .full .nil))),no,ps,0,t,st, [seedW x],feedT ps 0 st [seedW x],rfl,⟨⟨hL,b2,hb,ht,fun s hs=>by rw [List.mem_singleton.1 hs];exact hm,by simp,hi.fed⟩,rfl⟩,seedW x,_,rfl,rfl,
       _, .cons .rfl (.cons (LeV.aggs (.cons .rfl (.cons .full .nil))) .nil),lz,setS (seedW x),Zad 16 0,_,rfl,by omega,rfl, ?_⟩
     exact fin hm _ _ _ (fun h=>h) fun h=>e1▸h
end Go.Proofs.YtibhflogmbfpcaaGreatDoor.Am
namespace Go.Proofs.YtibhflogmbfpcaaGreatDoor.Am
open Go Go.RowKit Go.Proofs Go.ChangeShapes Go.WideShapes Go.ChangeAt Tryz
open AV renaming agg → Zbl, bad → Zaz, d → Zae, ptr → Zbf, rptr → Zcq
open BIf renaming f → Zea, of → Zar, t → Zbt
open BitVec renaming ofInt → Zao
open Bool renaming and_eq_true → Zam
open CallsOk renaming cons → Zag, nil → Zaj
open Go.Code renaming loop → Zbq
open Dv renaming sl → Zal
open Int renaming toNat → Zat, toNat_natCast → Zba
open Go.IntKind renaming i64 → Zax, wrap → Zaa
open List renaming length → Zac, mem_map → Zbe, mem_of_getElem? → Zbb, range → Zbd, replicate → Zad
open NotT renaming n → Zbv, r → Zca, t → Zbz, v → Zbm
open PCall renaming ofFn → Zbi
open SCallsOk renaming cons → Zcc, nil → Zaf
open SprT renaming no → Zby, ps → Zdt
open Go.Value renaming slice → Zbn
open AV (bad)
set_option linter.unusedVariables false
set_option maxRecDepth 20000
theorem wf_u32 {x:Int} (h:(Lit.int .u32 x).wf=true):0≤x∧x<4294967296:=by
 have:0≤x∧x≤4294967295:=by simpa [Lit.wf,IntKind.min,IntKind.max,IntKind.signed,IntKind.bits] using h
 omega
theorem w32_of {x:Dv} (h:HasTy (.sl [.int .u32]) x):∃p:List Int,x= .sl 1 (w32R p)∧p.length≤maxLen∧∀x∈p,0≤x∧x<4294967296:=by
 cases h with
 | sl _ xs hl h=>
   have key:∀(xs:List (List Dv)),(∀row∈xs,HasTys [.int .u32] row)→∃p:List Int,xs=w32R p∧∀x∈p,0≤x∧x<4294967296:=by
     intro xs
     induction xs with
     |nil=>exact fun _=>⟨[],rfl,fun x hx=>by cases hx⟩
     | cons row xs ih=>
       intro h
       obtain ⟨p,rfl,hp⟩:=ih fun r hr=>h r (List.mem_cons_of_mem _ hr)
       have h0:=h row (List.mem_cons_self ..)
       cases h0 with
       | cons h1 h2=>cases h2 with
         | nil=>cases h1 with
           | int _ n hw=>
             refine ⟨n::p,rfl,fun x hx=> ?_⟩
             rcases List.mem_cons.1 hx with rfl|hx
             · exact wf_u32 hw
             · exact hp x hx
   obtain ⟨p,rfl,hp⟩:=key xs h
   exact ⟨p,rfl,by simpa [w32R] using hl,hp⟩
end Go.Proofs.YtibhflogmbfpcaaGreatDoor.Am
namespace Go.Proofs.YtibhflogmbfpcaaGreatDoor.Am
open Go Go.RowKit Go.Proofs Tryz
open AV renaming agg → Zbl, bad → Zaz, d → Zae, ptr → Zbf, rptr → Zcq
open BIf renaming f → Zea, of → Zar, t → Zbt
open BitVec renaming ofInt → Zao
open Bool renaming and_eq_true → Zam
open CallsOk renaming cons → Zag, nil → Zaj
open Go.Code renaming loop → Zbq
open Dv renaming sl → Zal
open Int renaming toNat → Zat, toNat_natCast → Zba
open Go.IntKind renaming i64 → Zax, wrap → Zaa
open List renaming length → Zac, mem_map → Zbe, mem_of_getElem? → Zbb, range → Zbd, replicate → Zad
open NotT renaming n → Zbv, r → Zca, t → Zbz, v → Zbm
open PCall renaming ofFn → Zbi
open SCallsOk renaming cons → Zcc, nil → Zaf
open SprT renaming no → Zby, ps → Zdt
open Go.Value renaming slice → Zbn
variable {β:Type} (y:YieldT β) (b:β) (R:AV→β→Prop) (K:Exit→List AV→List Blk→β→Prop) (Q:β→Prop)
open AV (bad)
set_option linter.unusedVariables false
set_option maxRecDepth 100000
set_option maxHeartbeats 4000000
def wlE6 {β:Type}:WLT β:=fun c tm hp b K=>∃(no:NotT) (ps:List (List Int)) (t:TrT) (st:StT) (w:List Int),c= .loop lpE6∧maskTm [4,5,8,10,11,49,50,51] 0 tm=tmE6 (partsR ps) (w32R w) nilV (w32R w).length 0∧hp=hpE6 no st∧
 (Lays no ps∧bytesOk (nthL ps 0)∧validT t=true∧w.length≤40∧(∀x∈w,0≤x∧x<4294967296)∧st=laySt no ps 0 [] [] t)∧∀(st:StT) (lz:List Row) (i:Int),K (.exit 0) (tmE6 (partsR ps) (w32R w) (.d (.sl 2 (rowsR lz))) w.length i) (hpE6 no st) b
theorem wlE6_ok {Ev:Env prog} (c:Code) (tm:List AV) (hp:List Blk) (b:Ev.β) (K:Exit→List AV→List Blk→Ev.β→Prop) (h:wlE6 c tm hp b K):W Ev c ⟨tm,hp,b⟩ (fun e s=>K e s.tm s.hp s.b):=by
 obtain ⟨no,ps,t,st,w,rfl,htm,rfl,⟨hL,hb,ht,hl,hw,rfl⟩,hK⟩:=h
 rw [w32R_len] at htm
 refine W.cast (htm▸maskTm_le _ tm 0) (LeH.refl _) ?_
 refine W.cast (tm':=tmE6 (partsR ps) (w32R w) (.d (.sl 2 (rowsR []))) w.length 0) (LeL.at [_,_,_,_,_,_,_,_,_,_,_] _ (LeA.nilSl rfl)) (LeH.refl _) ?_
 exact W.rounds (wrE6 (Q:=fun e s=>K e s.tm s.hp s.b) hL hb ht w hl hw w 0 _ _ rfl ⟨Tru.nil _, .inr ⟨[], [],rfl,Tru.nil _,by simp,by simp, .inr rfl,rfl⟩⟩ hK)
def TL6:List (Nat×(List AV→(AV→Prop)→Prop)):= [(13,cSHead),(25,cAnnounce),(27,cSplitE),(21,lessC cSHear)]
theorem TL6_ok:CallsOk prog TL6:=Zag cSHead_ok (Zag cAnnounce_ok (Zag cSplitE_ok (Zag (lessC_ok cSHear_ok) Zaj)))
theorem f6_nfS (p w:List (List Dv)):wpFn prog ⟨TL6, [],wlE6,y,false⟩ 200 Tryz.f6 [.d (.sl 1 p), .d (.sl 1 w)] b R=(([]:List AV)= []∧∃(v0:Int) (t1:Int) (p2:List Int) (z3:NotT) (e4:Int), [Zae (i64 1),Zae (Zal 1 p),Zae (i64 0)]= [Zae (i64 v0),Zae (Zal 1 (bytesR p2)),Zae (i64 t1)]∧(Zac p2≤9223372036854775807∧(z3,e4)=annS v0 p2 t1)∧BIf (e4 !=(0:Int)) (R (.d (bo true)) b) (BIf (decide (((Zac w:Nat):Int)>(40:Int))) (R (.d (bo true)) b) (∃(p5:List Int) (q6:List (List Int)) (e7:Int), [Zae (Zal 1 p)]= [Zae (Zal 1 (bytesR p5))]∧(Zac p5≤9223372036854775807∧(q6,e7)=splitE p5)∧∃(args8:List AV),LeVs [Zbl Qz3,Zbl (noL z3),Zae (i64 0),Zae (i64 0)] args8∧∃(s9:StT) (n10:NotT) (p11:Int) (f12:Int) (z13:StT),args8= [Zbl (stL s9),Zbl (noL n10),Zae (i64 p11),Zae (i64 f12)]∧((smallS s9)∧z13=hearS s9 n10 p11 f12)∧BIf (e7 !=(0:Int)) (R (.d (bo false)) b) (BIf (((Zac (partsR q6):Nat):Int)==(0:Int)) (R (.d (bo false)) b) (∃(no14:NotT) (ps15:List (List Int)) (t16:TrT) (st17:StT) (w18:List Int),Zbq lpE6=Zbq lpE6∧(bds 4 (Zae (bo false)::Zae (bo true)::Zaz::Zaz::Zae (Zal 1 (partsR q6))::Zaz::Zbf 1 0::Zae (Dv.s (.slice none 0 0))::bds 37 (Zae (Zal 1 w)::Zae (i64 ((Zac w:Nat):Int))::Zae (i64 0)::bds 46 [])))=(bds 4 (Zae (bo false)::Zae (bo true)::Zaz::Zaz::Zae (Zal 1 (partsR ps15))::Zaz::Zbf 1 0::Zae (Dv.s (.slice none 0 0))::bds 37 (Zae (Zal 1 (w32R w18))::Zae (i64 ((Zac (w32R w18):Nat):Int))::Zae (i64 0)::bds 46 [])))∧ [Blk.mk (noL z3) false false 0,Blk.mk (stL z13) false false 0]= [Blk.mk (noL no14) false false 0,Blk.mk (stL st17) false false 0]∧(Lays no14 ps15∧(∀(x:Int),x∈nthL ps15 0→(0:Int)≤x∧x<(256:Int))∧validT t16=true∧Zac w18≤40∧(∀(x:Int),x∈w18→(0:Int)≤x∧x<(4294967296:Int))∧st17=laySt no14 ps15 0 [] [] t16)∧∀(st:StT) (lz:List Row) (i:Int),R (.d (bo true)) b))))):=by kernel_rfl
set_option maxHeartbeats 0
set_option maxHeartbeats 4000000
theorem hear_new {sd f:Int} (hsd:tseedS sd=true) (hf:frameS f=true) {no:NotT} {ps:List (List Int)} (h:Lays no ps):hearS (zst sd) no 0 f=laySt no ps 0 [] [] (newT sd f).1∧validT (newT sd f).1=true:=by
 have he:emptyS (zst sd)=true:=by
   have e:emptyS (zst sd)=tseedS sd:=rfl
   rw [e,hsd]
 have ha:=h.ann
 have hv:1≤no.v:=by simp only [announcedS,Zam,decide_eq_true_eq] at ha;omega
 have hok:okHear (zst sd) no 0 f=true:=by
   rw [okHear,show validP (zst sd)=true by rw [validP,he];rfl,ha,hf,h.cnt]
   simp
 constructor
 · rw [hearS,if_neg (by rw [hok];decide),if_pos (by show no.v>0;omega)]
   rfl
 · rw [newT,if_pos (by rw [hsd,hf];rfl)]
   exact begin_valid (.inl rfl) hf hsd
theorem ann_ok {v t:Int} {p:List Int} (h:((annS v p t).2 !=0)=false):sizedS p.length=true∧announcedS v p.length t=true:=by
 unfold annS at h
 split at h
 · rename_i g;simpa using g
 · cases h
theorem pcLaw6 (p w:List Int) (hp:p.length≤9223372036854775807) (hb:∀x∈p,0≤x∧x<256) (hw:∀x∈w,0≤x∧x<4294967296):
   PCall prog 6 [.d (.sl 1 (bytesR p)), .d (.sl 1 (w32R w))] (.d (bo true)):=by
 refine PCall.ofFnW (n:=200) (u:=false) (fun _=>wlE6) mixed TL6_ok Zaf (fun Ev=>wlE6_ok) func6 (by rfl) (by rfl) fun Ev bb=> ?_
 rw [f6_nfS]
 refine ⟨rfl,1,0,p,(annS 1 p 0).1,(annS 1 p 0).2,rfl,⟨hp,rfl⟩,Zar (fun _=>rfl) fun g1=>Zar (fun _=>rfl) fun g2=> ?_⟩
 obtain ⟨hsz,han⟩:=ann_ok g1
 obtain ⟨e1,hL⟩:=lays_page (p:=p) hsz han
 rw [w32R_len] at g2
 have g2:=of_decide_eq_false g2
 obtain ⟨h1,h2⟩:=hear_new (sd:=0) (f:=0) (by decide) (by decide) hL
 obtain ⟨b1,b2⟩:=lays_16 hL
 rw [e1]
 refine ⟨p,splitS p,0,rfl,⟨hp,by rw [splitE,if_pos hsz]⟩,_, .cons (zstLe 0) (LeVs.refl _),zst 0,_,0,0,hearS (zst 0) _ 0 0,rfl,⟨zsmall 0,rfl⟩,Zea (by decide) (Zea (by rw [partsR_len,beq_eq_false_iff_ne];omega) ?_)⟩
 rw [h1]
 exact ⟨_,splitS p,_,_,w,rfl,rfl,rfl,⟨hL,fun x hx=>split_range hb _ (nthL_mem (by omega)) x hx,h2,by omega,hw,rfl⟩,fun _ _ _=>rfl⟩
end Go.Proofs.YtibhflogmbfpcaaGreatDoor.Am
