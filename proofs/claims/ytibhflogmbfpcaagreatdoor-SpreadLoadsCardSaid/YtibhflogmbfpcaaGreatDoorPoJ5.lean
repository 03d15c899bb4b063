import Derived.Test.YtibhflogmbfpcaaGreatDoorPoJ4
import Derived.Test.YtibhflogmbfpcaaGreatDoorPoJ3
import Derived.Test.YtibhflogmbfpcaaGreatDoorPoJ2
import Derived.Test.YtibhflogmbfpcaaGreatDoorTie
import Derived.Test.YtibhflogmbfpcaaGreatDoorCards
import Derived.ProofKit
import Derived.LaidMore
import Derived.OpenShut
import Derived.Stop.Joined
import Derived.Lay
import Derived.LaidOnce
import Derived.SevenTiedAt
import Derived.JoinedOf
set_option linter.unusedSimpArgs false
set_option linter.unusedVariables false
namespace Go.Proofs.YtibhflogmbfpcaaGreatDoor.Am
open Go Go.RowKit Go.Proofs Tryz
open AV renaming agg → Zbj, bad → Zba, d → Zae, ptr → Zbe, rptr → Zcj
open BIf renaming of → Zau, t → Zbr
open AAk9 renaming cons → Zag, nil → Zai
open Dv renaming sl → Zam
open Int renaming toNat → Zat
open Go.IntKind renaming i64 → Zax, wrap → Zac
open List renaming length → Zab, replicate → Zaf
open NotT renaming n → Zda, r → Zdk, t → Zdg, v → Zcl
open AAn9 renaming cons → Zcr, nil → Zad
open StT renaming no → Zbv
open Go.Value renaming slice → Zbo
variable {β:Type} (wl:WLT β) (y:ACx9 β) (b:β) (R:AV→β→Prop) (K:Exit→List AV→List Blk→β→Prop) (Kh:Exit→List Blk→β→Prop) (Q:β→Prop)
open AV (bad)
set_option linter.unusedVariables false
set_option maxRecDepth 20000
def badB (x:BlkT):Bool:=decide (x.n<0)||(decide (x.n≥16)||(decide (x.s<0)||(decide (x.s>1000000000)||((x.d.length:Int) !=16))))
def ABu9 (s:StT) (x:BlkT):Int:=
 if (!ACv9 s||badB x)=true then 1 else if AGl9 s=true then 4 else if fullP s=true then 10 else if x.n<s.ps.length then 14 else if x.n>s.ps.length then 6 else if (!s.rows.isEmpty&& !decide (x.pf=s.pf))=true then 12 else 0
theorem BHy9 (s:StT) (x:BlkT) (hs:ABe9 s) (hx:x.pf.length≤1000000):PCall prog 48 [.rptr (stD s),bkV x] (.d (i64 (ABu9 s x))):=by
 refine PCall.ofFn (n:=100) (u:=false) mixed CDb9 Zad func48 (by rfl) (by rfl) fun Ev bb=> ?_;rw [BCq9,AAe9,AEi9,AAf9,BLz9];have bad:(!ACv9 s||badB x)=true→ABu9 s x=1:=fun h=>by rw [ABu9,if_pos h]
 refine ⟨s,_,rfl,⟨hs,rfl⟩,Zau (fun h=>by rw [bad (by rw [h];rfl)]) fun h1=>Zau (fun h=>by rw [bad (by rw [badB,h];simp)]) fun h2=>Zau (fun h=>by rw [bad (by rw [badB,h];simp)]) fun h3=>Zau (fun h=>by rw [bad (by rw [badB,h];simp)]) fun h4=>Zau (fun h=>by rw [bad (by rw [badB,h];simp)]) fun h5=>Zau (fun h=>by rw [bad (by rw [badB,h];simp)]) fun h6=> ?_⟩;have hb:¬(!ACv9 s||badB x)=true:=by rw [h1,badB,h2,h3,h4,h5,h6];decide
 refine ⟨s,_,rfl,⟨hs,rfl⟩,Zau (fun h=>by rw [ABu9,if_neg hb,if_pos h]) fun g1=>⟨s,_,rfl,rfl,Zau (fun h=>by rw [ABu9,if_neg hb,if_neg (by rw [g1];decide),if_pos h]) fun g2=>Zau (fun h=> ?_) fun g3=>Zau (fun h=> ?_) fun g4=>Zau (fun g5=>⟨_,_,_,rfl,⟨by omega,rfl⟩,Zau (fun h=> ?_) fun g6=> ?_⟩) fun g5=> ?_⟩⟩;all_goals rw [ABu9,if_neg hb,if_neg (by rw [g1];decide),if_neg (by rw [g2];decide)]
 ·rw [if_pos (of_decide_eq_true h)]
 ·rw [if_neg (of_decide_eq_false g3),if_pos (of_decide_eq_true h)]
 ·rw [if_neg (of_decide_eq_false g3),if_neg (of_decide_eq_false g4),if_pos (by rw [g5,h];rfl)]
 ·rw [if_neg (of_decide_eq_false g3),if_neg (of_decide_eq_false g4),if_neg (by rw [g6,Bool.and_false];decide)]
 ·rw [if_neg (of_decide_eq_false g3),if_neg (of_decide_eq_false g4),if_neg (by rw [g5,Bool.false_and];decide)]
def BFl9 (args:List AV) (K:AV→Prop):Prop:=∃(s:StT) (x:BlkT) (z:Int),args= [.rptr (stD s),bkV x]∧((ABe9 s∧x.pf.length≤1000000)∧z=ABu9 s x)∧K (.d (i64 z))
theorem BAb9:∀args K,BFl9 args K→∃x,PCall prog 48 args x∧K x:=by
 rintro _ K ⟨s,x,_,rfl,⟨⟨hs,hx⟩,rfl⟩,h⟩;exact ⟨_,BHy9 s x hs hx,h⟩
def anL (s:StT):List AV:=noL s.no++ [.d (.sl 1 (AAc9 s.ps)), .d (.sl 1 (AAh9 s.qs)), .d (.s (.slice none 0 0)), .d (.s (.slice none 0 0))]++trL s.tr
def anewS (s:StT):StT:=⟨s.no,s.ps,s.qs, [], [],s.tr⟩
theorem AYf9:Tryz.f50.body=some (code f50):=by rfl
theorem BUl9 (b0 b1 b2 b3 b4:Blk) (s:StT) (e:Int):SCall prog 50 [.ptr 5 0, .d (i64 e)] [b0,b1,b2,b3,b4,stB s] (.tup [.agg (anL s), .d (i64 e)]) [b0,b1,b2,b3,b4,⟨anL s,false,false,0⟩,⟨anL s,false,false,0⟩]:=by
 refine SCall.ofWp (n:=100) (u:=false) mixed Zai Zad func50 AYf9 (by rfl) fun Ev b=> ?_;rw [BSj9];exact ⟨rfl,rfl⟩
theorem BUk9 (b0 b1 b2 b3 b4 b6:Blk) (s:StT) (e:Int):SCall prog 50 [.ptr 5 0, .d (i64 e)] [b0,b1,b2,b3,b4,stB s,b6] (.tup [.agg (anL s), .d (i64 e)]) [b0,b1,b2,b3,b4,⟨anL s,false,false,0⟩,b6,⟨anL s,false,false,0⟩]:=by
 refine SCall.ofWp (n:=100) (u:=false) mixed Zai Zad func50 AYf9 (by rfl) fun Ev b=> ?_;rw [BSi9];exact ⟨rfl,rfl⟩
def sAnew (args:List AV) (hp:List Blk) (K:AV→List Blk→Prop):Prop:=match hp with
 | [b0,b1,b2,b3,b4,b5]=>∃(s:StT) (e:Int),args= [.ptr 5 0, .d (i64 e)]∧b5=stB s∧K (.tup [.agg (anL s), .d (i64 e)]) [b0,b1,b2,b3,b4,⟨anL s,false,false,0⟩,⟨anL s,false,false,0⟩]
 | [b0,b1,b2,b3,b4,b5,b6]=>∃(s:StT) (e:Int),args= [.ptr 5 0, .d (i64 e)]∧b5=stB s∧K (.tup [.agg (anL s), .d (i64 e)]) [b0,b1,b2,b3,b4,⟨anL s,false,false,0⟩,b6,⟨anL s,false,false,0⟩]
 |_=>False
theorem BOv9:∀args hp K,sAnew args hp K→∃x hp',SCall prog 50 args hp x hp'∧K x hp':=by
 intro args hp K h;unfold sAnew at h;split at h
 ·obtain ⟨s,e,rfl,rfl,h⟩:=h;exact ⟨_,_,BUl9 _ _ _ _ _ s e,h⟩
 ·obtain ⟨s,e,rfl,rfl,h⟩:=h;exact ⟨_,_,BUk9 _ _ _ _ _ _ s e,h⟩
 ·exact h.elim
def BNh9:StT:=⟨⟨0,0,0,0⟩, [], [], [], [],⟨0,0,0,0,0⟩⟩
def putT (s:StT) (p q:List Int):StT×Int:=
 if ALn9 s=false∨p.length≠256 then (BNh9,1) else if (s.ps.length:Int)=ABl9 s.no.n then (BNh9,10) else if ABx9 s.sp s.ps.length p q=false then (BNh9,12)
 else (⟨s.no,s.ps++ [p],s.qs++ [q], [], [],s.tr⟩,0)
theorem BLs9 (s:StT) (p q:List Int):spV (putS s.sp p q).1=stV (putT s p q).1∧(putS s.sp p q).2=(putT s p q).2:=by
 unfold putS putT ALn9;by_cases h1:ACj9 s.sp=false∨p.length≠256
 ·rw [if_pos h1,if_pos h1];exact ⟨rfl,rfl⟩
 ·rw [if_neg h1,if_neg h1];by_cases h2:(s.ps.length:Int)=ABl9 s.no.n
  ·rw [if_pos (show (s.sp.ps.length:Int)=ABl9 s.sp.no.n from h2),if_pos h2];exact ⟨rfl,rfl⟩
  ·rw [if_neg (show ¬(s.sp.ps.length:Int)=ABl9 s.sp.no.n from h2),if_neg h2];by_cases h3:ABx9 s.sp s.ps.length p q=false
   ·rw [if_pos (show ABx9 s.sp s.sp.ps.length p q=false from h3),if_pos h3];exact ⟨rfl,rfl⟩
   ·rw [if_neg (show ¬ABx9 s.sp s.sp.ps.length p q=false from h3),if_neg h3];exact ⟨rfl,rfl⟩
def okPut (s:StT) (q:List Int):Prop:=s.ps.length≤9223372036854775807∧q.length≤1000000∧∀x∈s.qs,x.length≤1000000
theorem BZf9 (s:StT) (p q:List Int) (h:okPut s q):PCall prog 53 [stV s, .d (.sl 1 (AAb9 p)), .d (.sl 1 (digR q))] (.tup [stV (putT s p q).1, .d (i64 (putT s p q).2)]):=by
 have:=pcPut s.sp p q h.1 h.2.1 h.2.2;rw [(BLs9 s p q).1,(BLs9 s p q).2] at this;exact this
def cPutT (args:List AV) (K:AV→Prop):Prop:=∃(s:StT) (p q:List Int) (z:StT) (e:Int),args= [stV s, .d (.sl 1 (AAb9 p)), .d (.sl 1 (digR q))]∧(okPut s q∧(z,e)=putT s p q)∧K (.tup [stV z, .d (i64 e)])
theorem BRq9:∀args K,cPutT args K→∃x,PCall prog 53 args x∧K x:=by
 rintro _ K ⟨s,p,q,z,e,rfl,⟨h1,he⟩,h⟩;have:=BZf9 s p q h1;rw [←he] at this;exact ⟨_,this,h⟩
def cRecB (args:List AV) (K:AV→Prop):Prop:=∃(l:List Row) (x:BlkT) (z:List Row) (n:Bool) (e:Int),args= [.d (.sl 2 (rowsR l)),bkV x]∧(2*l.length≤1000000∧(z,n,e)=recS l x.n x.s x.d)∧K (.tup [.d (.sl 2 (rowsR z)), .d (bo n), .d (i64 e)])
theorem BRp9:∀args K,cRecB args K→∃x,PCall prog 49 args x∧K x:=by
 rintro _ K ⟨l,x,z,n,e,rfl,⟨h1,he⟩,h⟩;have:=BHz9 l x.n x.s x.d (digR x.pf) h1;rw [←he] at this;exact ⟨_,this,h⟩
def BXe9 (args:List AV) (K:AV→Prop):Prop:=∃(l:List Row) (z:List Int) (e:Bool),args= [.d (.sl 2 (rowsR l))]∧(l.length≤9223372036854775807∧(z,e)=AFg9 l)∧K (.tup [.d (.sl 1 (AAb9 z)), .d (bo e)])
theorem BKg9:∀args K,BXe9 args K→∃x,PCall prog 52 args x∧K x:=by
 rintro _ K ⟨l,z,e,rfl,⟨h1,he⟩,h⟩;have:=BZh9 l h1;rw [←he] at this;exact ⟨_,this,h⟩
def TRc:List (Nat×(List AV→(AV→Prop)→Prop)):= [(49,cRecB),(51,AMz9),(52,BXe9),(53,cPutT)]
theorem CDc9:AAk9 prog TRc:=Zag BRp9 (Zag AHl9 (Zag BKg9 (Zag BRq9 Zai)))
def SRc:List (Nat×(List AV→List Blk→(AV→List Blk→Prop)→Prop)):= [(47,AWh9),(48,lendC BFl9),(50,sAnew)]
theorem CDm9:AAn9 prog SRc:=Zcr ALs9 (Zcr (APy9 BAb9) (Zcr BOv9 Zad))
abbrev Qz11 (v0:StT) (v1:List Row) (v2:List (List Dv)):List AV:= [Zae (i64 (Zcl (Zbv v0))),Zae (i64 (Zda (Zbv v0))),Zae (u64 (Zdk (Zbv v0))),Zae (i64 (Zdg (Zbv v0))),Zae (Zam 1 (AAc9 (StT.ps v0))),Zae (Zam 1 (AAh9 (StT.qs v0))),Zae (Zam 2 (rowsR v1)),Zae (Zam 1 v2),Zae (i64 (TrT.iv (StT.tr v0))),Zae (i64 (TrT.bg (StT.tr v0))),Zae (i64 (TrT.fi (StT.tr v0))),Zae (i64 (TrT.ct (StT.tr v0))),Zae (i64 (TrT.sd (StT.tr v0)))]
theorem AYv9 (s:StT) (x:BlkT):wpFn prog ⟨TRc,SRc,wl,y,false⟩ 100 f15 [stV s,bkV x] b R=(∃(s0:StT), [stV s]= [stV s0]∧(ABe9 s0)∧∃(s1:StT) (x2:BlkT) (z3:Int), [Zcj (stD s0),bkV x]= [Zcj (stD s1),bkV x2]∧(((ABe9 s1)∧Zab (BlkT.pf x2)≤1000000)∧z3=ABu9 s1 x2)∧BIf (z3 !=(0:Int)) (R (.tup [stV s0,Zae (i64 z3)]) b) (∃(l4:List Row) (x5:BlkT) (z6:List Row) (n7:Bool) (e8:Int), [Zae (Zam 2 (rowsR (StT.rows s0))),bkV x]= [Zae (Zam 2 (rowsR l4)),bkV x5]∧(2*Zab l4≤1000000∧(z6,n7,e8)=recS l4 (BlkT.n x5) (BlkT.s x5) (BlkT.d x5))∧BIf (e8 !=(0:Int)) (∃(s9:StT) (e10:Int), [Zbe 5 0,Zae (i64 e8)]= [Zbe 5 0,Zae (i64 e10)]∧stB s0=stB s9∧R (.tup [Zbj (Qz4 s9),Zae (i64 e10)]) b) (∃(xs11:List (List Dv)), [Zae (Zam 1 (digR (BlkT.pf x)))]= [Zae (Zam 1 xs11)]∧Zab xs11≤1000000∧∃(l12:List Row) (z13:List Int) (e14:Bool), [Zae (Zam 2 (rowsR z6))]= [Zae (Zam 2 (rowsR l12))]∧(Zab l12≤9223372036854775807∧(z13,e14)=AFg9 l12)∧BIf (!e14) (R (.tup [Zbj (Qz11 s0 z6 xs11),Zae (i64 0)]) b) (∃(s15:StT) (p16:List Int) (q17:List Int) (z18:StT) (e19:Int), [Zbj (Qz11 s0 z6 xs11),Zae (Zam 1 (AAb9 z13)),Zae (Zam 1 (digR (BlkT.pf x)))]= [stV s15,Zae (Zam 1 (AAb9 p16)),Zae (Zam 1 (digR q17))]∧((Zab (StT.ps s15)≤9223372036854775807∧Zab q17≤1000000∧∀(x:List Int),x∈StT.qs s15→Zab x≤1000000)∧(z18,e19)=putT s15 p16 q17)∧BIf (e19 !=(0:Int)) (∃(s20:StT) (e21:Int), [Zbe 5 0,Zae (i64 12)]= [Zbe 5 0,Zae (i64 e21)]∧Blk.mk (Qz11 s0 z6 xs11) false false 0=stB s20∧R (.tup [Zbj (Qz4 s20),Zae (i64 e21)]) b) (R (.tup [stV z18,Zae (i64 0)]) b))))):=by kernel_rfl
set_option maxHeartbeats 1000000
def ANr9 (s:StT) (x:BlkT):StT:=⟨s.no,s.ps,s.qs,(recS s.rows x.n x.s x.d).1,x.pf,s.tr⟩
def recvT (s:StT) (x:BlkT):StT×Int:=
 if ABu9 s x≠0 then (s,ABu9 s x) else if (recS s.rows x.n x.s x.d).2.2≠0 then (anewS s,(recS s.rows x.n x.s x.d).2.2)
 else if (AFg9 (recS s.rows x.n x.s x.d).1).2=false then (ANr9 s x,0)
 else if (putT (ANr9 s x) (AFg9 (recS s.rows x.n x.s x.d).1).1 x.pf).2≠0 then (anewS s,12) else ((putT (ANr9 s x) (AFg9 (recS s.rows x.n x.s x.d).1).1 x.pf).1,0)
theorem anLe (s:StT) (e:Int):LeV (.tup [.agg (anL s), .d (i64 e)]) (.tup [stV (anewS s), .d (i64 e)]):=
 LeV.tups (.cons (LeV.aggs (.cons .rfl (.cons .rfl (.cons .rfl (.cons .rfl (.cons .rfl (.cons .rfl (.cons (.nil rfl) (.cons (.nil rfl) (LeVs.refl _)))))))))) (.cons .rfl .nil))
theorem BDi9 (s:StT) (x:BlkT) (hs:ABe9 s) (hx:x.pf.length≤1000000):PCall prog 15 [stV s,bkV x] (.tup [stV (recvT s x).1, .d (i64 (recvT s x).2)]):=by
 refine PCall.ofFnV (n:=100) (u:=false) (fun _=>wlNo _) mixed CDc9 CDm9 (fun Ev=>AHo9 Ev) func15 (by rfl) (by rfl) fun Ev bb=> ?_;rw [AYv9];have hl:=hs.2.2.1.1;refine ⟨s,rfl,hs,s,x,_,rfl,⟨⟨hs,hx⟩,rfl⟩,Zau (fun h=> ?_) fun g1=> ?_⟩
 ·rw [recvT,if_pos (by simpa using h)];exact .rfl
 have g1:ABu9 s x=0:=by simpa using g1
 refine ⟨s.rows,x,(recS s.rows x.n x.s x.d).1,(recS s.rows x.n x.s x.d).2.1,(recS s.rows x.n x.s x.d).2.2,rfl,⟨by omega,rfl⟩,Zau (fun h=> ?_) fun g2=> ?_⟩
 ·refine ⟨s,_,rfl,rfl, ?_⟩;rw [recvT,if_neg (by rw [g1];simp),if_pos (by simpa using h)];exact anLe s _
 have g2:(recS s.rows x.n x.s x.d).2.2=0:=by simpa using g2
 have hr:=BUr9 s.rows x.n x.s x.d;refine ⟨_,rfl,by rw [ABd9];exact hx,(recS s.rows x.n x.s x.d).1,(AFg9 (recS s.rows x.n x.s x.d).1).1,(AFg9 (recS s.rows x.n x.s x.d).1).2,rfl,⟨by omega,rfl⟩,Zau (fun h=> ?_) fun g3=> ?_⟩
 ·rw [recvT,if_neg (by rw [g1];simp),if_neg (by rw [g2];simp),if_pos (nbt h)];exact .rfl
 have g3:=nbf g3;refine ⟨ANr9 s x,_,x.pf,(putT (ANr9 s x) (AFg9 (recS s.rows x.n x.s x.d).1).1 x.pf).1,(putT (ANr9 s x) (AFg9 (recS s.rows x.n x.s x.d).1).1 x.pf).2,rfl,⟨⟨by have:=hs.1.1;show s.ps.length≤_;omega,hx,hs.2.1.2⟩,rfl⟩,Zau (fun h=> ?_) fun g4=> ?_⟩
 ·refine ⟨ANr9 s x,_,rfl,rfl, ?_⟩;rw [recvT,if_neg (by rw [g1];simp),if_neg (by rw [g2];simp),if_neg (by rw [g3];simp),if_pos (by simpa using h)];exact anLe (ANr9 s x) 12
 ·rw [recvT,if_neg (by rw [g1];simp),if_neg (by rw [g2];simp),if_neg (by rw [g3];simp),if_neg (by simpa using g4)];exact .rfl
def AQk9 (args:List AV) (K:AV→Prop):Prop:=∃(s:StT) (x:BlkT) (z:StT) (e:Int),args= [stV s,bkV x]∧((ABe9 s∧x.pf.length≤1000000)∧(z,e)=recvT s x)∧K (.tup [stV z, .d (i64 e)])
theorem AMw9:∀args K,AQk9 args K→∃x,PCall prog 15 args x∧K x:=by
 rintro _ K ⟨s,x,z,e,rfl,⟨⟨h1,h2⟩,he⟩,h⟩;have:=BDi9 s x h1 h2;rw [←he] at this;exact ⟨_,this,h⟩
def noV (n:NotT):AV:= .agg (noL n)
def cAnnN (args:List AV) (K:AV→Prop):Prop:=∃(n:NotT) (z:Bool),args= [noV n]∧z=AAi9 n.v n.n n.t∧K (.d (bo z))
theorem BRz9:∀args K,cAnnN args K→∃x,PCall prog 70 args x∧K x:=by
 rintro _ K ⟨n,_,rfl,rfl,h⟩;exact ⟨_,BZd9 n.v n.n n.r n.t,h⟩
def cCntN (args:List AV) (K:AV→Prop):Prop:=∃(n:NotT) (z:Int),args= [noV n]∧z=ABl9 n.n∧K (.d (i64 z))
theorem BRx9:∀args K,cCntN args K→∃x,PCall prog 71 args x∧K x:=by
 rintro _ K ⟨n,_,rfl,rfl,h⟩;exact ⟨_,BDj9 n.v n.n n.r n.t,h⟩
def THr:List (Nat×(List AV→(AV→Prop)→Prop)):= [(70,cAnnN),(71,cCntN),(72,cTNew),(73,BMl9),(74,BRl9)]
theorem CDh9:AAk9 prog THr:=Zag BRz9 (Zag BRx9 (Zag BRk9 (Zag BFd9 (Zag AXt9 Zai))))
def SHr:List (Nat×(List AV→List Blk→(AV→List Blk→Prop)→Prop)):= [(47,AWh9),(61,lendC AXv9)]
theorem CDo9:AAn9 prog SHr:=Zcr ALs9 (Zcr (APy9 AMv9) Zad)
abbrev Qz2 (v0:StT) (v1:TrT):List AV:= [Zae (i64 (Zcl (Zbv v0))),Zae (i64 (Zda (Zbv v0))),Zae (u64 (Zdk (Zbv v0))),Zae (i64 (Zdg (Zbv v0))),Zae (Zam 1 (AAc9 (StT.ps v0))),Zae (Zam 1 (AAh9 (StT.qs v0))),Zae (Zam 2 (rowsR (StT.rows v0))),Zae (Zam 1 (digR (StT.pf v0))),Zae (i64 (TrT.iv v1)),Zae (i64 (TrT.bg v1)),Zae (i64 (TrT.fi v1)),Zae (i64 (TrT.ct v1)),Zae (i64 (TrT.sd v1))]
abbrev Qz9 (v0:NotT) (v1:TrT):List AV:= [Zae (i64 (Zcl v0)),Zae (i64 (Zda v0)),Zae (u64 (Zdk v0)),Zae (i64 (Zdg v0)),Zae (Dv.s (.slice none 0 0)),Zae (Dv.s (.slice none 0 0)),Zae (Dv.s (.slice none 0 0)),Zae (Dv.s (.slice none 0 0)),Zae (i64 (TrT.iv v1)),Zae (i64 (TrT.bg v1)),Zae (i64 (TrT.fi v1)),Zae (i64 (TrT.ct v1)),Zae (i64 (TrT.sd v1))]
abbrev Qz26 (v0:StT) (v1:Int):List AV:= [Zbj (trL (StT.tr v0)),Zae (i64 v1)]
abbrev Qz34 (v0:StT) (v1:Int):List AV:= [Zae (i64 (TrT.sd (StT.tr v0))),Zae (i64 v1)]
theorem BOl9 (s:StT) (n:NotT) (p f:Int):wpFn prog ⟨THr,SHr,wl,y,false⟩ 100 f21 [stV s,noV n, .d (i64 p), .d (i64 f)] b R=(∃(s0:StT), [stV s]= [stV s0]∧(ABe9 s0)∧∃(s1:StT) (z2:Bool), [Zcj (stD s0)]= [Zcj (stD s1)]∧((ABe9 s1)∧z2=ACv9 s1)∧BIf (!z2) (R (stV s0) b) (BIf (!(Zcl n==(0:Int)&&(Zda n==(0:Int)&&(Zdk n==(0:Int)&&(Zdg n==(0:Int)&&true))))) (∃(n3:NotT) (z4:Bool), [noV n]= [noV n3]∧z4=AAi9 (Zcl n3) (Zda n3) (Zdg n3)∧BIf (!z4) (R (stV s0) b) (BIf (decide (p<(0:Int))) (R (stV s0) b) (∃(n5:NotT) (z6:Int), [noV n]= [noV n5]∧z6=ABl9 (Zda n5)∧BIf (decide (p>z6)) (R (stV s0) b) (BIf (decide (f<(0:Int))) (R (stV s0) b) (BIf (decide (f>(999999984:Int))) (R (stV s0) b) (BIf (!(Zcl n==(0:Int)&&(Zda n==(0:Int)&&(Zdk n==(0:Int)&&(Zdg n==(0:Int)&&true))))) (BIf (decide (Zcl n>Zcl (Zbv s0))) (∃(s7:Int) (f8:Int) (z9:TrT) (e10:Int),(Qz34 s0 f)= [Zae (i64 s7),Zae (i64 f8)]∧(z9,e10)=newT s7 f8∧R (.agg (Qz9 n z9)) b) (BIf (decide (Zcl n<Zcl (Zbv s0))) (∃(t11:TrT) (f12:Int) (z13:TrT),(Qz26 s0 f)= [trV t11,Zae (i64 f12)]∧z13=AHm9 t11 f12∧R (.agg (Qz2 s0 z13)) b) (BIf (Zcl n==Zcl (Zbv s0)&&(Zda n==Zda (Zbv s0)&&(Zdk n==Zdk (Zbv s0)&&(Zdg n==Zdg (Zbv s0)&&true)))) (BIf (p !=((Zab (AAc9 (StT.ps s0)):Nat):Int)) (∃(t14:TrT) (f15:Int) (z16:TrT),(Qz26 s0 f)= [trV t14,Zae (i64 f15)]∧z16=AHm9 t14 f15∧R (.agg (Qz2 s0 z16)) b) (BIf (Zcl n==Zcl (Zbv s0)&&(Zda n==Zda (Zbv s0)&&(Zdk n==Zdk (Zbv s0)&&(Zdg n==Zdg (Zbv s0)&&true)))) (∃(t17:TrT) (z18:TrT), [Zbj (trL (StT.tr s0))]= [trV t17]∧z18=hearT t17∧R (.agg (Qz2 s0 z18)) b) (R (stV s0) b))) (BIf (Zcl n==Zcl (Zbv s0)&&(Zda n==Zda (Zbv s0)&&(Zdk n==Zdk (Zbv s0)&&(Zdg n==Zdg (Zbv s0)&&true)))) (∃(t19:TrT) (z20:TrT), [Zbj (trL (StT.tr s0))]= [trV t19]∧z20=hearT t19∧R (.agg (Qz2 s0 z20)) b) (R (stV s0) b))))) (BIf (decide (Zcl n>Zcl (Zbv s0))) (∃(s21:Int) (f22:Int) (z23:TrT) (e24:Int),(Qz34 s0 f)= [Zae (i64 s21),Zae (i64 f22)]∧(z23,e24)=newT s21 f22∧R (.agg (Qz9 n z23)) b) (BIf (decide (Zcl n<Zcl (Zbv s0))) (∃(t25:TrT) (f26:Int) (z27:TrT),(Qz26 s0 f)= [trV t25,Zae (i64 f26)]∧z27=AHm9 t25 f26∧R (.agg (Qz2 s0 z27)) b) (R (stV s0) b))))))))) (BIf (decide (p<(0:Int))) (R (stV s0) b) (∃(n28:NotT) (z29:Int), [noV n]= [noV n28]∧z29=ABl9 (Zda n28)∧BIf (decide (p>z29)) (R (stV s0) b) (BIf (decide (f<(0:Int))) (R (stV s0) b) (BIf (decide (f>(999999984:Int))) (R (stV s0) b) (BIf (!(Zcl n==(0:Int)&&(Zda n==(0:Int)&&(Zdk n==(0:Int)&&(Zdg n==(0:Int)&&true))))) (BIf (decide (Zcl n>Zcl (Zbv s0))) (∃(s30:Int) (f31:Int) (z32:TrT) (e33:Int),(Qz34 s0 f)= [Zae (i64 s30),Zae (i64 f31)]∧(z32,e33)=newT s30 f31∧R (.agg (Qz9 n z32)) b) (BIf (decide (Zcl n<Zcl (Zbv s0))) (∃(t34:TrT) (f35:Int) (z36:TrT),(Qz26 s0 f)= [trV t34,Zae (i64 f35)]∧z36=AHm9 t34 f35∧R (.agg (Qz2 s0 z36)) b) (BIf (Zcl n==Zcl (Zbv s0)&&(Zda n==Zda (Zbv s0)&&(Zdk n==Zdk (Zbv s0)&&(Zdg n==Zdg (Zbv s0)&&true)))) (BIf (p !=((Zab (AAc9 (StT.ps s0)):Nat):Int)) (∃(t37:TrT) (f38:Int) (z39:TrT),(Qz26 s0 f)= [trV t37,Zae (i64 f38)]∧z39=AHm9 t37 f38∧R (.agg (Qz2 s0 z39)) b) (BIf (Zcl n==Zcl (Zbv s0)&&(Zda n==Zda (Zbv s0)&&(Zdk n==Zdk (Zbv s0)&&(Zdg n==Zdg (Zbv s0)&&true)))) (∃(t40:TrT) (z41:TrT), [Zbj (trL (StT.tr s0))]= [trV t40]∧z41=hearT t40∧R (.agg (Qz2 s0 z41)) b) (R (stV s0) b))) (BIf (Zcl n==Zcl (Zbv s0)&&(Zda n==Zda (Zbv s0)&&(Zdk n==Zdk (Zbv s0)&&(Zdg n==Zdg (Zbv s0)&&true)))) (∃(t42:TrT) (z43:TrT), [Zbj (trL (StT.tr s0))]= [trV t42]∧z43=hearT t42∧R (.agg (Qz2 s0 z43)) b) (R (stV s0) b))))) (BIf (decide (Zcl n>Zcl (Zbv s0))) (∃(s44:Int) (f45:Int) (z46:TrT) (e47:Int),(Qz34 s0 f)= [Zae (i64 s44),Zae (i64 f45)]∧(z46,e47)=newT s44 f45∧R (.agg (Qz9 n z46)) b) (BIf (decide (Zcl n<Zcl (Zbv s0))) (∃(t48:TrT) (f49:Int) (z50:TrT),(Qz26 s0 f)= [trV t48,Zae (i64 f49)]∧z50=AHm9 t48 f49∧R (.agg (Qz2 s0 z50)) b) (R (stV s0) b)))))))))):=by kernel_rfl
def eqN (a c:NotT):Bool:=a.v==c.v&&(a.n==c.n&&(a.r==c.r&&a.t==c.t))
theorem BWs9 {a c:NotT}:eqN a c=true↔a=c:=by
 obtain ⟨a1,a2,a3,a4⟩:=a;obtain ⟨c1,c2,c3,c4⟩:=c;simp [eqN]
def AGk9 (s:StT) (n:NotT) (p f:Int):Bool:=ACv9 s&&(zeroN n||AAi9 n.v n.n n.t)&&decide (0≤p)&&decide (p≤ABl9 n.n)&&ACi9 f
def AEd9 (s:StT) (t:TrT):StT:=⟨s.no,s.ps,s.qs,s.rows,s.pf,t⟩
def hearS (s:StT) (n:NotT) (p f:Int):StT:=
 if AGk9 s n p f=false then s else if n.v>s.no.v then ⟨n, [], [], [], [],(newT s.tr.sd f).1⟩
 else if n.v<s.no.v then AEd9 s (AHm9 s.tr f) else if (!zeroN n&&eqN n s.no)=true then (if p≠s.ps.length then AEd9 s (AHm9 s.tr f) else AEd9 s (hearT s.tr)) else s
theorem BVb9 (s:StT) (n:NotT) (p f:Int) (hs:ABe9 s):PCall prog 21 [stV s,noV n, .d (i64 p), .d (i64 f)] (stV (hearS s n p f)):=by
 refine PCall.ofFnV (n:=100) (u:=false) (fun _=>wlNo _) mixed CDh9 CDo9 (fun Ev=>AHo9 Ev) func21 (by rfl) (by rfl) fun Ev bb=> ?_;rw [BOl9];refine ⟨s,rfl,hs,s,_,rfl,⟨hs,rfl⟩, ?_⟩;have hz:(Zcl n==(0:Int)&&(Zda n==(0:Int)&&(Zdk n==(0:Int)&&(Zdg n==(0:Int)&&true))))=zeroN n:=by simp only [zeroN,Bool.and_true]
 have he:(Zcl n==Zcl (Zbv s)&&(Zda n==Zda (Zbv s)&&(Zdk n==Zdk (Zbv s)&&(Zdg n==Zdg (Zbv s)&&true))))=eqN n s.no:=by simp only [eqN,Bool.and_true]
 rw [hz,he,AAe9];have bad:AGk9 s n p f=false→LeV (stV s) (stV (hearS s n p f)):=fun h=>by rw [hearS,if_pos h];exact .rfl
 have bV:(!ACv9 s)=true→LeV (stV s) (stV (hearS s n p f)):=fun h=>bad (by rw [AGk9,nbt h];rfl);have bP:decide (p<0)=true→LeV (stV s) (stV (hearS s n p f)):=fun h=>bad (by rw [AGk9,decide_eq_false (p:=0≤p) (by have:=of_decide_eq_true h;omega)];simp);have bC:decide (p>ABl9 n.n)=true→LeV (stV s) (stV (hearS s n p f)):=fun h=>bad (by rw [AGk9,decide_eq_false (p:=p≤ABl9 n.n) (by have:=of_decide_eq_true h;omega)];simp);have bF0:decide (f<0)=true→LeV (stV s) (stV (hearS s n p f)):=fun h=>bad (by rw [AGk9,show ACi9 f=false from Bool.eq_false_iff.2 fun h'=>by have:=AEg9.1 h';have:=of_decide_eq_true h;omega];simp);have bF1:decide (f>999999984)=true→LeV (stV s) (stV (hearS s n p f)):=fun h=>bad (by rw [AGk9,show ACi9 f=false from Bool.eq_false_iff.2 fun h'=>by have:=AEg9.1 h';have:=of_decide_eq_true h;omega];simp);have good:(!ACv9 s)=false→(zeroN n||AAi9 n.v n.n n.t)=true→decide (p<0)=false→decide (p>ABl9 n.n)=false→decide (f<0)=false→decide (f>999999984)=false→¬AGk9 s n p f=false:=by
  intro h1 h2 h3 h4 h5 h6;have h3:=of_decide_eq_false h3;have h4:=of_decide_eq_false h4;have h5:=of_decide_eq_false h5;have h6:=of_decide_eq_false h6;rw [AGk9,nbf h1,h2,decide_eq_true (p:=0≤p) (by omega),decide_eq_true (p:=p≤ABl9 n.n) (by omega),show ACi9 f=true from AEg9.2 (by omega)];decide
 have newer:¬AGk9 s n p f=false→decide (n.v>s.no.v)=true→LeV (Zbj [Zae (i64 n.v),Zae (i64 n.n),Zae (u64 n.r),Zae (i64 n.t),Zae (Dv.s (Zbo none 0 0)),Zae (Dv.s (Zbo none 0 0)),Zae (Dv.s (Zbo none 0 0)),Zae (Dv.s (Zbo none 0 0)),Zae (i64 (newT s.tr.sd f).1.iv),Zae (i64 (newT s.tr.sd f).1.bg),Zae (i64 (newT s.tr.sd f).1.fi),Zae (i64 (newT s.tr.sd f).1.ct),Zae (i64 (newT s.tr.sd f).1.sd)]) (stV (hearS s n p f)):=by
  intro h1 h2;rw [hearS,if_neg h1,if_pos (of_decide_eq_true h2)];exact LeV.aggs (.cons .rfl (.cons .rfl (.cons .rfl (.cons .rfl (.cons (.nil rfl) (.cons (.nil rfl) (.cons (.nil rfl) (.cons (.nil rfl) (LeVs.refl _)))))))))
 have older:¬AGk9 s n p f=false→decide (n.v>s.no.v)=false→decide (n.v<s.no.v)=true→hearS s n p f=AEd9 s (AHm9 s.tr f):=by
  intro h1 h2 h3;rw [hearS,if_neg h1,if_neg (of_decide_eq_false h2),if_pos (of_decide_eq_true h3)]
 have rest:¬AGk9 s n p f=false→decide (n.v>s.no.v)=false→decide (n.v<s.no.v)=false→hearS s n p f=if (!zeroN n&&eqN n s.no)=true then (if p≠s.ps.length then AEd9 s (AHm9 s.tr f) else AEd9 s (hearT s.tr)) else s:=by
  intro h1 h2 h3;rw [hearS,if_neg h1,if_neg (of_decide_eq_false h2),if_neg (of_decide_eq_false h3)]
 cases hzz:zeroN n<;>cases hee:eqN n s.no<;>simp only [Bool.not_true,Bool.not_false,BSt9,BKz9]<;>simp only [hzz,hee] at good rest
 ·refine Zau bV fun g1=>⟨n,_,rfl,rfl,Zau (fun h=>bad (by rw [AGk9,hzz,nbt h];simp)) fun g2=>Zau bP fun g3=>⟨n,_,rfl,rfl,Zau bC fun g4=>Zau bF0 fun g5=>Zau bF1 fun g6=> ?_⟩⟩;have g:=good g1 (by rw [nbf g2];rfl) g3 g4 g5 g6;refine Zau (fun h=>⟨_,_,_,_,rfl,rfl,newer g h⟩) fun g7=>Zau (fun h=>⟨s.tr,_,_,rfl,rfl, ?_⟩) fun g8=> ?_
  ·rw [older g g7 h];exact .rfl
  ·rw [rest g g7 g8];exact .rfl
 ·refine Zau bV fun g1=>⟨n,_,rfl,rfl,Zau (fun h=>bad (by rw [AGk9,hzz,nbt h];simp)) fun g2=>Zau bP fun g3=>⟨n,_,rfl,rfl,Zau bC fun g4=>Zau bF0 fun g5=>Zau bF1 fun g6=> ?_⟩⟩;have g:=good g1 (by rw [nbf g2];rfl) g3 g4 g5 g6;refine Zau (fun h=>⟨_,_,_,_,rfl,rfl,newer g h⟩) fun g7=>Zau (fun h=>⟨s.tr,_,_,rfl,rfl, ?_⟩) fun g8=>Zau (fun h=>⟨s.tr,_,_,rfl,rfl, ?_⟩) fun h=>⟨s.tr,_,rfl,rfl, ?_⟩
  ·rw [older g g7 h];exact .rfl
  ·rw [rest g g7 g8,if_pos (c:=(!false&&true)=true) rfl,if_pos (by simpa using h)];exact .rfl
  ·rw [rest g g7 g8,if_pos (c:=(!false&&true)=true) rfl,if_neg (by simpa using h)];exact .rfl
 ·refine Zau bV fun g1=>Zau bP fun g3=>⟨n,_,rfl,rfl,Zau bC fun g4=>Zau bF0 fun g5=>Zau bF1 fun g6=> ?_⟩;have g:=good g1 rfl g3 g4 g5 g6;refine Zau (fun h=>⟨_,_,_,_,rfl,rfl,newer g h⟩) fun g7=>Zau (fun h=>⟨s.tr,_,_,rfl,rfl, ?_⟩) fun g8=> ?_
  ·rw [older g g7 h];exact .rfl
  ·rw [rest g g7 g8];exact .rfl
 ·refine Zau bV fun g1=>Zau bP fun g3=>⟨n,_,rfl,rfl,Zau bC fun g4=>Zau bF0 fun g5=>Zau bF1 fun g6=> ?_⟩;have g:=good g1 rfl g3 g4 g5 g6;refine Zau (fun h=>⟨_,_,_,_,rfl,rfl,newer g h⟩) fun g7=>Zau (fun h=>⟨s.tr,_,_,rfl,rfl, ?_⟩) fun g8=> ?_
  ·rw [older g g7 h];exact .rfl
  ·rw [rest g g7 g8];exact .rfl
def BRn9 (args:List AV) (K:AV→Prop):Prop:=∃(s:StT) (n:NotT) (p f:Int) (z:StT),args= [stV s,noV n, .d (i64 p), .d (i64 f)]∧(ABe9 s∧z=hearS s n p f)∧K (stV z)
theorem AXw9:∀args K,BRn9 args K→∃x,PCall prog 21 args x∧K x:=by
 rintro _ K ⟨s,n,p,f,_,rfl,⟨h1,rfl⟩,h⟩;exact ⟨_,BVb9 s n p f h1,h⟩
structure NearT where
 x0:Int
 x1:Int
 x2:Int
 x3:Int
 x4:Int
 x5:Int
 x6:Int
 x7:Int
 x8:Int
 x9:Int
 x10:Int
 x11:Int
 s12:List (List Dv)
 s13:List (List Dv)
 s14:List (List Dv)
 s15:List (List Dv)
 b16:Bool
 s17:List (List Dv)
 s18:List (List Dv)
 s19:List (List Dv)
 no:NotT
 pg:Int
 x25:Int
 x26:Int
 x27:Int
 s28:List (List Dv)
 s29:List (List Dv)
 b30:Bool
def nearD (x:NearT):List Dv:= [i64 x.x0,i64 x.x1,i64 x.x2,i64 x.x3,i64 x.x4,i64 x.x5,i64 x.x6,i64 x.x7,i64 x.x8,i64 x.x9,i64 x.x10,i64 x.x11, .sl 4 x.s12, .sl 5 x.s13, .sl 3 x.s14, .sl 4 x.s15,bo x.b16, .sl 8 x.s17, .sl 8 x.s18, .sl 1 x.s19,i64 x.no.v,i64 x.no.n,u64 x.no.r,i64 x.no.t,i64 x.pg,i64 x.x25,i64 x.x26,i64 x.x27, .sl 1 x.s28, .sl 1 x.s29,bo x.b30]
def nearR (l:List NearT):List (List Dv):=l.map nearD
theorem BIl9 (l:List NearT):(nearR l).length=l.length:=by simp [nearR]
def tmLk (s:StT) (near:List (List Dv)) (n i:Int):List AV:= [.yl, .rptr [.sl 31 near], .rptr [.pt (stD s)], .bad, .bad, .bad, .d (.sl 31 near), .d (i64 n), .d (i64 i)]++Zaf 21 .bad
noncomputable def lpLk:Code:=sub [1,2,3] (code f137)
theorem BEd9 (s:StT) (near:List (List Dv)):wpFn prog ⟨[], [],wl,y,false⟩ 100 f64 [.rptr (stD s), .d (.sl 31 near)] b R=(R (AV.fn (Fn.func 137) [] [Zcj [Zam 31 near],Zcj [Dv.pt (stD s)]]) b):=by kernel_rfl
theorem rLk (s:StT) (near:List (List Dv)) (n i:Int):wpc prog ⟨[], [],wl,y,false⟩ 100 lpLk (tmLk s near n i) [] b (maskK 0 [0,1,2,6,7,8] K)=(BIf (decide (i<n)) (BIf (true&&decide (0≤i)) (∃(x0:Int) (x1:Int) (x2:Int) (x3:Int) (x4:Int) (x5:Int) (x6:Int) (x7:Int) (x8:Int) (x9:Int) (x10:Int) (x11:Int) (xs12:List (List Dv)) (xs13:List (List Dv)) (xs14:List (List Dv)) (xs15:List (List Dv)) (b16:Bool) (xs17:List (List Dv)) (xs18:List (List Dv)) (xs19:List (List Dv)) (x20:Int) (x21:Int) (x22:Int) (x23:Int) (x24:Int) (x25:Int) (x26:Int) (x27:Int) (xs28:List (List Dv)) (xs29:List (List Dv)) (b30:Bool),near[Zat i]? =some [i64 x0,i64 x1,i64 x2,i64 x3,i64 x4,i64 x5,i64 x6,i64 x7,i64 x8,i64 x9,i64 x10,i64 x11,Zam 4 xs12,Zam 5 xs13,Zam 3 xs14,Zam 4 xs15,bo b16,Zam 8 xs17,Zam 8 xs18,Zam 1 xs19,i64 x20,i64 x21,u64 x22,i64 x23,i64 x24,i64 x25,i64 x26,i64 x27,Zam 1 xs28,Zam 1 xs29,bo b30]∧BIf (x20==Zcl (Zbv s)&&(x21==Zda (Zbv s)&&(x22==Zdk (Zbv s)&&(x23==Zdg (Zbv s)&&true)))) (y b [Zae (i64 x24)] fun (cont33:Bool) (b34:β)=>BIf (!cont33) (K .ret (AV.yl::Zcj [Zam 31 near]::Zcj [Dv.pt (stD s)]::bds 3 (Zae (Zam 31 near)::Zae (i64 n)::Zae (i64 i)::bds 21 [])) [] b34) (K .normal (AV.yl::Zcj [Zam 31 near]::Zcj [Dv.pt (stD s)]::bds 3 (Zae (Zam 31 near)::Zae (i64 n)::Zae (i64 (Zac .i64 (i+1)))::bds 21 [])) [] b34)) (K .normal (AV.yl::Zcj [Zam 31 near]::Zcj [Dv.pt (stD s)]::bds 3 (Zae (Zam 31 near)::Zae (i64 n)::Zae (i64 (Zac .i64 (i+1)))::bds 21 [])) [] b)) False) (K (Exit.exit 0) (AV.yl::Zcj [Zam 31 near]::Zcj [Dv.pt (stD s)]::bds 3 (Zae (Zam 31 near)::Zae (i64 n)::Zae (i64 i)::bds 21 [])) [] b)):=by kernel_rfl
theorem BVu9 {l rest:List NearT} {x:NearT} {k:Nat} (hd:l.drop k=x::rest):(nearR l)[k]? =some (nearD x):=by
 obtain ⟨h1,h2,_⟩:=ABr9 hd;simp [nearR,h2]
def lackL (s:StT) (l:List NearT):List (List AV):=(l.filter fun x=>eqN x.no s.no).map fun x=> [.d (i64 x.pg)]
theorem wrLk {Ev:Env prog} {Q:Exit→St Ev.β→Prop} (s:StT) (l:List NearT) (hl:l.length≤1000000):∀(rest:List NearT) (k:Nat) (b:Ev.β),l.drop k=rest→
 YList Ev.Y (lackL s rest) b (fun b'=>∀i:Int,Q (.exit 0) ⟨tmLk s (nearR l) l.length i, [],b'⟩∧Q .ret ⟨tmLk s (nearR l) l.length i, [],b'⟩)→WR Ev lpLk (rest.length+1) ⟨tmLk s (nearR l) l.length k, [],b⟩ Q
 | [],k,b,hd,h=>by
  have hk:=ADw9 hd;refine WR.ofMask [0,1,2,6,7,8] mixed (CX.Ok.of (u:=false) Zai Zad) (k:=100) ?_;refine Eq.mpr (rLk _ _ _ _ s (nearR l) l.length k) ?_;refine BIf.f (by simp;omega) ?_;exact (h k).1
 | x::rest,k,b,hd,h=>by
  obtain ⟨hk,h2,hd'⟩:=ABr9 hd;refine WR.ofMask [0,1,2,6,7,8] mixed (CX.Ok.of (u:=false) Zai Zad) (k:=100) ?_;refine Eq.mpr (rLk _ _ _ _ s (nearR l) l.length k) ?_;have e1:Zac Zax ((k:Int)+1)=((k+1:Nat):Int):=wrapN (by omega);rw [e1,Int.toNat_natCast];refine Zbr (by simp;omega) (Zbr (by simp) ⟨x.x0,x.x1,x.x2,x.x3,x.x4,x.x5,x.x6,x.x7,x.x8,x.x9,x.x10,x.x11,x.s12,x.s13,x.s14,x.s15,x.b16,x.s17,x.s18,x.s19,x.no.v,x.no.n,x.no.r,x.no.t,x.pg,x.x25,x.x26,x.x27,x.s28,x.s29,x.b30,BVu9 hd, ?_⟩);have he:(x.no.v==s.no.v&&(x.no.n==s.no.n&&(x.no.r==s.no.r&&(x.no.t==s.no.t&&true))))=eqN x.no s.no:=by simp only [eqN,Bool.and_true]
  rw [he];refine Zau (fun g=> ?_) fun g=> ?_
  ·have hL:lackL s (x::rest)= [.d (i64 x.pg)]::lackL s rest:=by simp [lackL,g]
   rw [hL] at h;refine Ev.Ymono h fun c b' h=> ?_;cases c with
   |true=>exact BIf.f rfl (wrLk s l hl rest (k+1) b' hd' h)
   |false=>exact Zbr rfl (h _).2
  ·have hL:lackL s (x::rest)=lackL s rest:=by simp [lackL,g]
   rw [hL] at h;exact wrLk s l hl rest (k+1) b hd' h
def wlLk {β:Type} (Y:ACx9 β):WLT β:=fun c tm hp b K=>∃(s:StT) (l:List NearT),c= .loop lpLk∧ABo9 [0,1,2,6,7,8] 0 tm=tmLk s (nearR l) (nearR l).length 0∧hp= []∧l.length≤1000000∧YList Y (lackL s l) b (fun b'=>∀i:Int,K (.exit 0) (tmLk s (nearR l) l.length i) [] b'∧K .ret (tmLk s (nearR l) l.length i) [] b')
theorem BTe9 {Ev:Env prog} (c:Code) (tm:List AV) (hp:List Blk) (b:Ev.β) (K:Exit→List AV→List Blk→Ev.β→Prop) (h:wlLk Ev.Y c tm hp b K):W Ev c ⟨tm,hp,b⟩ (fun e s=>K e s.tm s.hp s.b):=by
 obtain ⟨s,l,rfl,htm,rfl,hl,hK⟩:=h;rw [BIl9] at htm;refine W.cast (htm▸AAg9 _ tm 0) (LeH.refl _) ?_;exact W.rounds (wrLk (Q:=fun e s=>K e s.tm s.hp s.b) s l hl l 0 b rfl hK)
theorem lk_nf (s:StT) (near:List (List Dv)):wpc prog ⟨[], [],wlLk y,y,false⟩ 100 (code f137) (AAw9 f137 [.yl, .rptr [.sl 31 near], .rptr [.pt (stD s)]]) [] b (fnK prog f137 fun _ b=>Q b)=(
 ∃(s0:StT) (l1:List NearT),Code.loop lpLk= .loop lpLk∧tmLk s near near.length 0=tmLk s0 (nearR l1) (nearR l1).length 0∧([]:List Blk)= []∧l1.length≤1000000∧YList y (lackL s0 l1) b fun b'=>∀_:Int,Q b'∧Q b'):=by kernel_rfl
theorem icLk (s:StT) (l:List NearT) (hl:l.length≤1000000):ICall prog 137 [.yl, .rptr [.sl 31 (nearR l)], .rptr [.pt (stD s)]] (fun Y b Q=>YList Y (lackL s l) b Q):=by
 refine ICall.ofW (c:=code f137) func137 (by rfl) (by rfl) fun Ev b Q h=> ?_;have h1:wpc prog ⟨[], [],wlLk Ev.Y,Ev.Y,false⟩ 100 (code f137) (AAw9 f137 [.yl, .rptr [.sl 31 (nearR l)], .rptr [.pt (stD s)]]) [] b (fnK prog f137 fun _ b=>Q b):=by
  rw [lk_nf];exact ⟨s,l,rfl,rfl,rfl,hl,YList.mono (fun b h _=>⟨h,h⟩) _ _ h⟩
 refine AAo9 mixed (CX.Ok.ofWl Zai Zad BTe9) h1 fun e tm hp b hK=> ?_;obtain ⟨g1,ys,g2,z,g3,g4⟩:=ACu9 hK;exact ⟨g1,ys,g2,g4⟩
theorem BIb9 (s:StT) (near:List (List Dv)):PCall prog 64 [.rptr (stD s), .d (.sl 31 near)] (.fn (.func 137) [] [.rptr [.sl 31 near], .rptr [.pt (stD s)]]):=by
 refine PCall.ofFn (n:=100) (u:=false) mixed Zai Zad func64 (by rfl) (by rfl) fun Ev bb=> ?_;rw [BEd9]
def BFr9 (args:List AV) (K:AV→Prop):Prop:=∃(s:StT) (near:List (List Dv)),args= [.rptr (stD s), .d (.sl 31 near)]∧K (.fn (.func 137) [] [.rptr [.sl 31 near], .rptr [.pt (stD s)]])
theorem BAd9:∀args K,BFr9 args K→∃x,PCall prog 64 args x∧K x:=by
 rintro _ K ⟨s,l,rfl,h⟩;exact ⟨_,BIb9 s l,h⟩
def cEncB (args:List AV) (K:AV→Prop):Prop:=∃(p:List Int) (n s:Int) (d:List Int),args= [.d (.sl 1 (AAb9 p)), .d (i64 n), .d (i64 s)]∧(encOk p n s=true∧d=encS p s)∧K (.tup [.agg [.d (i64 n), .d (i64 s), .d (.sl 1 (AAb9 d)),nilV], .d (i64 0)])
theorem AVg9:∀args K,cEncB args K→∃x,PCall prog 34 args x∧K x:=by
 rintro _ K ⟨p,n,s,d,rfl,⟨h1,rfl⟩,h⟩;have:=BPt9 p n s;rw [encA,if_pos h1] at this;exact ⟨_,this,h⟩
def TSv:List (Nat×(List AV→(AV→Prop)→Prop)):= [(63,BWy9),(64,BFr9),(34,cEncB),(51,AMz9)]
theorem BXv9:AAk9 prog TSv:=Zag BKb9 (Zag BAd9 (Zag AVg9 (Zag AHl9 Zai)))
def SSv:List (Nat×(List AV→List Blk→(AV→List Blk→Prop)→Prop)):= [(47,AWh9),(61,lendC AXv9),(62,lendC AXx9)]
theorem BYh9:AAn9 prog SSv:=Zcr ALs9 (Zcr (APy9 AMv9) (Zcr (APy9 AMx9) Zad))
noncomputable def rfSv:Code:=sub [1,1,1,1,1,1,0,1,2] (code f17)
theorem BCc9:rfSv= .rangeFunc (.tmp 61) #[62] (AAm9 rfSv) (ABp9 rfSv):=by kernel_rfl
def tmSv (s:StT) (near:List (List Dv)) (f:Int) (e:Bool):List AV:= [.bad, .bad, .d (i64 f), .ptr 0 0, .bad, .bad, .ptr 1 0, .ptr 2 0, .d (bo false), .ptr 5 0, .ptr 6 0, .d (bo e), .ptr 7 0]++Zaf 48 .bad++ [.fn (.func 137) [] [.rptr [.sl 31 near], .rptr [.pt (stD s)]]]++Zaf 60 .bad
def nil0:AV:= .d (.s (.slice none 0 0))
def zB13:Blk:=⟨[.d (i64 0), .d (i64 0), .d (u64 0), .d (i64 0),nil0,nil0,nil0,nil0, .d (i64 0), .d (i64 0), .d (i64 0), .d (i64 0), .d (i64 0)],false,false,0⟩
def zB4:Blk:=⟨[.d (i64 0), .d (i64 0),nil0,nil0],false,false,0⟩
def hpSv (s:StT) (t:TrT) (p:Int):List Blk:= [stB s,zB13,zB4,stB s,outC s (.own 33 1 (AAc9 s.ps)) (.own 28 1 (AAh9 s.qs)) (.own 71 2 (rowsR s.rows)),⟨stL (AEd9 s t),true,false,0⟩,trB t,⟨[.d (i64 p)],false,false,0⟩]
def minS (p x:Int):Int:=if x<p then x else p
theorem BOe9 (s s1:StT) (t:TrT) (near:List (List Dv)) (f p x:Int) (e:Bool):wpcY prog ⟨TSv,SSv,wl,y,false⟩ 100 #[62] (AAm9 rfSv) (ABp9 rfSv) (tmSv s1 near f e) [.d (i64 x)] (hpSv s t p) b (takeK 8 Kh)=(
 ∃z:Int,z=minS p x∧Kh .normal (hpSv s t z) b):=by kernel_rfl
def AIv9 (l:List Int) (p:Int):Int:=l.foldl minS p
def lackP (s:StT) (l:List NearT):List Int:=(l.filter fun x=>eqN x.no s.no).map (·.pg)
theorem BQo9 (s:StT) (l:List NearT):lackL s l=(lackP s l).map fun p=> [.d (i64 p)]:=by simp [lackL,lackP]
theorem BLn9 {Ev:Env prog} {b:Ev.β} {Q:Exit→St Ev.β→Prop} (s s1:StT) (t:TrT) (near:List (List Dv)) (f:Int) (e:Bool):∀(l:List Int) (p:Int),
 Q .normal ⟨tmSv s1 near f e,hpSv s t (AIv9 l p),b⟩→
 YList (YBody Ev (tmSv s1 near f e) #[62] (AAm9 rfSv) (ABp9 rfSv) 8) (l.map fun p=> [.d (i64 p)]) (hpSv s t p,b,none) (ADq9 (tmSv s1 near f e) Q)
 | [],p,h=>h
 | x::l,p,h=>by
  refine YList.step (X:=⟨TSv,SSv,wlW Ev,Ev.Y,false⟩) (k:=100) (hn:=by exact Nat.le_refl _) mixed (CX.Ok.of BXv9 BYh9) rfl ?_;show wpcY _ _ _ _ _ _ _ [.d (i64 _)] (hpSv _ _ _) b (takeK 8 _);rw [BOe9];exact ⟨_,rfl,BLn9 s s1 t near f e l (minS p x) h⟩
def wlSv {β:Type}:WLT β:=fun c tm hp b K=>∃(s:StT) (t:TrT) (l:List NearT) (f p:Int) (e:Bool) (z:Int),c=rfSv∧ABo9 [2,3,6,7,8,9,10,11,12,61] 0 tm=tmSv (AEd9 s t) (nearR l) f e∧hp=hpSv s t p∧(l.length≤1000000∧z=AIv9 (lackP (AEd9 s t) l) p)∧
 K .normal (tmSv (AEd9 s t) (nearR l) f e) (hpSv s t z) b
theorem BSz9 {Ev:Env prog} (c:Code) (tm:List AV) (hp:List Blk) (b:Ev.β) (K:Exit→List AV→List Blk→Ev.β→Prop) (h:wlSv c tm hp b K):W Ev c ⟨tm,hp,b⟩ (fun e s=>K e s.tm s.hp s.b):=by
 obtain ⟨s,t,l,f,p,e,z,rfl,htm,rfl,⟨hl,rfl⟩,hK⟩:=h;refine W.cast (htm▸AAg9 [2,3,6,7,8,9,10,11,12,61] tm 0) (LeH.refl _) ?_;rw [BCc9];refine W.range (s:=⟨tmSv (AEd9 s t) (nearR l) f e,_,b⟩) (k:=137) (first:= []) (caps:= [.rptr [.sl 31 (nearR l)], .rptr [.pt (stD (AEd9 s t))]]) rfl rfl rfl (icLk (AEd9 s t) l hl) ?_;rw [BQo9];exact BLn9 s (AEd9 s t) t (nearR l) f e _ p hK
abbrev Qz12:List AV:= [Zae (i64 0),Zae (i64 0),Zae (Dv.s (.slice none 0 0)),Zae (Dv.s (.slice none 0 0))]
abbrev Qz36 (v0:StT) (v1:TrT):List AV:= [Zbj (stL (AEd9 v0 v1)),Zbj Qz12,Zae (bo false)]
theorem BHe9 (s:StT) (near:List (List Dv)) (f:Int):wpFn prog ⟨TSv,SSv,wlSv,y,false⟩ 100 f17 [stV s, .d (.sl 31 near), .d (i64 f)] b R=(∃(s0:StT), [stV s]= [stV s0]∧(ABe9 s0)∧∃(s1:StT) (z2:Bool), [Zcj (stD s0)]= [Zcj (stD s1)]∧((ABe9 s1)∧z2=ACv9 s1)∧BIf (!z2) (R (.tup [stV s0,Zbj Qz12,Zae (bo false)]) b) (∃(s3:StT) (z4:Bool), [Zcj (stD s0)]= [Zcj (stD s3)]∧((ABe9 s3)∧z4=AGl9 s3)∧BIf z4 (R (.tup [stV s0,Zbj Qz12,Zae (bo false)]) b) (BIf (decide (f<(0:Int))) (R (.tup [stV s0,Zbj Qz12,Zae (bo false)]) b) (BIf (decide (f>(999999984:Int))) (R (.tup [stV s0,Zbj Qz12,Zae (bo false)]) b) (∃(t5:TrT) (f6:Int) (z7:TrT) (e8:Bool),(Qz26 s0 f)= [trV t5,Zae (i64 f6)]∧(z7,e8)=tickT t5 f6∧∃(s9:StT) (near10:List (List Dv)), [Zcj [i64 (Zcl (Zbv s0)),i64 (Zda (Zbv s0)),u64 (Zdk (Zbv s0)),i64 (Zdg (Zbv s0)),Zam 1 (AAc9 (StT.ps s0)),Zam 1 (AAh9 (StT.qs s0)),Zam 2 (rowsR (StT.rows s0)),Zam 1 (digR (StT.pf s0)),i64 (TrT.iv z7),i64 (TrT.bg z7),i64 (TrT.fi z7),i64 (TrT.ct z7),i64 (TrT.sd z7)],Zae (Zam 31 near)]= [Zcj (stD s9),Zae (Zam 31 near10)]∧∃(s11:StT) (t12:TrT) (l13:List NearT) (f14:Int) (p15:Int) (e16:Bool) (z17:Int),rfSv=rfSv∧(Zba::Zba::Zae (i64 f)::Zbe 0 0::Zba::Zba::Zbe 1 0::Zbe 2 0::Zae (bo false)::Zbe 5 0::Zbe 6 0::Zae (bo e8)::Zbe 7 0::bds 48 (AV.fn (Fn.func 137) [] [Zcj [Zam 31 near10],Zcj [Dv.pt (stD s9)]]::bds 60 []))=(Zba::Zba::Zae (i64 f14)::Zbe 0 0::Zba::Zba::Zbe 1 0::Zbe 2 0::Zae (bo false)::Zbe 5 0::Zbe 6 0::Zae (bo e16)::Zbe 7 0::bds 48 (AV.fn (Fn.func 137) [] [Zcj [Zam 31 (nearR l13)],Zcj [Dv.pt (stD (AEd9 s11 t12))]]::bds 60 []))∧ [stB s,Blk.mk Qz3 false false 0,Blk.mk Qz12 false false 0,stB s0,Blk.mk (Qz10 s0) false false 0,Blk.mk (Qz2 s0 z7) true false 0,Blk.mk (trL z7) false false 0,cell (i64 ((Zab (AAc9 (StT.ps s0)):Nat):Int))]= [stB s11,Blk.mk Qz3 false false 0,Blk.mk Qz12 false false 0,stB s11,Blk.mk (Qz10 s11) false false 0,Blk.mk (stL (AEd9 s11 t12)) true false 0,Blk.mk (trL t12) false false 0,cell (i64 p15)]∧(Zab l13≤1000000∧z17=AIv9 (lackP (AEd9 s11 t12) l13) p15)∧BIf (!e16) (R (.tup (Qz36 s11 t12)) b) (BIf (decide (z17<(0:Int))) (R (.tup (Qz36 s11 t12)) b) (BIf (decide (z17≥((Zab (AAc9 (StT.ps (AEd9 s11 t12))):Nat):Int))) (R (.tup (Qz36 s11 t12)) b) (BIf (true&&decide (0≤z17)) (∃(xs18:List (List Dv)),(AAc9 (StT.ps (AEd9 s11 t12)))[Zat z17]? =some [Zam 1 xs18]∧∃(p21:List Int) (n22:Int) (s23:Int) (d24:List Int), [Zae (Zam 1 xs18),Zae (i64 z17),Zae (i64 (Int.tmod (Zac .i64 (Zac .i64 ((64:Int)*f14)+Int.tmod (TrT.sd t12) (64:Int))) (1000000001:Int)))]= [Zae (Zam 1 (AAb9 p21)),Zae (i64 n22),Zae (i64 s23)]∧(encOk p21 n22 s23=true∧d24=encS p21 s23)∧BIf (true&&decide (0≤z17)) (∃(xs25:List (List Dv)),(AAh9 (StT.qs (AEd9 s11 t12)))[Zat z17]? =some [Zam 1 xs25]∧∃(xs28:List (List Dv)), [Zae (Zam 1 xs25)]= [Zae (Zam 1 xs28)]∧Zab xs28≤1000000∧R (.tup [Zbj (stL (AEd9 s11 t12)),Zbj [Zae (i64 n22),Zae (i64 s23),Zae (Zam 1 (AAb9 d24)),Zae (Zam 1 xs28)],Zae (bo true)]) b) False) False)))))))):=by kernel_rfl
theorem BBw9 {s:StT} (h:ALn9 s=true):(s.ps.length:Int)≤ABl9 s.no.n∧ABl9 s.no.n≤16∧1≤ABl9 s.no.n∧s.qs.length=s.ps.length∧(∀p∈s.ps,p.length=256)∧AAi9 s.no.v s.no.n s.no.t=true:=by
 obtain ⟨f1,f2,f3,f4,f5⟩:=AJm9 h;obtain ⟨k,hk,hk1,hk2⟩:=AGd9 f4;have hk:s.no.n=(k:Int):=hk;have hc:=AHk9 (n:=k) (by omega);have h':=h;simp only [ALn9,ACj9,Bool.and_eq_true] at h';have h2:(s.ps.length:Int)≤ABl9 s.no.n:=by have:=h'.2.1;simp at this;exact this
 rw [hk,hc] at h2 ⊢;exact ⟨h2,by omega,by omega,f2,f3,by rw [←hk];exact f5⟩
theorem AYq9 {s:StT} (h:ACv9 s=true) (he:AGl9 s=false):ALn9 s=true∧AEs9 s.rows=true∧(s.rows.length:Int)<16∧(s.rows.isEmpty|| !fullP s)=true∧(!s.rows.isEmpty||s.pf.isEmpty)=true∧ABb9 s.tr=true:=by
 rw [ACv9,he,Bool.false_or] at h;simp only [Bool.and_eq_true,decide_eq_true_eq] at h;exact ⟨h.1,h.2.1,h.2.2.1,h.2.2.2.1,h.2.2.2.2.1,h.2.2.2.2.2⟩
theorem BQm9 (t:TrT) (f:Int):(AIx9 t f).sd=t.sd:=by
 unfold AIx9;split<;>rfl
theorem BUc9 (t:TrT) (f:Int):(tickT t f).1.sd=t.sd:=by
 unfold tickT;split
 ·exact BQm9 t f
 ·rfl
def BNi9:BlkT:=⟨0,0, [], []⟩
def seedF (f sd:Int):Int:=(64*f+sd % 64) % 1000000001
def AHr9 (s:StT) (f:Int):Bool:=ACv9 s&& !AGl9 s&&ACi9 f
def AFm9 (s:StT) (l:List NearT) (f:Int):StT×BlkT×Bool:=
 if AHr9 s f=false then (s,BNi9,false)
 else if (tickT s.tr f).2=false∨AIv9 (lackP s l) s.ps.length<0∨AIv9 (lackP s l) s.ps.length≥s.ps.length then (AEd9 s (tickT s.tr f).1,BNi9,false)
 else (AEd9 s (tickT s.tr f).1,⟨AIv9 (lackP s l) s.ps.length,seedF f s.tr.sd,encS (nthL s.ps (AIv9 (lackP s l) s.ps.length).toNat) (seedF f s.tr.sd),nthL s.qs (AIv9 (lackP s l) s.ps.length).toNat⟩,true)
theorem zbLe (x:AV) (e:Bool):LeV (.tup [x,Zbj [Zae (i64 0),Zae (i64 0),Zae (Dv.s (Zbo none 0 0)),Zae (Dv.s (Zbo none 0 0))], .d (bo e)]) (.tup [x,bkV BNi9, .d (bo e)]):=
 LeV.tups (.cons .rfl (.cons (LeV.aggs (.cons .rfl (.cons .rfl (.cons (.nil rfl) (.cons (.nil rfl) .nil))))) (.cons .rfl .nil)))
theorem BPm9 (s:StT) (l:List NearT) (f:Int) (hs:ABe9 s) (hl:l.length≤1000000):PCall prog 17 [stV s, .d (.sl 31 (nearR l)), .d (i64 f)] (.tup [stV (AFm9 s l f).1,bkV (AFm9 s l f).2.1, .d (bo (AFm9 s l f).2.2)]):=by
 refine PCall.ofFnV (n:=100) (u:=false) (fun _=>wlSv) mixed BXv9 BYh9 (fun Ev=>BSz9) func17 (by rfl) (by rfl) fun Ev bb=> ?_;rw [BHe9];have bad:AHr9 s f=false→LeV (.tup [stV s,Zbj [Zae (i64 0),Zae (i64 0),Zae (Dv.s (Zbo none 0 0)),Zae (Dv.s (Zbo none 0 0))], .d (bo false)]) (.tup [stV (AFm9 s l f).1,bkV (AFm9 s l f).2.1, .d (bo (AFm9 s l f).2.2)]):=fun h=>by
  rw [AFm9,if_pos h];exact zbLe _ _
 refine ⟨s,rfl,hs,s,_,rfl,⟨hs,rfl⟩,Zau (fun h=>bad (by rw [AHr9,nbt h];rfl)) fun g1=>⟨s,_,rfl,⟨hs,rfl⟩,Zau (fun h=>bad (by rw [AHr9,h];simp)) fun g2=>Zau (fun h=>bad ?_) fun g3=>Zau (fun h=>bad ?_) fun g4=> ?_⟩⟩
 ·rw [AHr9,show ACi9 f=false from Bool.eq_false_iff.2 fun h'=>by have:=AEg9.1 h';have:=of_decide_eq_true h;omega,Bool.and_false]
 ·rw [AHr9,show ACi9 f=false from Bool.eq_false_iff.2 fun h'=>by have:=AEg9.1 h';have:=of_decide_eq_true h;omega,Bool.and_false]
 have g3:=of_decide_eq_false g3;have g4:=of_decide_eq_false g4;have hv:=nbf g1;have hok:¬AHr9 s f=false:=by rw [AHr9,hv,g2,show ACi9 f=true from AEg9.2 (by omega)];decide
 obtain ⟨a1,a2,a3,a4,a5,a6⟩:=AYq9 hv g2;obtain ⟨b1,b2,b3,b4,b5,b6⟩:=BBw9 a1;have hsd:=(ADi9.1 a6).2.2.1;refine ⟨s.tr,f,(tickT s.tr f).1,(tickT s.tr f).2,rfl,rfl,AEd9 s (tickT s.tr f).1,_,rfl,s,(tickT s.tr f).1,l,f,s.ps.length,(tickT s.tr f).2,AIv9 (lackP s l) s.ps.length,rfl,rfl,by rw [AAe9];rfl,⟨hl,rfl⟩,Zau (fun h=> ?_) fun g5=>Zau (fun h=> ?_) fun g6=>Zau (fun h=> ?_) fun g7=> ?_⟩
 ·rw [AFm9,if_neg hok,if_pos (.inl (nbt h))];exact zbLe _ _
 ·rw [AFm9,if_neg hok,if_pos (.inr (.inl (of_decide_eq_true h)))];exact zbLe _ _
 ·rw [AFm9,if_neg hok,if_pos (.inr (.inr (by have:=of_decide_eq_true h;rw [AAe9] at this;exact this)))];exact zbLe _ _
 have g5:=nbf g5;have g6:=of_decide_eq_false g6;have g7:=of_decide_eq_false g7;rw [AAe9] at g7;have g7:¬AIv9 (lackP s l) (s.ps.length:Int)≥s.ps.length:=g7;generalize hp:AIv9 (lackP s l) (s.ps.length:Int)=p at g6 g7 ⊢;have hpl:p.toNat<s.ps.length:=by omega
 have hpq:p.toNat<s.qs.length:=by omega
 have hseed:Int.tmod (Zac Zax (Zac Zax (64*f)+Int.tmod (tickT s.tr f).1.sd 64)) 1000000001=seedF f s.tr.sd:=by
  rw [BUc9,Int.tmod_eq_emod_of_nonneg (a:=s.tr.sd) hsd.1,wr64 (x:=64*f) (by omega) (by omega),wr64 (by omega) (by omega),Int.tmod_eq_emod_of_nonneg (by omega)];rfl
 have hsr:0≤seedF f s.tr.sd∧seedF f s.tr.sd≤1000000000:=by unfold seedF;omega
 refine Zbr (by simp;omega) ⟨AAb9 (nthL s.ps p.toNat),AUn9 hpl,nthL s.ps p.toNat,p,seedF f s.tr.sd,_,by rw [hseed],⟨?_,rfl⟩,Zbr (by simp;omega) ⟨digR (nthL s.qs p.toNat),AWl9 hpq,_,rfl,by rw [ABd9];exact hs.2.1.2 _ (AEf9 hpq), ?_⟩⟩
 ·rw [encOk,b5 _ (AEf9 hpl),AGe9.2 hsr,Bool.and_true];simp [pageS];omega
 ·rw [AFm9,if_neg hok,hp,if_neg (by rw [g5];simp;omega)];exact .rfl
def BMp9 (args:List AV) (K:AV→Prop):Prop:=∃(s:StT) (l:List NearT) (f:Int) (z:StT) (x:BlkT) (e:Bool),args= [stV s, .d (.sl 31 (nearR l)), .d (i64 f)]∧((ABe9 s∧l.length≤1000000)∧(z,x,e)=AFm9 s l f)∧K (.tup [stV z,bkV x, .d (bo e)])
theorem BFj9:∀args K,BMp9 args K→∃x,PCall prog 17 args x∧K x:=by
 rintro _ K ⟨s,l,f,z,x,e,rfl,⟨⟨h1,h2⟩,he⟩,h⟩;have:=BPm9 s l f h1 h2;rw [←he] at this;exact ⟨_,this,h⟩
set_option maxHeartbeats 0
set_option maxRecDepth 100000
set_option maxRecDepth 20000
def hp0:List Int:=padS (smp.take 256)
def hp1:List Int:=padS (smp.drop 256)
def hR:Int:=(rootS [hp0,hp1]).1
def hN:NotT:=⟨3,300,hR,50⟩
def hs0:SprT:=⟨hN, [], [], [], [],0,0,0,0,0⟩
def hs1:SprT:=⟨hN, [hp0], [[leafS hp1]], [], [],0,0,0,0,0⟩
def hs2:SprT:=⟨hN, [hp0,hp1], [[leafS hp1], [leafS hp0]], [], [],0,0,0,0,0⟩
def hX:Int:=Zac IntKind.u64 ((BitVec.toNat (BitVec.ofInt 64 (leafS hp0) ^^^ BitVec.ofInt 64 (1:Int)):Nat):Int)
set_option maxRecDepth 100000
set_option maxRecDepth 20000
theorem ARi9:∀(n:Nat) (p:List Int),p.length≤n→∃z,((ADe9 256 n p).map padS).flatten=p++Zaf z 0
 | 0,p,h=>by
  have:p= []:=List.length_eq_zero_iff.1 (by omega);subst this;exact ⟨0,rfl⟩
 | n+1,p,h=>by
  rw [ADe9];cases hp:p with
  |nil=>exact ⟨0,rfl⟩
  | cons a l=>
   rw [if_neg (by simp),←hp,List.map_cons,List.flatten_cons];have hl:1≤p.length:=by rw [hp];simp
   obtain ⟨z,hz⟩:=ARi9 n (p.drop 256) (by simp;omega);rw [hz];by_cases h256:256≤p.length
   ·refine ⟨z, ?_⟩;have:padS (p.take 256)=p.take 256:=by
     have e:(p.take 256).length=256:=by simp;omega
     rw [padS,e];simp
    rw [this,←List.append_assoc,List.take_append_drop]
   ·refine ⟨(256 - p.length)+z, ?_⟩;rw [List.take_of_length_le (by omega),List.drop_of_length_le (by omega),List.nil_append,padS,List.append_assoc,List.replicate_append_replicate]
theorem BKs9 (z:Nat):(Zaf z (0:Int)).all (· ==0)=true:=List.all_eq_true.2 fun x hx=>by rw [(List.mem_replicate.1 hx).2];rfl
theorem AWe9 {p:List Int}:ABf9 (ABn9 p)=false:=by
 rw [ABf9,List.any_eq_false];intro q hq;rw [ADp9] at hq;obtain ⟨i,_,rfl⟩:=List.mem_map.1 hq;have:=APs9 (APq9 p i);simp;omega
theorem AKr9 (p:List Int):(ABn9 p).length=(p.length+255) / 256:=by rw [ADp9];simp
theorem ASg9 {p:List Int} {n:Nat} (hn:ADd9 (n:Int)=true) (hc:(n+255) / 256=(p.length+255) / 256):
 joinS (ABn9 p) n=if (p.drop n).all (· ==0) then ((p++Zaf (n - p.length) 0).take n,0) else ([],12):=by
 obtain ⟨k,hk,h1,h2⟩:=AGd9 hn;have hk:n=k:=by omega
 subst hk;obtain ⟨z,hz⟩:=ARi9 p.length p (Nat.le_refl _);have hz:(ABn9 p).flatten=p++Zaf z 0:=hz;have hg:((!ADd9 (n:Int))||((((ABn9 p).length:Int) !=ABl9 n)||ABf9 (ABn9 p)))=false:=by
  rw [hn,AWe9,AKr9,AHk9 (by omega),hc];simp
 have hs:=APl9 (ps:=ABn9 p) AWe9;rw [hz,AKr9] at hs;rw [joinS,if_neg (by rw [hg];simp),Int.toNat_natCast,hz];simp only [List.length_append,List.length_replicate] at hs;have hd:(p++Zaf z 0).drop n=p.drop n++Zaf (z - (n - p.length)) 0:=by
  rw [List.drop_append,List.drop_replicate]
 have hall:((p++Zaf z 0).drop n).all (· ==0)=(p.drop n).all (· ==0):=by
  rw [hd,List.all_append,BKs9,Bool.and_true]
 have ht:(p++Zaf z 0).take n=(p++Zaf (n - p.length) 0).take n:=by
  rw [List.take_append,List.take_append,List.take_replicate,List.take_replicate];congr 2;omega
 by_cases h:(p.drop n).all (· ==0)=true
 ·rw [if_neg (by rw [AVw9,hall,h];simp),if_pos h,ht]
 ·rw [if_pos (by rw [AVw9,hall];simpa using h),if_neg h]
set_option maxRecDepth 100000
set_option maxRecDepth 20000
def rootF:Nat→List Int→Int
 |0,now=>nth now 0
 |n+1,now=>if 1<now.length then rootF n (nextL now) else nth now 0
theorem AXc9:∀(n:Nat) (now:List Int) (v:Int),lastS (ADb9 n now) v=rootF n now
 |0,now,v=>rfl
 | n+1,now,v=>by
  rw [ADb9,rootF];split
  ·exact AXc9 n (nextL now) _
  ·rfl
theorem AMd9 (a:Int) (l:List Int) (i:Nat):nth (a::l) (i+1)=nth l i:=by simp [nth]
theorem BDt9:∀l:List Int,(nextL l).length=(l.length+1) / 2
 | []=>rfl
 | [a]=>by simp [nextL]
 | a::c::l=>by
  have:=BDt9 l;simp only [nextL,List.length_cons];omega
theorem BDs9:∀(l:List Int) (k:Nat),k<l.length→nth (nextL l) (k / 2)=if sibN k<l.length then (if k % 2=1 then pairS (nth l (sibN k)) (nth l k) else pairS (nth l k) (nth l (sibN k))) else nth l k
 | [],k,h=>by simp at h
 | [a],k,h=>by
  have:k=0:=by simp at h;omega
  subst this;rfl
 | a::c::l,0,h=>by
  rw [show sibN 0=1 from rfl,if_pos (by simp),if_neg (by decide)];rfl
 | a::c::l,1,h=>by
  rw [show sibN 1=0 from rfl,if_pos (by simp),if_pos (by decide)];rfl
 | a::c::l,k+2,h=>by
  have ih:=BDs9 l k (by simp at h;omega);have e1:(k+2) / 2=k / 2+1:=by omega
  have e2:sibN (k+2)=sibN k+2:=by unfold sibN;split<;>split<;>omega
  have e3:(k+2) % 2=k % 2:=by omega
  rw [e1,e2,e3,nextL,AMd9,ih];have e4:nth (a::c::l) (sibN k+2)=nth l (sibN k):=by rw [show sibN k+2=(sibN k+1)+1 from rfl,AMd9,AMd9]
  have e5:nth (a::c::l) (k+2)=nth l k:=by rw [show k+2=(k+1)+1 from rfl,AMd9,AMd9]
  rw [e4,e5];by_cases hs:sibN k<l.length
  ·rw [if_pos hs,if_pos (show sibN k+2<(a::c::l).length by simp only [List.length_cons];omega)]
  ·rw [if_neg hs,if_neg (show ¬sibN k+2<(a::c::l).length by simp only [List.length_cons];omega)]
theorem AOw9:∀(n w k:Nat) (now:List Int),now.length=w→k<w→w≤n+1→AEz9 (walkP n w k) (AEy9 (ADb9 n now) k) (nth now k)=some ([],rootF n now)
 | 0,w,k,now,hw,hk,hn=>by
  have:k=0:=by omega
  subst this;rw [walkP,ADb9,AEy9,show sibN 0=1 from rfl,if_neg (by omega),AEy9];rfl
 | n+1,w,k,now,hw,hk,hn=>by
  rw [walkP,ADb9,rootF,hw];by_cases h1:1<w
  ·rw [if_pos h1,if_pos h1,if_pos h1,AEy9,hw];have hnx:=BDs9 now k (by omega);have hln:=BDt9 now;have ih:=AOw9 n ((w+1) / 2) (k / 2) (nextL now) (by rw [hln,hw]) (by omega) (by omega);rw [hw] at hnx;by_cases hs:sibN k<w
   ·rw [if_pos hs] at hnx ⊢;rw [decide_eq_true hs,List.singleton_append];by_cases hodd:k % 2=1
    ·rw [if_pos hodd] at hnx;rw [show (k % 2==1)=true by simp [hodd],AVd9,←hnx];exact ih
    ·rw [if_neg hodd] at hnx;rw [show (k % 2==1)=false by simp;omega,AVe9,←hnx];exact ih
   ·rw [if_neg hs] at hnx ⊢;rw [decide_eq_false hs,List.nil_append,AVf9,←hnx];exact ih
  ·rw [if_neg h1,if_neg h1,if_neg h1,AEy9,AEy9,List.append_nil];have:k=0:=by omega
   subst this;rw [hw,show sibN 0=1 from rfl,if_neg (by omega)];rfl
theorem BVw9 {l:List (List Int)} {i:Nat} (h:i<l.length):nth (l.map leafS) i=leafS (nthL l i):=by simp [nth,nthL,h]
theorem ASx9 {ps:List (List Int)} (h:areS ps=true) {i:Nat} (hi:i<ps.length):AEz9 (walkS ps.length i) (AEy9 (ADk9 ps) i) (leafS (nthL ps i))=some ([],(rootS ps).1):=by
 rw [rootS,if_pos h,ADk9,AXc9,walkS,List.length_map,←BVw9 hi];exact AOw9 ps.length ps.length i (ps.map leafS) (by simp) hi (by omega)
theorem BFa9 {r:Int} {w i:Nat} {p q:List Int} (h1:1≤w) (h2:w≤16) (h3:i<w) (h4:p.length≤256):AFt9 r w i p q=topS r (AEz9 (walkS w i) q (leafS p)):=by
 rw [AFt9,Int.toNat_natCast,Int.toNat_natCast,decide_eq_false (by omega),decide_eq_false (by omega),decide_eq_false (by omega),decide_eq_false (by omega),decide_eq_false (by omega)];rfl
theorem AUo9 {ps:List (List Int)} {i:Nat} (h:areS ps=true) (hi:i<ps.length):(AEy9 (ADk9 ps) i).length≤16:=by
 have hl:ps.length≤16:=(ATl9 h).1;have hF:=AJb9 ps.length ps.length i (AEy9 (ADk9 ps) i) (leafS (nthL ps i));have hc:=ASx9 h hi;rw [walkS] at hc;have:=BMb9 ps.length ps.length i;rcases Nat.lt_or_ge (AEy9 (ADk9 ps) i).length (lenW ps.length ps.length i) with h1|h1
 ·omega
 ·obtain ⟨z,hz⟩:=hF.2 h1;rw [hz] at hc;simp only [Option.some.injEq,Prod.mk.injEq,List.drop_eq_nil_iff] at hc;omega
def IsB (x:Int):Prop:=0≤x∧x<256
theorem AOa9 {p:List Int} (h:∀x∈p,IsB x):∀q∈ABn9 p,∀x∈q,IsB x:=by
 intro q hq x hx;rw [ADp9] at hq;obtain ⟨i,_,rfl⟩:=List.mem_map.1 hq;rw [padS] at hx;rcases List.mem_append.1 hx with hx|hx
 ·exact h x (List.mem_of_mem_drop (List.mem_of_mem_take hx))
 ·rw [(List.mem_replicate.1 hx).2];exact ⟨by decide,by decide⟩
section
set_option maxRecDepth 100000
end
set_option maxRecDepth 20000
section
set_option maxRecDepth 100000
end
set_option maxRecDepth 20000
theorem BNa9 (s z:SprT) (h:z.no=s.no):∀(ps qs:List (List Int)) (k:Nat),allP z k ps qs=allP s k ps qs
 | [],qs,k=>by rw [allP,allP]<;>(intros;simp_all)
 |p::ps, [],k=>by rw [allP,allP]<;>(intros;simp_all)
 |p::ps,q::qs,k=>by rw [allP,allP,BNa9 s z h ps qs,ABx9,ABx9,h]
theorem BGl9 (s:SprT) (p q:List Int):∀(ps qs:List (List Int)) (k:Nat),ps.length=qs.length→allP s k (ps++ [p]) (qs++ [q])=(allP s k ps qs&&ABx9 s ((k+ps.length:Nat):Int) p q)
 | [], [],k,h=>by
  show (ABx9 s k p q&&allP s (k+1) [] [])=_;rw [show allP s (k+1) [] []=true from rfl,show allP s k [] []=true from rfl,Bool.and_true,Bool.true_and];rfl
 | [],q::qs,k,h=>by simp at h
 |p::ps, [],k,h=>by simp at h
 | a::ps,c::qs,k,h=>by
  show (ABx9 s k a c&&allP s (k+1) (ps++ [p]) (qs++ [q]))=((ABx9 s k a c&&allP s (k+1) ps qs)&&_);rw [BGl9 s p q ps qs (k+1) (by simpa using h),Bool.and_assoc];congr 3;rw [List.length_cons];congr 1;omega
theorem BHg9 {s:SprT} {p q:List Int} (h:ACj9 s=true) (hp:p.length=256) (hc:(s.ps.length:Int)≠ABl9 s.no.n) (hq:ABx9 s s.ps.length p q=true) (z:SprT) (hn:z.no=s.no) (h1:z.ps=s.ps++ [p]) (h2:z.qs=s.qs++ [q]):ACj9 z=true:=by
 obtain ⟨f1,f2,f3,f4,f5⟩:=AJm9 h;simp only [ACj9,Bool.and_eq_true] at h;obtain ⟨g1,g2,g3,g4,g5⟩:=h;have g2:¬((s.ps.length:Int)>ABl9 s.no.n):=by simpa using g2
 have g4:ABf9 s.ps=false:=by simpa using g4
 have a1:ABf9 (s.ps++ [p])=false:=by
  rw [ABf9] at g4 ⊢;rw [List.any_append,g4];simp [hp]
 have a2:allP z 0 (s.ps++ [p]) (s.qs++ [q])=true:=by
  rw [BNa9 s z hn,BGl9 s p q _ _ _ f2.symm,g5,Nat.zero_add,hq];rfl
 rw [ACj9,hn,h1,h2,g1,a1,a2];simp [f2];omega
section
set_option maxRecDepth 100000
end
set_option maxRecDepth 20000
structure Lays (no:NotT) (ps:List (List Int)):Prop where
 are:areS ps=true
 two:∀p∈ps,p.length=256
 ann:AAi9 no.v no.n no.t=true
 cnt:ABl9 no.n=ps.length
 rt:no.r=(rootS ps).1
def ACc9 (ps:List (List Int)) (i:Nat):List Int:=AEy9 (ADk9 ps) i
def layS (no:NotT) (ps:List (List Int)) (k:Nat):SprT:=⟨no,ps.take k,(List.range k).map (ACc9 ps), [], [],0,0,0,0,0⟩
theorem BMc9 {no:NotT} {ps:List (List Int)} {k:Nat} (hk:k≤ps.length):(layS no ps k).ps.length=k:=by simp [layS];omega
theorem BWb9 {ps:List (List Int)} {i:Nat} (h:i<ps.length):ps.take (i+1)=ps.take i++ [nthL ps i]:=by
 rw [nthL,List.getD_eq_getElem?_getD,List.getElem?_eq_getElem h,List.take_add_one,List.getElem?_eq_getElem h];rfl
theorem ASb9 {no:NotT} {ps:List (List Int)} (h:Lays no ps) {k i:Nat} (hi:i<ps.length):ABx9 (layS no ps k) i (nthL ps i) (ACc9 ps i)=true:=by
 obtain ⟨a1,a2,a3⟩:=ATl9 h.are;show AFt9 no.r (ABl9 no.n) i _ _=true;rw [h.cnt,BFa9 (by omega) a1 hi (a3 _ (AEf9 hi)),ACc9,ASx9 h.are hi,h.rt];simp [topS]
theorem BZr9 {no:NotT} {ps:List (List Int)} (h:Lays no ps) {k:Nat} (hk:k≤ps.length):∀x∈(layS no ps k).qs,x.length≤1000000:=by
 intro x hx;simp only [layS,List.mem_map,List.mem_range] at hx;obtain ⟨i,hi,rfl⟩:=hx;have:=AUo9 (i:=i) h.are (by omega);rw [ACc9];omega
theorem AXa9 {no:NotT} {ps:List (List Int)} (h:Lays no ps):∀k:Nat,k≤ps.length→ACj9 (layS no ps k)=true
 | 0,_=>by
  have e:layS no ps 0=⟨no, [], [], [], [],0,0,0,0,0⟩:=by simp [layS]
  obtain ⟨a1,a2,a3⟩:=ATl9 h.are;rw [e,ACj9,h.ann,h.cnt];simp [ABf9,allP]
 | k+1,hk=>by
  refine BHg9 (s:=layS no ps k) (p:=nthL ps k) (q:=ACc9 ps k) (AXa9 h k (by omega)) (h.two _ (AEf9 (by omega))) ?_ (by rw [BMc9 (by omega)];exact ASb9 h (by omega)) _ rfl (BWb9 (by omega)) ?_
  ·rw [BMc9 (by omega)];show (k:Int)≠ABl9 no.n;rw [h.cnt];omega
  ·show (List.range (k+1)).map _=(List.range k).map _++_;rw [List.range_succ,List.map_append];rfl
theorem BIp9 {ps:List (List Int)} (h:areS ps=true) {k:Nat} (hk:k<ps.length):ANp9 ps k=(ACc9 ps k,0):=by
 rw [ANp9,h,if_pos (by simp;omega),Int.toNat_natCast];rfl
theorem AKv9 {v t:Int} {p:List Int} (h:ADd9 p.length=true) (ha:AAi9 v p.length t=true):annS v p t=(⟨v,p.length,(rootS (ABn9 p)).1,t⟩,0)∧Lays ⟨v,p.length,(rootS (ABn9 p)).1,t⟩ (ABn9 p):=by
 have ar:=BHf9 h;obtain ⟨k,hk,k1,k2⟩:=AGd9 h;refine ⟨?_,ar,fun x hx=> ?_,ha, ?_,rfl⟩
 ·rw [annS,if_pos (by rw [h,ha];rfl),show (rootS (ABn9 p)).2=0 by rw [rootS,if_pos ar]]
 ·rw [ADp9] at hx;obtain ⟨i,_,rfl⟩:=List.mem_map.1 hx;exact APs9 (APq9 p i)
 ·show ABl9 p.length=_;rw [AHk9 (by omega),AKr9]
set_option maxHeartbeats 1000000
def laySt (no:NotT) (ps:List (List Int)) (k:Nat) (l:List Row) (q:List Int) (t:TrT):StT:=⟨no,ps.take k,(List.range k).map (ACc9 ps),l,q,t⟩
theorem ATn9 {s s':SprT} (h1:s.no=s'.no):∀(l q:List (List Int)) (i:Nat),allP s i l q=allP s' i l q
 | [],_,_=>rfl
 |_::_, [],_=>rfl
 | p::l,q::qs,i=>by
  show (ABx9 s i p q&&allP s (i+1) l qs)=(ABx9 s' i p q&&allP s' (i+1) l qs);rw [ATn9 h1 l qs (i+1),show ABx9 s i p q=ABx9 s' i p q by unfold ABx9;rw [h1]]
theorem AUf9 {s s':SprT} (h1:s.no=s'.no) (h2:s.ps=s'.ps) (h3:s.qs=s'.qs):ACj9 s=ACj9 s':=by
 unfold ACj9;rw [h1,h2,h3,ATn9 h1]
theorem AEw9 {no:NotT} {ps:List (List Int)} (h:Lays no ps) {k:Nat} (hk:k≤ps.length) (l:List Row) (q:List Int) (t:TrT):ALn9 (laySt no ps k l q t)=true:=by
 have e:ACj9 (laySt no ps k l q t).sp=ACj9 (layS no ps k):=AUf9 rfl rfl rfl;rw [ALn9,e];exact AXa9 h k hk
theorem ACd9 {no:NotT} {ps:List (List Int)} {k:Nat} (hk:k≤ps.length) (l:List Row) (q:List Int) (t:TrT):(laySt no ps k l q t).ps.length=k:=by simp [laySt];omega
theorem AMg9 {no:NotT} {ps:List (List Int)} (h:Lays no ps):ps.length≤16∧1≤ps.length:=by
 have:=BBw9 (AEw9 h (Nat.zero_le _) [] [] zeroT);have hc:=h.cnt;have h2:ABl9 no.n≤16:=this.2.1;have h3:1≤ABl9 no.n:=this.2.2.1;omega
theorem BSh9 {no:NotT} (h:AAi9 no.v no.n no.t=true):zeroN no=false:=by
 simp only [AAi9,Bool.and_eq_true,decide_eq_true_eq] at h;rw [Bool.eq_false_iff];intro hz;simp only [zeroN,Bool.and_eq_true,beq_iff_eq] at hz;omega
theorem AGh9 {no:NotT} {ps:List (List Int)} (h:Lays no ps) {k:Nat} (hk:k≤ps.length) {l:List Row} {q:List Int} {t:TrT} (hg:Good l) (hl:l.length<16) (hf:l= []∨k<ps.length) (hq:l≠ []∨q= []) (ht:ABb9 t=true):
 AGl9 (laySt no ps k l q t)=false∧ACv9 (laySt no ps k l q t)=true:=by
 have he:AGl9 (laySt no ps k l q t)=false:=by
  rw [AGl9,show zeroN (laySt no ps k l q t).no=false from BSh9 h.ann];rfl
 refine ⟨he, ?_⟩;rw [ACv9,he,AEw9 h hk,show AEs9 (laySt no ps k l q t).rows=true by rw [←BGw9];exact (AJj9 l).2 hg];rw [show (laySt no ps k l q t).rows=l from rfl,show (laySt no ps k l q t).pf=q from rfl,show (laySt no ps k l q t).tr=t from rfl,ht,decide_eq_true (p:=(l.length:Int)<16) (by omega)];have hfull:(l.isEmpty|| !fullP (laySt no ps k l q t))=true:=by
  rcases hf with rfl|hf
  ·rfl
  ·rw [fullP,ACd9 hk,show (laySt no ps k l q t).no=no from rfl,h.cnt];rw [Bool.or_eq_true];right;simp;omega
 have hqe:(!l.isEmpty||q.isEmpty)=true:=by
  rcases hq with hq|rfl
  ·cases l with
   |nil=>exact absurd rfl hq
   |cons _ _=>rfl
  ·simp
 rw [hfull,hqe];rfl
theorem BOx9 {p:List Int} {s n:Int} (hn:pageS n=true) (hs:seedS s=true) (l:List Row):recS l n s (encS p s)=addS l (setS s) (sumB p (setS s)):=by
 rw [AXo9 hs,recS,if_pos];simp [recOk,hs,ACw9,hn]
theorem BLv9 {ps:List (List Int)} {k:Nat} (h:ps.length≤16) (hk:k<ps.length):pageS (k:Int)=true:=by simp [pageS];omega
theorem AXh9 {p:List Int} {m:Int} (h0:1≤m) (h1:m<65536):(addS [] m (sumB p m)).2.1=true:=by
 rcases BJd9 (p:=p) (ss:= []) (fun s h=>by cases h) h0 h1 with h|h
 ·exfalso;have e:or64 m (AKj9 [])=m:=by
   obtain ⟨k,rfl⟩:∃k:Nat,m=k:=⟨m.toNat,by omega⟩;have:k<65536:=by omega
   unfold or64 AKj9;simp only [List.foldl_nil];rw [show (BitVec.ofInt 64 (k:Int)|||BitVec.ofInt 64 0)=BitVec.ofInt 64 (k:Int) by simp];rw [AAt9]
   ·simp [BitVec.toNat_ofInt];omega
   ·simp [BitVec.toNat_ofInt];omega
   ·simp [BitVec.toNat_ofInt];omega
  rw [e] at h;simp only [AKj9,List.foldl_nil] at h;omega
 ·exact h
def blkOf (ps:List (List Int)) (k:Nat) (m:Int):BlkT:=⟨k,m,encS (nthL ps k) m,ACc9 ps k⟩
theorem AZm9 {no:NotT} {ps:List (List Int)} (h:Lays no ps) {k:Nat} (hk:k<ps.length) {l:List Row} {q:List Int} {t:TrT} (hg:Good l) (hl:l.length<16) (hq:l≠ []→q=ACc9 ps k) (hq0:l≠ []∨q= []) (ht:ABb9 t=true) {m:Int} (hm:seedS m=true):
 ABu9 (laySt no ps k l q t) (blkOf ps k m)=0:=by
 obtain ⟨a1,a2⟩:=AGh9 h (by omega) hg hl (.inr hk) hq0 ht;obtain ⟨b1,b2⟩:=AMg9 h;obtain ⟨c1,c2⟩:=AGe9.1 hm;have hbad:badB (blkOf ps k m)=false:=by
  have hd:(encS (nthL ps k) m).length=16:=by rw [AXo9 hm];exact ACw9 _ _
  have e:badB (blkOf ps k m)=(decide ((k:Int)<0)||(decide ((k:Int)≥16)||(decide (m<0)||(decide (m>1000000000)||(((encS (nthL ps k) m).length:Int) !=16))))):=rfl;rw [e,hd,decide_eq_false (p:=(k:Int)<0) (by omega),decide_eq_false (p:=(k:Int)≥16) (by omega),decide_eq_false (p:=m<0) (by omega),decide_eq_false (p:=m>1000000000) (by omega)];rfl
 have hfull:fullP (laySt no ps k l q t)=false:=by
  rw [fullP,ACd9 (by omega),show (laySt no ps k l q t).no=no from rfl,h.cnt];simp;omega
 rw [ABu9,if_neg (by rw [a2,hbad];decide),if_neg (by rw [a1];decide),if_neg (by rw [hfull];decide),ACd9 (by omega),if_neg (by simp [blkOf]),if_neg (by simp [blkOf]),if_neg];show ¬(!l.isEmpty&& !decide (ACc9 ps k=q))=true;cases l with
 |nil=>simp
 |cons r l=>rw [hq (by simp)];simp
theorem BOz9 {no:NotT} {ps:List (List Int)} (h:Lays no ps) {k:Nat} (hk:k<ps.length) (l:List Row) (q:List Int) (t:TrT):putT (laySt no ps k l q t) (nthL ps k) (ACc9 ps k)=(laySt no ps (k+1) [] [] t,0):=by
 have h1:=AEw9 h (k:=k) (by omega) l q t;have h2:=h.two _ (AEf9 hk);have h3:ABx9 (laySt no ps k l q t).sp (laySt no ps k l q t).ps.length (nthL ps k) (ACc9 ps k)=true:=by
  rw [ACd9 (by omega)];exact ASb9 (k:=k) h hk
 rw [putT,if_neg (by rw [h1,h2];simp),if_neg,if_neg (by rw [h3];simp)]
 ·show (StT.mk no (ps.take k++ [nthL ps k]) ((List.range k).map (ACc9 ps)++ [ACc9 ps k]) [] [] t,(0:Int))=_;rw [←BWb9 hk,laySt,List.range_succ,List.map_append];rfl
 ·rw [ACd9 (by omega)];show ¬(k:Int)=ABl9 no.n;rw [h.cnt];omega
theorem BEc9 {no:NotT} {ps:List (List Int)} (h:Lays no ps) {k:Nat} (hk:k<ps.length) {l:List Row} {q:List Int} {t:TrT} (hb:∀x∈nthL ps k,0≤x∧x<256) (hT:Tru (nthL ps k) l) (hl:l.length<16) (hq:l≠ []→q=ACc9 ps k) (hq0:l≠ []∨q= []) (ht:ABb9 t=true) {m:Int} (hm:seedS m=true):
 recvT (laySt no ps k l q t) (blkOf ps k m)=if (addS l (setS m) (sumB (nthL ps k) (setS m))).1.length=16 then (laySt no ps (k+1) [] [] t,0) else (laySt no ps k (addS l (setS m) (sumB (nthL ps k) (setS m))).1 (ACc9 ps k) t,0):=by
 have hr:=AZm9 h hk hT.good hl hq hq0 ht hm;obtain ⟨s0,s1⟩:=ADz9 hm;obtain ⟨g1,g2,g3,g4⟩:=ALb9 hT s0 (show setS m<65536 by omega);have er:recS (laySt no ps k l q t).rows (blkOf ps k m).n (blkOf ps k m).s (blkOf ps k m).d=addS l (setS m) (sumB (nthL ps k) (setS m)):=BOx9 (BLv9 (AMg9 h).1 hk) hm l;have hp:=h.two _ (AEf9 hk);have en:ANr9 (laySt no ps k l q t) (blkOf ps k m)=laySt no ps k (addS l (setS m) (sumB (nthL ps k) (setS m))).1 (ACc9 ps k) t:=by
  rw [ANr9,er];rfl
 rw [recvT,if_neg (by rw [hr];simp),er,if_neg (by rw [g1];simp)];by_cases h16:(addS l (setS m) (sumB (nthL ps k) (setS m))).1.length=16
 ·have hpg:(AFg9 (addS l (setS m) (sumB (nthL ps k) (setS m))).1).2=true:=by rw [AWo9 g2,h16];rfl
  rw [if_pos h16,if_neg (by rw [hpg];simp),BDn9 g2 hp hb hpg,en,show (blkOf ps k m).pf=ACc9 ps k from rfl,BOz9 h hk,if_neg (by simp)]
 ·have hpg:(AFg9 (addS l (setS m) (sumB (nthL ps k) (setS m))).1).2=false:=by rw [AWo9 g2];simp [h16]
  rw [if_neg h16,if_pos hpg,en]
def FedA (no:NotT) (ps:List (List Int)) (k:Nat) (t:TrT) (st:StT):Prop:=
 ∃l q,st=laySt no ps k l q t∧Tru (nthL ps k) l∧l.length<16∧(l≠ []→q=ACc9 ps k)∧(l≠ []∨q= [])
def Fed (no:NotT) (ps:List (List Int)) (k:Nat) (t:TrT) (st:StT):Prop:=st=laySt no ps (k+1) [] [] t∨FedA no ps k t st
def AHx9 (p:List Int):Prop:=∀x∈p,0≤x∧x<256
theorem AMr9 {no:NotT} {ps:List (List Int)} (h:Lays no ps) {k:Nat} (hk:k<ps.length) {t:TrT} (ht:ABb9 t=true) {m:Int} (hm:seedS m=true):
 recvT (laySt no ps (k+1) [] [] t) (blkOf ps k m)=(laySt no ps (k+1) [] [] t,if k+1=ps.length then 10 else 14):=by
 obtain ⟨a1,a2⟩:=AGh9 h (k:=k+1) (by omega) (l:= []) (q:= []) (Tru.nil []).good (by simp) (.inl rfl) (.inr rfl) ht;obtain ⟨b1,b2⟩:=AMg9 h;obtain ⟨c1,c2⟩:=AGe9.1 hm;have hd:(encS (nthL ps k) m).length=16:=by rw [AXo9 hm];exact ACw9 _ _
 have hbad:badB (blkOf ps k m)=false:=by
  have e:badB (blkOf ps k m)=(decide ((k:Int)<0)||(decide ((k:Int)≥16)||(decide (m<0)||(decide (m>1000000000)||(((encS (nthL ps k) m).length:Int) !=16))))):=rfl;rw [e,hd,decide_eq_false (p:=(k:Int)<0) (by omega),decide_eq_false (p:=(k:Int)≥16) (by omega),decide_eq_false (p:=m<0) (by omega),decide_eq_false (p:=m>1000000000) (by omega)];rfl
 have hr:ABu9 (laySt no ps (k+1) [] [] t) (blkOf ps k m)=if k+1=ps.length then 10 else 14:=by
  rw [ABu9,if_neg (by rw [a2,hbad];decide),if_neg (by rw [a1];decide),fullP,ACd9 (by omega),show (laySt no ps (k+1) [] [] t).no=no from rfl,h.cnt];by_cases hf:k+1=ps.length
  ·rw [if_pos (by rw [hf];simp),if_pos hf]
  ·rw [if_neg (by simp;omega),if_neg hf,if_pos (by show (k:Int)<_;omega)]
 rw [recvT,hr,if_pos (by split<;>decide)]
theorem Fed.step {no:NotT} {ps:List (List Int)} {k:Nat} {t:TrT} {st:StT} (h:Lays no ps) (hk:k<ps.length) (hb:AHx9 (nthL ps k)) (ht:ABb9 t=true) (hf:Fed no ps k t st) {m:Int} (hm:seedS m=true):
 Fed no ps k t (recvT st (blkOf ps k m)).1∧((recvT st (blkOf ps k m)).2=0∨(recvT st (blkOf ps k m)).2=10∨(recvT st (blkOf ps k m)).2=14):=by
 rcases hf with rfl|⟨l,q,rfl,hT,hl,hq,hq0⟩
 ·rw [AMr9 h hk ht hm];exact ⟨.inl rfl,by by_cases h':k+1=ps.length<;>simp [h']⟩
 ·obtain ⟨s0,s1⟩:=ADz9 hm;obtain ⟨g1,g2,g3,g4⟩:=ALb9 hT s0 (show setS m<65536 by omega);rw [BEc9 h hk hb hT hl hq hq0 ht hm];by_cases h16:(addS l (setS m) (sumB (nthL ps k) (setS m))).1.length=16
  ·rw [if_pos h16];exact ⟨.inl rfl, .inl rfl⟩
  ·rw [if_neg h16];refine ⟨.inr ⟨_,_,rfl,g2,by have:=g2.good.len;omega,fun _=>rfl, .inl ?_⟩, .inl rfl⟩;intro he;have h0:l= []:=by
    have:(addS l (setS m) (sumB (nthL ps k) (setS m))).1.length=0:=by rw [he];rfl
    exact List.length_eq_zero_iff.1 (by omega)
   subst h0;have:=AXh9 (p:=nthL ps k) s0 (show setS m<65536 by omega);rw [he,this] at g4;simp at g4
theorem Fed.small {no:NotT} {ps:List (List Int)} {k:Nat} {t:TrT} {st:StT} (h:Lays no ps) (hk:k<ps.length) (hf:Fed no ps k t st):ABe9 st:=by
 obtain ⟨b1,b2⟩:=AMg9 h;have key:∀(j:Nat) (l:List Row) (q:List Int),j≤ps.length→AWf9 l→q.length≤1000000→ABe9 (laySt no ps j l q t):=by
  intro j l q hj h1 h2;refine ⟨⟨by rw [ACd9 hj];omega,fun p hp=> ?_⟩,⟨by simp [laySt];omega,BZr9 h hj⟩,h1,h2⟩;rw [h.two p (List.mem_of_mem_take hp)];omega
 rcases hf with rfl|⟨l,q,rfl,hT,hl,hq,hq0⟩
 ·exact key _ _ _ (by omega) ⟨by simp,fun r hr=>by cases hr⟩ (by simp)
 ·refine key _ _ _ (by omega) ⟨by omega,fun r hr=>by rw [hT.good.len16 r hr];omega⟩ ?_;by_cases hn:l= []
  ·rcases hq0 with h0|h0
   ·exact absurd hn h0
   ·rw [h0];simp
  ·rw [hq hn,ACc9];have:=AUo9 (i:=k) h.are (by omega);omega
def feedT (ps:List (List Int)) (k:Nat) (st:StT) (ss:List Int):StT:=ss.foldl (fun s m=>(recvT s (blkOf ps k m)).1) st
theorem AOe9 {p:List Int}:∀ {ss:List Int} {l:List Row},(∀s∈ss,seedS s=true)→Tru p l→l.length≤(allS p (masks ss) l).1.length
 | [],l,_,_=>Nat.le_refl _
 | m::ss,l,hs,ht=>by
  have hm:=hs m (List.mem_cons_self ..);obtain ⟨s0,s1⟩:=ADz9 hm;obtain ⟨g1,g2,g3,g4⟩:=ALb9 ht s0 (show setS m<65536 by omega);have e2:allS p (masks (m::ss)) l=allS p (masks ss) (addS l (setS m) (sumB p (setS m))).1:=by
   show allS p (setS m::masks ss) l=_;rw [allS,if_neg (by simp;omega)];dsimp only;rw [if_neg (by rw [g1];simp)]
  rw [e2];have:=AOe9 (fun s hs'=>hs s (List.mem_cons_of_mem _ hs')) g2;omega
theorem AQg9 {no:NotT} {ps:List (List Int)} {k:Nat} {t:TrT} (h:Lays no ps) (hk:k<ps.length) (hb:AHx9 (nthL ps k)) (ht:ABb9 t=true):∀(ss:List Int) (l:List Row) (q:List Int),(∀s∈ss,seedS s=true)→Tru (nthL ps k) l→l.length<16→(l≠ []→q=ACc9 ps k)→(l≠ []∨q= [])→
 feedT ps k (laySt no ps k l q t) ss=laySt no ps (k+1) [] [] t∧16≤(allS (nthL ps k) (masks ss) l).1.length∨∃q',feedT ps k (laySt no ps k l q t) ss=laySt no ps k (allS (nthL ps k) (masks ss) l).1 q' t∧(allS (nthL ps k) (masks ss) l).1.length<16
 | [],l,q,hs,hT,hl,hq,hq0=> .inr ⟨q,rfl,hl⟩
 | m::ss,l,q,hs,hT,hl,hq,hq0=>by
  have hm:=hs m (List.mem_cons_self ..);have hs':=fun s hs'=>hs s (List.mem_cons_of_mem _ hs');obtain ⟨s0,s1⟩:=ADz9 hm;obtain ⟨g1,g2,g3,g4⟩:=ALb9 hT s0 (show setS m<65536 by omega);have e2:allS (nthL ps k) (masks (m::ss)) l=allS (nthL ps k) (masks ss) (addS l (setS m) (sumB (nthL ps k) (setS m))).1:=by
   show allS (nthL ps k) (setS m::masks ss) l=_;rw [allS,if_neg (by simp;omega)];dsimp only;rw [if_neg (by rw [g1];simp)]
  have e1:feedT ps k (laySt no ps k l q t) (m::ss)=feedT ps k (recvT (laySt no ps k l q t) (blkOf ps k m)).1 ss:=rfl;rw [e2,e1,BEc9 h hk hb hT hl hq hq0 ht hm];by_cases h16:(addS l (setS m) (sumB (nthL ps k) (setS m))).1.length=16
  ·rw [if_pos h16];left;constructor
   ·have:∀ss:List Int,(∀s∈ss,seedS s=true)→feedT ps k (laySt no ps (k+1) [] [] t) ss=laySt no ps (k+1) [] [] t:=by
     intro ss;induction ss with
     |nil=>intro _;rfl
     | cons x ss ih=>
      intro hx;have e:feedT ps k (laySt no ps (k+1) [] [] t) (x::ss)=feedT ps k (recvT (laySt no ps (k+1) [] [] t) (blkOf ps k x)).1 ss:=rfl;rw [e,AMr9 h hk ht (hx x (List.mem_cons_self ..))];exact ih fun s hs=>hx s (List.mem_cons_of_mem _ hs)
    exact this ss hs'
   ·have:=AOe9 (p:=nthL ps k) hs' g2;omega
  ·rw [if_neg h16];refine AQg9 h hk hb ht ss _ _ hs' g2 (by have:=g2.good.len;omega) (fun _=>rfl) (.inl ?_);intro he;have h0:l= []:=by
    have:(addS l (setS m) (sumB (nthL ps k) (setS m))).1.length=0:=by rw [he];rfl
    exact List.length_eq_zero_iff.1 (by omega)
   subst h0;have:=AXh9 (p:=nthL ps k) s0 (show setS m<65536 by omega);rw [he,this] at g4;simp at g4
def TFe:List (Nat×(List AV→(AV→Prop)→Prop)):= [(87,BXd9),(34,cEncB),(15,AQk9)]
theorem BSq9:AAk9 prog TFe:=Zag BKf9 (Zag AVg9 (Zag AMw9 Zai))
noncomputable def lpFe:Code:=sub [1,1,1,0,1,2,3] (code f28)
def tmFe (ps:List (List Dv)) (k:Int) (q ss:List (List Dv)) (n i:Int):List AV:= [.bad, .d (.sl 1 ps), .d (i64 k), .bad, .ptr 0 0, .bad, .bad, .bad, .ptr 1 0, .bad, .d (.sl 1 q)]++Zaf 22 .bad++ [.d (.sl 1 ss), .d (i64 n), .d (i64 i)]++Zaf 38 .bad
theorem rFe (s:StT) (b1:List AV) (ps q ss:List (List Dv)) (k n i:Int):wpc prog ⟨TFe, [],wl,y,false⟩ 100 lpFe (tmFe ps k q ss n i) [stB s,zB13] b (maskK 2 [1,2,4,8,10,33,34,35] K)=(BIf (decide (i<n)) (BIf (true&&decide (0≤i)) (∃(x0:Int),ss[Zat i]? =some [i64 x0]∧BIf (true&&decide (0≤k)) (∃(xs3:List (List Dv)),ps[Zat k]? =some [Zam 1 xs3]∧∃(p6:List Int) (n7:Int) (s8:Int) (d9:List Int), [Zae (Zam 1 xs3),Zae (i64 k),Zae (i64 x0)]= [Zae (Zam 1 (AAb9 p6)),Zae (i64 n7),Zae (i64 s8)]∧(encOk p6 n7 s8=true∧d9=encS p6 s8)∧∃(s10:StT) (x11:BlkT) (z12:StT) (e13:Int), [stV s,Zbj [Zae (i64 n7),Zae (i64 s8),Zae (Zam 1 (AAb9 d9)),Zae (Zam 1 q)]]= [stV s10,bkV x11]∧(((ABe9 s10)∧Zab (BlkT.pf x11)≤1000000)∧(z12,e13)=recvT s10 x11)∧BIf (e13 !=(0:Int)) (BIf (e13 !=(14:Int)) (BIf (e13 !=(10:Int)) (K .ret (Zba::Zae (Zam 1 ps)::Zae (i64 k)::Zba::Zbe 0 0::bds 3 (Zbe 1 0::Zba::Zae (Zam 1 q)::bds 22 (Zae (Zam 1 ss)::Zae (i64 n)::Zae (i64 i)::bds 38 []))) [stB s,stB s] b) (K .normal (Zba::Zae (Zam 1 ps)::Zae (i64 k)::Zba::Zbe 0 0::bds 3 (Zbe 1 0::Zba::Zae (Zam 1 q)::bds 22 (Zae (Zam 1 ss)::Zae (i64 n)::Zae (i64 (Zac .i64 (i+1)))::bds 38 []))) [stB z12,Blk.mk Qz3 false false 0] b)) (K .normal (Zba::Zae (Zam 1 ps)::Zae (i64 k)::Zba::Zbe 0 0::bds 3 (Zbe 1 0::Zba::Zae (Zam 1 q)::bds 22 (Zae (Zam 1 ss)::Zae (i64 n)::Zae (i64 (Zac .i64 (i+1)))::bds 38 []))) [stB z12,Blk.mk Qz3 false false 0] b)) (K .normal (Zba::Zae (Zam 1 ps)::Zae (i64 k)::Zba::Zbe 0 0::bds 3 (Zbe 1 0::Zba::Zae (Zam 1 q)::bds 22 (Zae (Zam 1 ss)::Zae (i64 n)::Zae (i64 (Zac .i64 (i+1)))::bds 38 []))) [stB z12,Blk.mk Qz3 false false 0] b)) False) False) (K (Exit.exit 0) (Zba::Zae (Zam 1 ps)::Zae (i64 k)::Zba::Zbe 0 0::bds 3 (Zbe 1 0::Zba::Zae (Zam 1 q)::bds 22 (Zae (Zam 1 ss)::Zae (i64 n)::Zae (i64 i)::bds 38 []))) [stB s,Blk.mk Qz3 false false 0] b)):=by kernel_rfl
theorem BPe9:wpFn prog ⟨[], [],wl,y,true⟩ 100 f29 [] b R=(R (.d (Zam 1 [[i64 0], [i64 1], [i64 2], [i64 3], [i64 4], [i64 5], [i64 6], [i64 7], [i64 8], [i64 9], [i64 10], [i64 11], [i64 12], [i64 13], [i64 14], [i64 15]])) b):=by kernel_rfl
theorem BPq9:PCall prog 29 [] (.d (.sl 1 (intsR ss0))):=by
 refine PCall.ofFn (n:=100) (u:=true) mixed Zai Zad func29 (by rfl) (by rfl) fun Ev bb=> ?_;rw [BPe9];rfl
def BFp9 (args:List AV) (K:AV→Prop):Prop:=args= []∧∃z:List Int,z=ss0∧K (.d (.sl 1 (intsR z)))
theorem ATh9:∀args K,BFp9 args K→∃x,PCall prog 29 args x∧K x:=by
 rintro _ K ⟨rfl,_,rfl,h⟩;exact ⟨_,BPq9,h⟩
theorem BQj9 {no:NotT} {ps:List (List Int)} (h:Lays no ps) {k:Nat} (hk:k<ps.length) {m:Int} (hm:seedS m=true):encOk (nthL ps k) k m=true:=by
 rw [encOk,h.two _ (AEf9 hk),BLv9 (AMg9 h).1 hk,hm];rfl
theorem BRc9 {ss rest:List Int} {m:Int} {j:Nat} (hd:ss.drop j=m::rest):(intsR ss)[j]? =some [i64 m]:=by
 obtain ⟨h1,h2,_⟩:=ABr9 hd;simp [intsR,h2]
theorem wrFe {Ev:Env prog} {b:Ev.β} {Q:Exit→St Ev.β→Prop} {no:NotT} {ps:List (List Int)} {k:Nat} {t:TrT} (h:Lays no ps) (hk:k<ps.length) (hb:AHx9 (nthL ps k)) (ht:ABb9 t=true) (ss:List Int) (hs:∀s∈ss,seedS s=true) (hl:ss.length≤1000):
 ∀(rest:List Int) (j:Nat) (st:StT),ss.drop j=rest→Fed no ps k t st→(∀i:Int,Q (.exit 0) ⟨tmFe (AAc9 ps) k (digR (ACc9 ps k)) (intsR ss) ss.length i, [stB (feedT ps k st rest),zB13],b⟩)→WR Ev lpFe (rest.length+1) ⟨tmFe (AAc9 ps) k (digR (ACc9 ps k)) (intsR ss) ss.length j, [stB st,zB13],b⟩ Q
 | [],j,st,hd,hf,hQ=>by
  have hj:=ADw9 hd;refine WR.ofMask [1,2,4,8,10,33,34,35] mixed (CX.Ok.of (u:=false) BSq9 Zad) (k:=100) ?_;refine Eq.mpr (rFe _ _ _ _ st [] (AAc9 ps) (digR (ACc9 ps k)) (intsR ss) k ss.length j) ?_;exact BIf.f (by simp;omega) (hQ j)
 | m::rest,j,st,hd,hf,hQ=>by
  obtain ⟨hj,h2,hd'⟩:=ABr9 hd;have hm:seedS m=true:=hs m (List.mem_of_getElem? h2);obtain ⟨f1,f2⟩:=hf.step h hk hb ht hm;refine WR.ofMask [1,2,4,8,10,33,34,35] mixed (CX.Ok.of (u:=false) BSq9 Zad) (k:=100) ?_;refine Eq.mpr (rFe _ _ _ _ st [] (AAc9 ps) (digR (ACc9 ps k)) (intsR ss) k ss.length j) ?_;rw [wrapN (by omega),Int.toNat_natCast,Int.toNat_natCast];have hn:=AUo9 (i:=k) h.are (by omega);refine Zbr (by simp;omega) (Zbr (by simp) ⟨m,BRc9 hd,Zbr (by simp) ⟨AAb9 (nthL ps k),AUn9 hk,nthL ps k,k,m,_,rfl,⟨BQj9 h hk hm,rfl⟩,st,blkOf ps k m,(recvT st (blkOf ps k m)).1,(recvT st (blkOf ps k m)).2,rfl,⟨⟨hf.small h hk,by show (ACc9 ps k).length≤_;rw [ACc9];omega⟩,rfl⟩, ?_⟩⟩);have nx:=wrFe (Q:=Q) h hk hb ht ss hs hl rest (j+1) (recvT st (blkOf ps k m)).1 hd' f1 hQ;rcases f2 with f2|f2|f2<;>rw [f2]
  ·exact BIf.f rfl nx
  ·exact Zbr rfl (Zbr rfl (BIf.f rfl nx))
  ·exact Zbr rfl (BIf.f rfl nx)
def wlFe {β:Type}:WLT β:=fun c tm hp b K=>∃(no:NotT) (ps:List (List Int)) (k:Nat) (t:TrT) (st:StT) (ss:List Int) (z:StT),c= .loop lpFe∧ABo9 [1,2,4,8,10,33,34,35] 0 tm=tmFe (AAc9 ps) k (digR (ACc9 ps k)) (intsR ss) (intsR ss).length 0∧hp= [stB st,zB13]∧
 ((Lays no ps∧k<ps.length∧AHx9 (nthL ps k)∧ABb9 t=true∧(∀s∈ss,seedS s=true)∧ss.length≤1000∧Fed no ps k t st)∧z=feedT ps k st ss)∧∀i:Int,K (.exit 0) (tmFe (AAc9 ps) k (digR (ACc9 ps k)) (intsR ss) ss.length i) [stB z,zB13] b
theorem BTf9 {Ev:Env prog} (c:Code) (tm:List AV) (hp:List Blk) (b:Ev.β) (K:Exit→List AV→List Blk→Ev.β→Prop) (h:wlFe c tm hp b K):W Ev c ⟨tm,hp,b⟩ (fun e s=>K e s.tm s.hp s.b):=by
 obtain ⟨no,ps,k,t,st,ss,z,rfl,htm,rfl,⟨⟨h1,h2,h3,h4,h5,h6,h7⟩,rfl⟩,hK⟩:=h;rw [BIu9] at htm;refine W.cast (htm▸AAg9 _ tm 0) (LeH.refl _) ?_;exact W.rounds (wrFe (Q:=fun e s=>K e s.tm s.hp s.b) h1 h2 h3 h4 ss h5 h6 ss 0 st rfl h7 hK)
theorem BWk9 (s:StT) (ps ss:List (List Dv)) (k:Int):wpFn prog ⟨TFe, [],wlFe,y,false⟩ 100 f28 [stV s, .d (.sl 1 ps), .d (i64 k), .d (.sl 1 ss)] b R=(∃(ps0:List (List Int)) (i1:Int) (z2:List Int×Int), [Zae (Zam 1 ps),Zae (i64 k)]= [Zae (Zam 1 (AAc9 ps0)),Zae (i64 i1)]∧z2=ANp9 ps0 i1∧BIf (Prod.snd z2 !=(0:Int)) (R (.tup [stV s,Zae (bo false)]) b) (BIf (decide (k≥((Zab ps:Nat):Int))) (R (.tup [stV s,Zae (bo false)]) b) (∃(no3:NotT) (ps4:List (List Int)) (k5:Nat) (t6:TrT) (st7:StT) (ss8:List Int) (z9:StT),Code.loop lpFe=Code.loop lpFe∧(Zba::Zae (Zam 1 ps)::Zae (i64 k)::Zba::Zbe 0 0::bds 3 (Zbe 1 0::Zba::Zae (Zam 1 (digR (Prod.fst z2)))::bds 22 (Zae (Zam 1 ss)::Zae (i64 ((Zab ss:Nat):Int))::Zae (i64 0)::bds 38 [])))=(Zba::Zae (Zam 1 (AAc9 ps4))::Zae (i64 (k5:Int))::Zba::Zbe 0 0::bds 3 (Zbe 1 0::Zba::Zae (Zam 1 (digR (ACc9 ps4 k5)))::bds 22 (Zae (Zam 1 (intsR ss8))::Zae (i64 ((Zab (intsR ss8):Nat):Int))::Zae (i64 0)::bds 38 [])))∧ [stB s,Blk.mk Qz3 false false 0]= [stB st7,Blk.mk Qz3 false false 0]∧((Lays no3 ps4∧k5<Zab ps4∧(∀(x:Int),x∈nthL ps4 k5→(0:Int)≤x∧x<(256:Int))∧ABb9 t6=true∧(∀(s:Int),s∈ss8→seedS s=true)∧Zab ss8≤1000∧(st7=laySt no3 ps4 (k5+1) [] [] t6∨∃(l10:List Row) (q11:List Int),st7=laySt no3 ps4 k5 l10 q11 t6∧Tru (nthL ps4 k5) l10∧Zab l10<16∧(l10≠ []→q11=ACc9 ps4 k5)∧(l10≠ []∨q11= [])))∧z9=feedT ps4 k5 st7 ss8)∧∀(i:Int),R (.tup [stV z9,Zae (bo true)]) b))):=by kernel_rfl
def BSr9 (no:NotT) (ps:List (List Int)) (k:Nat) (t:TrT) (st:StT) (ss:List Int):Prop:=Lays no ps∧k<ps.length∧AHx9 (nthL ps k)∧ABb9 t=true∧(∀s∈ss,seedS s=true)∧ss.length≤1000∧Fed no ps k t st
theorem BZo9 {no:NotT} {ps:List (List Int)} {k:Nat} {t:TrT} {st:StT} {ss:List Int} (h:BSr9 no ps k t st ss):PCall prog 28 [stV st, .d (.sl 1 (AAc9 ps)), .d (i64 k), .d (.sl 1 (intsR ss))] (.tup [stV (feedT ps k st ss), .d (bo true)]):=by
 refine PCall.ofFnW (n:=100) (u:=false) (fun _=>wlFe) mixed BSq9 Zad (fun Ev=>BTf9) func28 (by rfl) (by rfl) fun Ev bb=> ?_;rw [BWk9];have hp:=BIp9 h.1.are h.2.1;refine ⟨ps,k,_,rfl,rfl,BIf.f (by rw [hp];rfl) (BIf.f (by rw [AAe9];have:=h.2.1;simp;omega) ⟨no,ps,k,t,st,ss,_,rfl,by rw [hp],rfl,⟨h,rfl⟩,fun i=>rfl⟩)⟩
def cFeed (args:List AV) (K:AV→Prop):Prop:=∃(no:NotT) (ps:List (List Int)) (k:Nat) (t:TrT) (st:StT) (ss:List Int) (z:StT),args= [stV st, .d (.sl 1 (AAc9 ps)), .d (i64 k), .d (.sl 1 (intsR ss))]∧(BSr9 no ps k t st ss∧z=feedT ps k st ss)∧K (.tup [stV z, .d (bo true)])
theorem BFv9:∀args K,cFeed args K→∃x,PCall prog 28 args x∧K x:=by
 rintro _ K ⟨no,ps,k,t,st,ss,_,rfl,⟨h1,rfl⟩,h⟩;exact ⟨_,BZo9 h1,h⟩
noncomputable def lpPg:Code:=sub [1,1,0,1,2,3] (code f45)
def prgF (i:Nat):Int:=Zac .u8 (Zac .i64 (1+Int.tmod (Zac .i64 ((i:Int)*5)) 251))
def prgP (k:Nat):List Int:=(List.range k).map prgF++Zaf (300 - k) 0
def prg:List Int:=(List.range 300).map prgF
def tmPg (n i:Int):List AV:= [.bad, .bad, .bad, .gref 0 0 300 1, .bad, .bad, .bad, .bad, .d (i64 n), .d (i64 i)]++Zaf 12 .bad
theorem rPg (cs:List AV) (n i:Int):wpc prog ⟨[],GB5,wl,y,false⟩ 100 lpPg (tmPg n i) [blkG cs 0] b (maskT [3,8,9] K)=(BIf (decide (i<n)) (0=0∧BIf (decide (0≤i)&&decide (i<(300:Int))) (0=0∧BIf (decide (Zat i*1+1≤Zab cs)) (K .normal (bds 3 (AV.gref 0 0 300 1::bds 4 (Zae (i64 n)::Zae (i64 (Zac .i64 (i+1)))::bds 12 []))) [Blk.mk (List.take (Zat i*1) cs++ [Zae (u8 (Zac .u8 (Zac .i64 ((1:Int)+Int.tmod (Zac .i64 (i*(5:Int))) (251:Int)))))]++List.drop (Zat i*1+1) cs) false true 0] b) False) False) (K (Exit.exit 0) (bds 3 (AV.gref 0 0 300 1::bds 4 (Zae (i64 n)::Zae (i64 i)::bds 12 []))) [Blk.mk cs false true 0] b)):=by kernel_rfl
theorem BHw9 {k:Nat} (hk:k<300):(flatA (AAb9 (prgP k))).take (k*1)++ [Zae (u8 (prgF k))]++(flatA (AAb9 (prgP k))).drop (k*1+1)=flatA (AAb9 (prgP (k+1))):=by
 have e0:((List.range k).map prgF).length=k:=by simp
 have e1:prgP (k+1)=(List.range k).map prgF++ [prgF k]++Zaf (300 - (k+1)) 0:=by
  rw [prgP,List.range_succ,List.map_append];rfl
 have e2:Zaf (300 - k) (0:Int)=0::Zaf (300 - (k+1)) 0:=by
  rw [show 300 - k=(300 - (k+1))+1 by omega,List.replicate_succ]
 rw [ADv9,ADv9,e1,Nat.mul_one,prgP,e2];rw [←List.map_take,←List.map_drop,List.take_left' e0,List.drop_append,List.drop_of_length_le (by omega),e0];simp
theorem BPb9 {k:Nat} (hk:k≤300):(prgP k).length=300:=by simp [prgP];omega
theorem wrPg {Ev:Env prog} {b:Ev.β} {Q:Exit→St Ev.β→Prop}:∀(n k:Nat),300 - k=n→k≤300→
 (∀i:Int,Q (.exit 0) ⟨tmPg 300 i, [blkG (flatA (AAb9 prg)) 0],b⟩)→WR Ev lpPg (n+1) ⟨tmPg 300 k, [blkG (flatA (AAb9 (prgP k))) 0],b⟩ Q
 | n,k,hn,hk,h=>by
  refine WR.ofMaskT [3,8,9] mixed (CX.Ok.of (u:=false) Zai BSs9) (k:=100) ?_;rw [rPg];refine Zau (fun g=> ?_) fun g=> ?_
  ·have hlt:k<300:=by have:=of_decide_eq_true g;omega
   refine ⟨rfl,Zbr (by simp<;>omega) ⟨rfl,Zbr (by rw [ADv9,List.length_map,BPb9 hk];simp<;>omega) ?_⟩⟩;rw [Int.toNat_natCast,show Zac .u8 (Zac .i64 (1+Int.tmod (Zac .i64 ((k:Int)*5)) 251))=prgF k from rfl,BHw9 hlt,ACt9 (n:=300) hlt (by omega)];cases n with
   |zero=>omega
   |succ n=>exact wrPg n (k+1) (by omega) (by omega) h
  ·have hk:k=300:=by have:=of_decide_eq_false g;omega
   subst hk;have e:prgP 300=prg:=by rw [prgP,Nat.sub_self,List.replicate_zero,List.append_nil];rfl
   rw [e];exact h _
def wlPg {β:Type}:WLT β:=fun c tm hp b K=>c= .loop lpPg∧ABo9 [3,8,9] 0 tm=tmPg 300 0∧hp= [blkG (flatA (Zaf 300 [u8 0])) 0]∧∃z:List Int,z=prg∧∀k:Int,K (.exit 0) (tmPg 300 k) [blkG (flatA (AAb9 z)) 0] b
theorem BTc9 {Ev:Env prog} (c:Code) (tm:List AV) (hp:List Blk) (b:Ev.β) (K:Exit→List AV→List Blk→Ev.β→Prop) (h:wlPg c tm hp b K):W Ev c ⟨tm,hp,b⟩ (fun e s=>K e s.tm s.hp s.b):=by
 obtain ⟨rfl,htm,rfl,z,rfl,hK⟩:=h;refine W.cast (htm▸AAg9 _ tm 0) (LeH.refl _) ?_;have e:Zaf 300 [u8 0]=AAb9 (prgP 0):=by rw [prgP,List.range_zero,List.map_nil,List.nil_append,AAb9,List.map_replicate]
 rw [e];exact W.rounds (wrPg (Q:=fun e s=>K e s.tm s.hp s.b) 300 0 rfl (by omega) hK)
abbrev Qz32:List AV:=bds 3 (AV.gref 0 0 300 1::bds 4 (Zae (i64 300)::Zae (i64 0)::bds 12 []))
theorem BDe9:wpFn prog ⟨[],GB5,wlPg,y,false⟩ 100 f45 [.d (i64 300)] b R=(0=0∧Code.loop lpPg=Code.loop lpPg∧Qz32=Qz32∧ [Blk.mk (Zaf 300 (Zae (u8 0))) false true 0]= [Blk.mk (Zaf 300 (Zae (u8 0))) false true 0]∧∃(z0:List Int),z0=prg∧∀(k:Int),0=0∧∃(xs1:List (List Dv)),flatA (AAb9 z0)=flatA xs1∧Zab xs1=300∧(∀(r:List Dv),r∈xs1→Zab r=1)∧R (.d (Zam 1 xs1)) b):=by kernel_rfl
theorem AIr9:prg.length=300:=by simp [prg]
theorem BIa9:PCall prog 45 [.d (i64 300)] (.d (.sl 1 (AAb9 prg))):=by
 refine PCall.ofFnW (n:=100) (u:=false) (fun _=>wlPg) mixed Zai BSs9 (fun Ev=>BTc9) func45 (by rfl) (by rfl) fun Ev bb=> ?_;rw [BDe9];refine ⟨rfl,rfl,rfl,rfl,_,rfl,fun _=>⟨rfl,AAb9 prg,rfl,by rw [AAf9,AIr9],BKn9,rfl⟩⟩
def BFo9 (args:List AV) (K:AV→Prop):Prop:=∃z:List Int,args= [.d (i64 300)]∧z=prg∧K (.d (.sl 1 (AAb9 z)))
theorem BAc9:∀args K,BFo9 args K→∃x,PCall prog 45 args x∧K x:=by
 rintro _ K ⟨_,rfl,rfl,h⟩;exact ⟨_,BIa9,h⟩
set_option maxRecDepth 100000
set_option maxHeartbeats 0
def BFc9 (args:List AV) (K:AV→Prop):Prop:=∃(s:StT) (z:List Int) (e:Bool),args= [stV s]∧(ABe9 s∧(z,e)=AKi9 s.sp)∧K (.tup [.d (.sl 1 (AAb9 z)), .d (bo e)])
theorem ATd9:∀args K,BFc9 args K→∃x,PCall prog 30 args x∧K x:=by
 rintro _ K ⟨s,z,e,rfl,⟨hs,he⟩,h⟩;exact BKa9 _ K ⟨s.sp,z,e,rfl,⟨by have:=hs.1.1;show s.ps.length≤_;omega,he⟩,h⟩
def THe:List (Nat×(List AV→(AV→Prop)→Prop)):= [(45,BFo9),(27,BFf9),(25,AQl9),(21,lessC BRn9),(34,cEncB),(15,lessC AQk9),(29,BFp9),(28,cFeed),(30,BFc9),(17,semC BMp9),(31,BRy9)]
theorem CDi9:AAk9 prog THe:=Zag BAc9 (Zag ATe9 (Zag ANb9 (Zag (AJr9 AXw9) (Zag AVg9 (Zag (AJr9 AMw9) (Zag ATh9 (Zag BFv9 (Zag ATd9 (Zag (BUi9 BFj9) (Zag AYb9 Zai))))))))))
abbrev Qz30 (v0:Int) (v1:Int) (v2:List Int):List AV:= [Zae (i64 v0),Zae (i64 v1),Zae (Zam 1 (AAb9 v2)),Zae (Dv.s (.slice none 0 0))]
theorem BOm9:wpFn prog ⟨THe, [],wl,y,false⟩ 200 f13 [] b R=(∃(z0:List Int), [Zae (i64 300)]= [Zae (i64 300)]∧z0=prg∧∃(p1:List Int) (q2:List (List Int)) (e3:Int), [Zae (Zam 1 (AAb9 z0))]= [Zae (Zam 1 (AAb9 p1))]∧(Zab p1≤9223372036854775807∧(q2,e3)=AYx9 p1)∧∃(v4:Int) (t5:Int) (p6:List Int) (z7:NotT) (e8:Int), [Zae (i64 2),Zae (Zam 1 (AAb9 z0)),Zae (i64 100)]= [Zae (i64 v4),Zae (Zam 1 (AAb9 p6)),Zae (i64 t5)]∧(Zab p6≤9223372036854775807∧(z7,e8)=annS v4 p6 t5)∧∃(args9:List AV),LeVs [Zbj [Zae (i64 0),Zae (i64 0),Zae (u64 0),Zae (i64 0),Zae (Dv.s (.slice none 0 0)),Zae (Dv.s (.slice none 0 0)),Zae (Dv.s (.slice none 0 0)),Zae (Dv.s (.slice none 0 0)),Zae (i64 0),Zae (i64 0),Zae (i64 0),Zae (i64 0),Zae (i64 7)],noV z7,Zae (i64 1),Zae (i64 5)] args9∧∃(s10:StT) (n11:NotT) (p12:Int) (f13:Int) (z14:StT),args9= [stV s10,noV n11,Zae (i64 p12),Zae (i64 f13)]∧((ABe9 s10)∧z14=hearS s10 n11 p12 f13)∧BIf (e3 !=(0:Int)) (R (.d (bo false)) b) (BIf (e8 !=(0:Int)) (R (.d (bo false)) b) (BIf (!(Zcl (Zbv z14)==Zcl z7&&(Zda (Zbv z14)==Zda z7&&(Zdk (Zbv z14)==Zdk z7&&(Zdg (Zbv z14)==Zdg z7&&true))))) (R (.d (bo false)) b) (BIf (TrT.iv (StT.tr z14) !=(1:Int)) (R (.d (bo false)) b) (BIf (TrT.sd (StT.tr z14) !=(7:Int)) (R (.d (bo false)) b) (∃(xs15:List (List Dv)),(AAc9 q2)[1]? =some [Zam 1 xs15]∧∃(p18:List Int) (n19:Int) (s20:Int) (d21:List Int), [Zae (Zam 1 xs15),Zae (i64 1),Zae (i64 0)]= [Zae (Zam 1 (AAb9 p18)),Zae (i64 n19),Zae (i64 s20)]∧(encOk p18 n19 s20=true∧d21=encS p18 s20)∧∃(args22:List AV),LeVs [stV z14,Zbj (Qz30 n19 s20 d21)] args22∧∃(s23:StT) (x24:BlkT) (z25:StT) (e26:Int),args22= [stV s23,bkV x24]∧(((ABe9 s23)∧Zab (BlkT.pf x24)≤1000000)∧(z25,e26)=recvT s23 x24)∧∃(args27:List AV),LeVs [Zbj Qz3,Zbj (Qz30 n19 s20 d21)] args27∧∃(s28:StT) (x29:BlkT) (z30:StT) (e31:Int),args27= [stV s28,bkV x29]∧(((ABe9 s28)∧Zab (BlkT.pf x29)≤1000000)∧(z30,e31)=recvT s28 x29)∧([]:List AV)= []∧∃(z32:List Int),z32=ss0∧∃(no33:NotT) (ps34:List (List Int)) (k35:Nat) (t36:TrT) (st37:StT) (ss38:List Int) (z39:StT), [stV z14,Zae (Zam 1 (AAc9 q2)),Zae (i64 0),Zae (Zam 1 (intsR z32))]= [stV st37,Zae (Zam 1 (AAc9 ps34)),Zae (i64 (k35:Int)),Zae (Zam 1 (intsR ss38))]∧((Lays no33 ps34∧k35<Zab ps34∧(∀(x:Int),x∈nthL ps34 k35→(0:Int)≤x∧x<(256:Int))∧ABb9 t36=true∧(∀(s:Int),s∈ss38→seedS s=true)∧Zab ss38≤1000∧(st37=laySt no33 ps34 (k35+1) [] [] t36∨∃(l40:List Row) (q41:List Int),st37=laySt no33 ps34 k35 l40 q41 t36∧Tru (nthL ps34 k35) l40∧Zab l40<16∧(l40≠ []→q41=ACc9 ps34 k35)∧(l40≠ []∨q41= [])))∧z39=feedT ps34 k35 st37 ss38)∧([]:List AV)= []∧∃(z42:List Int),z42=ss0∧∃(no43:NotT) (ps44:List (List Int)) (k45:Nat) (t46:TrT) (st47:StT) (ss48:List Int) (z49:StT), [stV z39,Zae (Zam 1 (AAc9 q2)),Zae (i64 1),Zae (Zam 1 (intsR z42))]= [stV st47,Zae (Zam 1 (AAc9 ps44)),Zae (i64 (k45:Int)),Zae (Zam 1 (intsR ss48))]∧((Lays no43 ps44∧k45<Zab ps44∧(∀(x:Int),x∈nthL ps44 k45→(0:Int)≤x∧x<(256:Int))∧ABb9 t46=true∧(∀(s:Int),s∈ss48→seedS s=true)∧Zab ss48≤1000∧(st47=laySt no43 ps44 (k45+1) [] [] t46∨∃(l50:List Row) (q51:List Int),st47=laySt no43 ps44 k45 l50 q51 t46∧Tru (nthL ps44 k45) l50∧Zab l50<16∧(l50≠ []→q51=ACc9 ps44 k45)∧(l50≠ []∨q51= [])))∧z49=feedT ps44 k45 st47 ss48)∧∃(s52:StT) (z53:List Int) (e54:Bool), [stV z49]= [stV s52]∧((ABe9 s52)∧(z53,e54)=AKi9 (StT.sp s52))∧∃(args55:List AV),LeVs [stV z49,Zbj (Qz30 n19 s20 d21)] args55∧∃(s56:StT) (x57:BlkT) (z58:StT) (e59:Int),args55= [stV s56,bkV x57]∧(((ABe9 s56)∧Zab (BlkT.pf x57)≤1000000)∧(z58,e59)=recvT s56 x57)∧∃(args60:List AV),SemVs [stV z49,AV.full 31 [[i64 0,i64 0,i64 0,i64 0,i64 0,i64 0,i64 0,i64 0,i64 0,i64 0,i64 0,i64 0,Dv.s (.slice none 0 0),Dv.s (.slice none 0 0),Dv.s (.slice none 0 0),Dv.s (.slice none 0 0),bo false,Dv.s (.slice none 0 0),Dv.s (.slice none 0 0),Dv.s (.slice none 0 0),i64 (Zcl z7),i64 (Zda z7),u64 (Zdk z7),i64 (Zdg z7),i64 1,i64 0,i64 0,i64 0,Dv.s (.slice none 0 0),Dv.s (.slice none 0 0),bo false]],Zae (i64 5)] args60∧∃(s61:StT) (l62:List NearT) (f63:Int) (z64:StT) (x65:BlkT) (e66:Bool),args60= [stV s61,Zae (Zam 31 (nearR l62)),Zae (i64 f63)]∧(((ABe9 s61)∧Zab l62≤1000000)∧(z64,x65,e66)=AFm9 s61 l62 f63)∧BIf (e26==(6:Int)) (BIf (e31==(4:Int)) (BIf (e59==(10:Int)) (BIf e54 (BIf (((Zab (AAc9 (StT.ps z39)):Nat):Int)==(1:Int)) (∃(a67:List Int) (c68:List Int) (z69:Bool), [Zae (Zam 1 (AAb9 z53)),Zae (Zam 1 (AAb9 z0))]= [Zae (Zam 1 (AAb9 a67)),Zae (Zam 1 (AAb9 c68))]∧(Zab a67≤9223372036854775807∧z69=decide (a67=c68))∧BIf z69 (BIf e66 (BIf (BlkT.n x65==(1:Int)) (BIf (BlkT.s x65==(327:Int)) (R (.d (bo (((Zab (digR (BlkT.pf x65)):Nat):Int)==(1:Int)))) b) (R (.d (bo false)) b)) (R (.d (bo false)) b)) (R (.d (bo false)) b)) (R (.d (bo false)) b)) (R (.d (bo false)) b)) (R (.d (bo false)) b)) (R (.d (bo false)) b)) (R (.d (bo false)) b)) (R (.d (bo false)) b))))))):=by kernel_rfl
set_option maxRecDepth 20000
set_option maxHeartbeats 2000000
def hps:List (List Int):=ABn9 prg
def hno:NotT:=(annS 2 prg 100).1
def ht:TrT:=AGm9 7 1 5
theorem hsz:ADd9 (prg.length:Int)=true:=by rw [AIr9];decide
theorem hann:AAi9 2 (prg.length:Int) 100=true:=by rw [AIr9];decide
theorem CAv9:annS 2 prg 100=(hno,0):=by rw [hno,(AKv9 hsz hann).1]
theorem hlays:Lays hno hps:=by
 have:=AKv9 (v:=2) (t:=100) hsz hann;rw [hno,this.1];exact this.2
theorem AFe9:hps.length=2:=by rw [hps,AKr9,AIr9]
theorem BUt9:∀x∈prg,IsB x:=by
 intro x hx;obtain ⟨i,hi,rfl⟩:=List.mem_map.1 hx;have hi:=List.mem_range.1 hi;have key:∀i,i<300→IsB (prgF i):=by unfold IsB;decide+kernel
 exact key i hi
theorem BIz9 {k:Nat} (hk:k<2):AHx9 (nthL hps k):=fun x hx=>AOa9 BUt9 _ (AEf9 (by show k<hps.length;rw [AFe9];exact hk)) x hx
theorem AJu9:ABb9 ht=true:=AOy9 (.inl rfl) (by decide) (by decide)
theorem CAu9:AIf9 (1000003*7+5) (1 - 1 / 2)=0:=by
 have:=AIe9 (1000003*7+5) (n:=1 - 1 / 2) (by decide) (by decide);omega
theorem ht_fi:ht.fi=5:=by
 show (5:Int)+1 / 2+AIf9 (1000003*7+5) (1 - 1 / 2)=5;rw [CAu9];decide
theorem BWg9:tickT ht 5=(ht,true):=by
 have e:AIx9 ht 5=ht:=by rw [AIx9,if_neg (by decide)]
 rw [tickT,if_pos (by rw [AJu9];decide),e,ht_fi];rfl
def zst (sd:Int):StT:=⟨⟨0,0,0,0⟩, [], [], [], [],⟨0,0,0,0,sd⟩⟩
def hst:StT:=laySt hno hps 0 [] [] ht
theorem ASi9:hno.v=2∧hno.n=300∧hno.t=100:=by
 rw [hno,(AKv9 hsz hann).1];exact ⟨rfl,by show (prg.length:Int)=300;rw [AIr9];rfl,rfl⟩
theorem hhear:hearS (zst 7) hno 1 5=hst:=by
 obtain ⟨f1,f2,f3⟩:=ASi9;have h1:AGk9 (zst 7) hno 1 5=true:=by
  rw [AGk9,show ACv9 (zst 7)=true by rw [ACv9,show AGl9 (zst 7)=true by decide];rfl,hlays.ann,f2,show ACi9 5=true by decide,show ABl9 300=2 by decide];simp
 have e:(newT 7 5).1=ht:=by rw [newT,if_pos (by decide)];rfl
 rw [hearS,if_neg (by rw [h1];decide),if_pos (by rw [f1];decide)];show StT.mk hno [] [] [] [] (newT 7 5).1=_;rw [e];rfl
theorem hfeed {k:Nat} (hk:k<2):feedT hps k (laySt hno hps k [] [] ht) ss0=laySt hno hps (k+1) [] [] ht:=by
 have hk':k<hps.length:=by rw [AFe9];exact hk
 have hf:=BGk9 (p:=nthL hps k) (ms:=masks ss0) (BIz9 hk) (by decide+kernel) AMe9;rcases AQg9 hlays hk' (BIz9 hk) AJu9 ss0 [] [] (by decide) (Tru.nil _) (by simp) (by simp) (.inr rfl) with h|⟨q,h1,h2⟩
 ·exact h.1
 ·omega
theorem hbad (m:Int) (hm:seedS m=true):badB (blkOf hps 1 m)=false:=by
 obtain ⟨c1,c2⟩:=AGe9.1 hm;have hd:(encS (nthL hps 1) m).length=16:=by rw [AXo9 hm];exact ACw9 _ _
 have e:badB (blkOf hps 1 m)=(decide ((1:Int)<0)||(decide ((1:Int)≥16)||(decide (m<0)||(decide (m>1000000000)||(((encS (nthL hps 1) m).length:Int) !=16))))):=rfl;rw [e,hd,decide_eq_false (p:=m<0) (by omega),decide_eq_false (p:=m>1000000000) (by omega)];rfl
def hblk:BlkT:=⟨1,0,encS (nthL hps 1) 0, []⟩
theorem hbad0:badB hblk=false:=by
 have:=hbad 0 (by decide);exact this
theorem CAw9:(recvT hst hblk).2=6:=by
 obtain ⟨a1,a2⟩:=AGh9 hlays (k:=0) (by omega) (l:= []) (q:= []) (Tru.nil []).good (by simp) (.inl rfl) (.inr rfl) AJu9;have hf:fullP hst=false:=by
  rw [hst,fullP,ACd9 (by omega),show (laySt hno hps 0 [] [] ht).no=hno from rfl,hlays.cnt,AFe9];decide
 have hr:ABu9 hst hblk=6:=by
  rw [ABu9,if_neg (by rw [hst,a2,hbad0];decide),if_neg (by rw [hst,a1];decide),if_neg (by rw [hf];decide)];rfl
 rw [recvT,if_pos (by rw [hr];decide),hr]
theorem CAx9:(recvT (zst 0) hblk).2=4:=by
 have hv:ACv9 (zst 0)=true:=by rw [ACv9,show AGl9 (zst 0)=true by decide];rfl
 have hr:ABu9 (zst 0) hblk=4:=by
  rw [ABu9,if_neg (by rw [hv,hbad0];decide),if_pos (by decide)]
 rw [recvT,if_pos (by rw [hr];decide),hr]
def hend:StT:=laySt hno hps 2 [] [] ht
theorem BIw9:AGl9 hend=false∧ACv9 hend=true:=AGh9 hlays (k:=2) (by rw [AFe9];omega) (l:= []) (q:= []) (Tru.nil []).good (by simp) (.inl rfl) (.inr rfl) AJu9
theorem hfull:(recvT hend hblk).2=10:=by
 have hf:fullP hend=true:=by
  rw [hend,fullP,ACd9 (by rw [AFe9];omega),show (laySt hno hps 2 [] [] ht).no=hno from rfl,hlays.cnt,AFe9];decide
 have hr:ABu9 hend hblk=10:=by
  rw [ABu9,if_neg (by rw [BIw9.2,hbad0];decide),if_neg (by rw [BIw9.1];decide),if_pos hf]
 rw [recvT,if_pos (by rw [hr];decide),hr]
theorem CAt9:AKi9 hend.sp=(prg,true):=by
 have h1:ACj9 hend.sp=true:=AEw9 hlays (by rw [AFe9];omega) [] [] ht;have h2:hend.sp.ps=hps:=List.take_of_length_le (by rw [AFe9];omega);have h3:hend.sp.no.n=((prg.length:Nat):Int):=by rw [AIr9];exact ASi9.2.1
 have h4:=ASg9 (p:=prg) (n:=prg.length) hsz rfl;rw [List.drop_of_length_le (Nat.le_refl _),if_pos (by rfl),Nat.sub_self,List.replicate_zero,List.append_nil,List.take_of_length_le (Nat.le_refl _)] at h4;rw [AKi9,if_pos h1,h2,h3,show joinS hps prg.length=joinS (ABn9 prg) prg.length from rfl,h4];rfl
def hnear:NearT:=⟨0,0,0,0,0,0,0,0,0,0,0,0, [], [], [], [],false, [], [], [],hno,1,0,0,0, [], [],false⟩
theorem BIy9:(AFm9 hend [hnear] 5).2.2=true∧(AFm9 hend [hnear] 5).2.1.n=1∧(AFm9 hend [hnear] 5).2.1.s=327∧(AFm9 hend [hnear] 5).2.1.pf.length=1:=by
 have h1:AHr9 hend 5=true:=by rw [AHr9,BIw9.1,BIw9.2];decide
 have hl:lackP hend [hnear]= [1]:=by
  rw [lackP,List.filter_cons,if_pos (show eqN hnear.no hend.no=true from BWs9.2 rfl)];rfl
 have hp:hend.ps.length=2:=ACd9 (by rw [AFe9];omega) [] [] ht;have hle:AIv9 [1] 2=1:=by decide
 have htk:tickT hend.tr 5=(ht,true):=BWg9;rw [AFm9,if_neg (by rw [h1];decide),hl,hp,htk];rw [if_neg (by rw [show AIv9 [1] ((2:Nat):Int)=1 from hle];decide)];rw [show AIv9 [1] ((2:Nat):Int)=1 from hle];refine ⟨rfl,rfl,rfl, ?_⟩;have e:nthL hend.qs (1:Int).toNat=ACc9 hps 1:=rfl;show (nthL hend.qs (1:Int).toNat).length=1;rw [e,ACc9,ADk9];generalize hm:hps.map leafS=now;have hn:now.length=2:=by rw [←hm,List.length_map,AFe9]
 rw [hn];have e2:(nextL now).length=1:=by
  match now,hn with
  | [a,c],_=>rfl
 rw [ADb9,if_pos (by omega),ADb9,if_neg (by omega),AEy9,if_pos (by rw [hn];decide),AEy9,if_neg (by rw [e2];decide),AEy9];rfl
set_option maxRecDepth 100000
set_option maxHeartbeats 4000000
theorem zstLe (sd:Int):LeV (Zbj [Zae (i64 (0:Int)),Zae (i64 (0:Int)),Zae (u64 (0:Int)),Zae (i64 (0:Int)),Zae (Dv.s (Zbo none 0 0)),Zae (Dv.s (Zbo none 0 0)),Zae (Dv.s (Zbo none 0 0)),Zae (Dv.s (Zbo none 0 0)),Zae (i64 (0:Int)),Zae (i64 (0:Int)),Zae (i64 (0:Int)),Zae (i64 (0:Int)),Zae (i64 sd)]) (stV (zst sd)):=
 LeV.aggs (.cons .rfl (.cons .rfl (.cons .rfl (.cons .rfl (.cons (.nil rfl) (.cons (.nil rfl) (.cons (.nil rfl) (.cons (.nil rfl) (LeVs.refl _)))))))))
theorem BSe9 (n s:Int) (d:List Int):LeV (Zbj [Zae (i64 n),Zae (i64 s),Zae (Zam 1 (AAb9 d)),Zae (Dv.s (Zbo none 0 0))]) (bkV ⟨n,s,d, []⟩):=
 LeV.aggs (.cons .rfl (.cons .rfl (.cons .rfl (.cons (.nil rfl) .nil))))
theorem BZp9 (n:NotT) (p:Int):ANf9 [[i64 (0:Int),i64 (0:Int),i64 (0:Int),i64 (0:Int),i64 (0:Int),i64 (0:Int),i64 (0:Int),i64 (0:Int),i64 (0:Int),i64 (0:Int),i64 (0:Int),i64 (0:Int),Dv.s (Zbo none 0 0),Dv.s (Zbo none 0 0),Dv.s (Zbo none 0 0),Dv.s (Zbo none 0 0),bo false,Dv.s (Zbo none 0 0),Dv.s (Zbo none 0 0),Dv.s (Zbo none 0 0),i64 (Zcl n),i64 (Zda n),u64 (Zdk n),i64 (Zdg n),i64 p,i64 (0:Int),i64 (0:Int),i64 (0:Int),Dv.s (Zbo none 0 0),Dv.s (Zbo none 0 0),bo false]]
 (nearR [⟨0,0,0,0,0,0,0,0,0,0,0,0, [], [], [], [],false, [], [], [],n,p,0,0,0, [], [],false⟩]):=by
 refine .cons ?_ .nil;have r:∀ {c:Dv} {xs ys:List Dv},AFz9 xs ys→AFz9 (c::xs) (c::ys):=fun h=> .cons .rfl h;have z:∀ {k:Nat} {xs ys:List Dv},AFz9 xs ys→AFz9 (.s (.slice none 0 0)::xs) (.sl k []::ys):=fun h=> .cons .nil h;exact r<|r<|r<|r<|r<|r<|r<|r<|r<|r<|r<|r<|z<|z<|z<|z<|r<|z<|z<|z<|r<|r<|r<|r<|r<|r<|r<|r<|z<|z<|r .nil
theorem BIx9 {k:Nat} (hk:k≤2):ABe9 (laySt hno hps k [] [] ht):=by
 by_cases h0:k=0
 ·subst h0;exact ⟨⟨by simp [laySt],by simp [laySt]⟩,⟨by simp [laySt],by simp [laySt]⟩,⟨by simp [laySt],by simp [laySt]⟩,by simp [laySt]⟩
 ·obtain ⟨j,rfl⟩:∃j,k=j+1:=⟨k - 1,by omega⟩;exact Fed.small (k:=j) hlays (by rw [AFe9];omega) (.inl rfl)
theorem BNg9 (sd:Int):ABe9 (zst sd):=⟨⟨by simp [zst],by simp [zst]⟩,⟨by simp [zst],by simp [zst]⟩,⟨by simp [zst],by simp [zst]⟩,by simp [zst]⟩
theorem BVc9:PCall prog 13 [] (.d (bo true)):=by
 refine PCall.ofFn (n:=200) (u:=false) mixed CDi9 Zad func13 (by rfl) (by rfl) fun Ev bb=> ?_;rw [BOm9];have hk1:(1:Nat)<hps.length:=by rw [AFe9];omega
 have hk0:(0:Nat)<hps.length:=by rw [AFe9];omega
 have hq1:(AAc9 hps)[1]? =some [Zam 1 (AAb9 (nthL hps 1))]:=by
  match hh:hps,AFe9 with
  | [a,c],_=>rfl
 have hl1:(nthL hps 1).length=256:=hlays.two _ (AEf9 hk1);have hs0:∀s∈ss0,seedS s=true:=by decide
 refine ⟨prg,rfl,rfl,prg,hps,0,rfl,⟨by rw [AIr9];omega,by rw [AYx9,if_pos hsz];rfl⟩,2,100,prg,hno,0,rfl,⟨by rw [AIr9];omega,CAv9.symm⟩, [stV (zst 7),noV hno, .d (i64 1), .d (i64 5)], .cons (zstLe 7) (LeVs.refl _),zst 7,hno,1,5,hst,rfl,⟨BNg9 7,hhear.symm⟩,
  BIf.f (by decide) (BIf.f (by decide) (BIf.f ?_ (BIf.f (by decide) (BIf.f (by decide) ⟨_,hq1,nthL hps 1,1,0,encS (nthL hps 1) 0,rfl,⟨by rw [encOk,hl1];decide,rfl⟩, [stV hst,bkV hblk], .cons .rfl (.cons (BSe9 _ _ _) .nil),hst,hblk,_,6,rfl,⟨⟨BIx9 (by omega),by decide⟩,by rw [←CAw9]⟩,
   [stV (zst 0),bkV hblk], .cons (zstLe 0) (.cons (BSe9 _ _ _) .nil),zst 0,hblk,_,4,rfl,⟨⟨BNg9 0,by decide⟩,by rw [←CAx9]⟩,rfl,ss0,rfl,
   hno,hps,0,ht,hst,ss0,laySt hno hps 1 [] [] ht,rfl,⟨⟨hlays,hk0,BIz9 (by omega),AJu9,hs0,by decide, .inr ⟨[], [],rfl,Tru.nil _,by simp,by simp, .inr rfl⟩⟩,(hfeed (k:=0) (by omega)).symm⟩,rfl,ss0,rfl,
   hno,hps,1,ht,laySt hno hps 1 [] [] ht,ss0,hend,rfl,⟨⟨hlays,hk1,BIz9 (by omega),AJu9,hs0,by decide, .inr ⟨[], [],rfl,Tru.nil _,by simp,by simp, .inr rfl⟩⟩,(hfeed (k:=1) (by omega)).symm⟩,
   hend,prg,true,rfl,⟨BIx9 (by omega),CAt9.symm⟩, [stV hend,bkV hblk], .cons .rfl (.cons (BSe9 _ _ _) .nil),hend,hblk,_,10,rfl,⟨⟨BIx9 (by omega),by decide⟩,by rw [←hfull]⟩,
   [stV hend, .d (.sl 31 (nearR [hnear])), .d (i64 5)], .cons .rfl (.cons (SemV.rows (BZp9 hno 1)) (.cons .rfl .nil)),hend, [hnear],5,(AFm9 hend [hnear] 5).1,(AFm9 hend [hnear] 5).2.1,true,rfl,⟨⟨BIx9 (by omega),by decide⟩,by rw [←BIy9.1]⟩,
   Zbr (by decide) (Zbr (by decide) (Zbr (by decide) (Zbr rfl (Zbr ?_ ⟨prg,prg,true,rfl,⟨by rw [AIr9];omega,by simp⟩,Zbr rfl (Zbr rfl (Zbr ?_ (Zbr ?_ ?_)))⟩))))⟩))))⟩
 ·show (!(hno.v==hno.v&&(hno.n==hno.n&&(hno.r==hno.r&&(hno.t==hno.t&&true)))))=false;simp
 ·rw [AAe9,ACd9 (k:=1) (by omega)];rfl
 ·rw [BIy9.2.1];rfl
 ·rw [BIy9.2.2.1];rfl
 ·rw [ABd9,BIy9.2.2.2];rfl
def BXb9 (args:List AV) (K:AV→Prop):Prop:=args= []∧K (.d (bo true))
theorem BKe9:∀args K,BXb9 args K→∃x,PCall prog 13 args x∧K x:=by
 rintro _ K ⟨rfl,h⟩;exact ⟨_,BVc9,h⟩
end Go.Proofs.YtibhflogmbfpcaaGreatDoor.Am
namespace Go.Proofs.YtibhflogmbfpcaaGreatDoor.Am
open Go Go.RowKit Go.Proofs Go.ChangeShapes Go.WideShapes Go.ChangeAt Tryz
open AV renaming agg → Zbj, bad → Zba, d → Zae, ptr → Zbe, rptr → Zcj
open BIf renaming of → Zau, t → Zbr
open AAk9 renaming cons → Zag, nil → Zai
open Dv renaming sl → Zam
open Int renaming toNat → Zat
open Go.IntKind renaming i64 → Zax, wrap → Zac
open List renaming length → Zab, replicate → Zaf
open NotT renaming n → Zda, r → Zdk, t → Zdg, v → Zcl
open AAn9 renaming cons → Zcr, nil → Zad
open StT renaming no → Zbv
open Go.Value renaming slice → Zbo
variable {β:Type} (b:β)
open AV (bad)
set_option linter.unusedVariables false
set_option maxRecDepth 20000
theorem BXu9:ownKnob Tryz.prog.godebug=none:=by kernel_rfl
theorem BAk9:laidOutB prog=true:=by kernel_rfl
def laid5:List (String×DataW Unit):= [("math/bits.deBruijn32tab",Rows.laid_math_bits_deBruijn32tab),("math/bits.deBruijn64tab",Rows.laid_math_bits_deBruijn64tab),("unicode/utf8.acceptRanges",Rows.laid_unicode_utf8_acceptRanges),("slotmesh/random.steps",Rows.laid_slotmesh_random_steps),("unicode/utf8.first",Rows.laid_unicode_utf8_first)]
theorem gn0:Tryz.prog.globalNamed "math/bits.deBruijn32tab" =some 0:=by kernel_rfl
theorem gn1:Tryz.prog.globalNamed "math/bits.deBruijn64tab" =some 1:=by kernel_rfl
theorem gn2:Tryz.prog.globalNamed "slotmesh/random.steps" =some 2:=by kernel_rfl
theorem gn5:Tryz.prog.globalNamed "unicode/utf8.acceptRanges" =some 5:=by kernel_rfl
theorem AXg9 {P:Program} {g n t:Nat} (h:(P.globals[g]?).map (·.type)=some t) (k:(((P.globals[g]?).map (·.type)).bind (flat P n)).isSome=true):∃tys,flat P n t=some tys:=by
 rw [h] at k;exact Option.isSome_iff_exists.1 k
theorem fl0:(((Tryz.prog.globals[0]?).map (·.type)).bind (flat prog 9)).isSome=true:=by kernel_rfl
theorem fl1:(((Tryz.prog.globals[1]?).map (·.type)).bind (flat prog 9)).isSome=true:=by kernel_rfl
theorem fl2:(((Tryz.prog.globals[2]?).map (·.type)).bind (flat prog 9)).isSome=true:=by kernel_rfl
theorem fl5:(((Tryz.prog.globals[5]?).map (·.type)).bind (flat prog 9)).isSome=true:=by kernel_rfl
theorem BQt9 {W:World} (h:laidMetH prog laid5 W):Glob (AllOf W) W:=by
 rw [MakeChecks.laidMetH_plain _ _ _ (by kernel_rfl)] at h;obtain ⟨ps,⟨g0,t0,cs0,f0,p0,q0,hg0,ht0,hv0,hd0,⟨g1,t1,cs1,f1,p1,q1,hg1,ht1,hv1,hd1,⟨g5,t5,cs5,f5,p5,q5,hg5,ht5,hv5,hd5,⟨g2,t2,cs2,f2,p2,q2,hg2,ht2,hv2,hd2,_⟩,_⟩,_⟩,_⟩,_,_⟩:=h;obtain rfl:=Option.some.inj (gn0.symm.trans hg0);obtain rfl:=Option.some.inj (gn1.symm.trans hg1);obtain rfl:=Option.some.inj (gn2.symm.trans hg2);obtain rfl:=Option.some.inj (gn5.symm.trans hg5);have e0:=AXg9 ht0 fl0;have e1:=AXg9 ht1 fl1;have e2:=AXg9 ht2 fl2;have e5:=AXg9 ht5 fl5;obtain ⟨tys0,e0⟩:=e0;obtain ⟨tys1,e1⟩:=e1;obtain ⟨tys2,e2⟩:=e2;obtain ⟨tys5,e5⟩:=e5;have v0:=BGv9 gn0 hv0 hd0 e0 (k:=9) (vs:=ABv9 0) (by kernel_rfl);have v1:=BGv9 gn1 hv1 hd1 e1 (k:=9) (vs:=ABv9 1) (by kernel_rfl);have v2:=BGv9 gn2 hv2 hd2 e2 (k:=9) (vs:=ABv9 2) (by kernel_rfl);have v5:=BGv9 gn5 hv5 hd5 e5 (k:=9) (vs:=ABv9 5) (by kernel_rfl);have one:∀g,g<6→∀v∈ABv9 g,v.oneCell'=true:=by
  have:(List.range 6).all (fun g=>(ABv9 g).all fun v=>v.oneCell')=true:=by kernel_rfl
  intro g hg v hv;exact List.all_eq_true.1 (List.all_eq_true.1 this g (List.mem_range.2 hg)) v hv
 refine BWj9 fun g hg j v hj=> ?_
 match g,hg with
 |0,_=>exact ⟨v0 j v hj,one 0 (by omega) v (List.mem_of_getElem? hj)⟩
 |1,_=>exact ⟨v1 j v hj,one 1 (by omega) v (List.mem_of_getElem? hj)⟩
 |2,_=>exact ⟨v2 j v hj,one 2 (by omega) v (List.mem_of_getElem? hj)⟩
 |3,hg=>exact absurd rfl hg
 |4,hg=>exact absurd rfl hg
 |5,_=>exact ⟨v5 j v hj,one 5 (by omega) v (List.mem_of_getElem? hj)⟩
 |n+6,hg=>exact absurd rfl hg
theorem CAz9:flat prog 20 33=some [.sl [.int .u8]]:=by kernel_rfl
theorem CAy9:flat prog 20 51=some [.sl [.sl [.int .u32]]]:=by kernel_rfl
set_option maxRecDepth 100000
theorem jf5_0:(Rows.spreadLoadsRow.wf (OpenSpec.ofChange Rows.spreadLoadsSpec))=true:=by kernel_rfl
theorem jf5_1:(laidOutB Tryz.pinned.checked.prog)=true:=by kernel_rfl
theorem jf5_2:(mapsRowed Tryz.pinned.checked.prog)=true:=by kernel_rfl
theorem jf5_3:(Tryz.f5.params.all (Tryz.pinned.checked.prog.readableRec ·))=true:=by kernel_rfl
theorem jf5_4:(namedTie Tryz.pinned.checked.prog Rows.spreadLoadsRow.named Rows.spreadLoadsSpec.vars)=true:=by kernel_rfl
theorem jf5_5:((Rows.spreadLoadsRow.stops== []))=true:=by kernel_rfl
theorem jf5_6:((Tryz.pinned.checked.prog.stops== []))=true:=by kernel_rfl
theorem jf5_7:((Rows.spreadLoadsRow.knobs== []))=true:=by kernel_rfl
theorem jf5_8:((Tryz.pinned.checked.prog.stopKnobs== []))=true:=by kernel_rfl
theorem jf5_9:((Rows.spreadLoadsRow.inPlace==Tryz.pinned.checked.prog.inPlace 5))=true:=by kernel_rfl
theorem CAn9:((Rows.spreadLoadsRow.unfollowed==Tryz.pinned.checked.prog.unfollowed 5))=true:=by kernel_rfl
theorem CAm9:((Rows.spreadLoadsRow.recurses==Tryz.pinned.checked.prog.recurses 5))=true:=by kernel_rfl
theorem CAl9:((Rows.spreadLoadsRow.named==Tryz.pinned.checked.prog.varsNamed 5))=true:=by kernel_rfl
theorem CAk9:((Rows.spreadLoadsRow.maps==(Tryz.f5.params.toList++Rows.spreadLoadsSpec.plain.varTypes Tryz.pinned.checked.prog).any (Tryz.pinned.checked.prog.mapsRec ·)))=true:=by kernel_rfl
theorem CAj9:((Rows.spreadLoadsRow.ifaces==(Tryz.f5.params.toList++Rows.spreadLoadsSpec.plain.varTypes Tryz.pinned.checked.prog).any (Tryz.pinned.checked.prog.ifacesRec ·)))=true:=by kernel_rfl
theorem CAi9:((Rows.spreadLoadsRow.mapsOut==Tryz.pinned.checked.prog.mapsAmong Tryz.f5.resultTypes.toList))=true:=by kernel_rfl
theorem CAh9:((Rows.spreadLoadsRow.loops==(Tryz.f5.params.toList++Rows.spreadLoadsSpec.plain.varTypes Tryz.pinned.checked.prog).any (Tryz.pinned.checked.prog.loopsFrom ·)))=true:=by kernel_rfl
theorem CAg9:((Rows.spreadLoadsRow.wideKeys==(Tryz.f5.params.toList++Rows.spreadLoadsSpec.plain.varTypes Tryz.pinned.checked.prog++Tryz.f5.resultTypes.toList).any (Tryz.pinned.checked.prog.wideKeysFrom ·)))=true:=by kernel_rfl
theorem CAf9:(Rows.spreadLoadsSpec.vars.all (Tryz.pinned.checked.prog.varReadable ·))=true:=by kernel_rfl
theorem CAe9:(Tryz.f5.resultTypes.all (fun t=>Tryz.pinned.checked.prog.readableRec t&&decide (t<Tryz.pinned.checked.prog.types.size)))=true:=by kernel_rfl
theorem CAd9:((Rows.spreadLoadsRow.ifacesOut==Tryz.f5.resultTypes.toList.any (Tryz.pinned.checked.prog.ifacesRec ·)))=true:=by kernel_rfl
theorem CAc9:((Rows.spreadLoadsRow.loopsOut==Tryz.f5.resultTypes.toList.any (Tryz.pinned.checked.prog.loopsFrom ·)))=true:=by kernel_rfl
theorem CAb9:((Rows.spreadLoadsRow.plainKeys==Tryz.pinned.checked.prog.plainKeys))=true:=by kernel_rfl
theorem CAa9:(Rows.spreadLoadsRow.shortTexts.isNone)=true:=by kernel_rfl
theorem BZz9:(Tryz.pinned.checked.prog.stopsHeard)=true:=by kernel_rfl
theorem BZy9:(Tryz.pinned.checked.prog.mayEnter)=true:=by kernel_rfl
theorem BZx9:((Rows.spreadLoadsRow.lifted==Tryz.pinned.checked.prog.liftsFinal))=true:=by kernel_rfl
theorem BZw9:((Tryz.pinned.checked.prog.make==some Rows.spreadLoadsRow.make))=true:=by kernel_rfl
theorem BZv9:((Rows.spreadLoadsRow.kinds==(if Rows.spreadLoadsRow.domain.isEmpty then [] else Tryz.f5.params.toList.map fun t=>match Tryz.pinned.checked.prog.underlying t with|some (.int k)=>some k|_=>none)))=true:=by kernel_rfl
theorem BZu9:((Rows.spreadLoadsRow.pinned==Rows.spreadLoadsRow.pinnedBy))=true:=by kernel_rfl
theorem BZt9:((Rows.spreadLoadsRow.veiled==(Tryz.f5.params.toList++Rows.spreadLoadsSpec.plain.varTypes Tryz.pinned.checked.prog++Tryz.f5.resultTypes.toList).any (Tryz.pinned.checked.prog.veiledRec ·)))=true:=by kernel_rfl
theorem BZs9:(Rows.spreadLoadsRow.veiledFits Tryz.pinned.checked.prog Tryz.f5.params.toList (Tryz.f5.params.toList++Rows.spreadLoadsSpec.plain.varTypes Tryz.pinned.checked.prog++Tryz.f5.resultTypes.toList))=true:=by kernel_rfl
theorem and_t {a b:Bool} (h:a=true) (h1:b=true):(a&&b)=true:=by rw [h,h1];rfl
theorem BWt9:joinedFacts Tryz.pinned.checked.prog 5 Tryz.f5 Rows.spreadLoadsSpec Rows.spreadLoadsRow=true:=(and_t (and_t (and_t (and_t (and_t (and_t (and_t (and_t (and_t (and_t (and_t (and_t (and_t (and_t (and_t (and_t (and_t (and_t (and_t (and_t (and_t (and_t (and_t (and_t (and_t (and_t (and_t (and_t (and_t (and_t (and_t jf5_0 jf5_1) jf5_2) jf5_3) jf5_4) jf5_5) jf5_6) jf5_7) jf5_8) jf5_9) CAn9) CAm9) CAl9) CAk9) CAj9) CAi9) CAh9) CAg9) CAf9) CAe9) CAd9) CAc9) CAb9) CAa9) BZz9) BZy9) BZx9) BZw9) BZv9) BZu9) BZt9) BZs9)
end Go.Proofs.YtibhflogmbfpcaaGreatDoor.Am
namespace Go.Proofs.YtibhflogmbfpcaaGreatDoor.Am
open Go Go.RowKit Go.Proofs Tryz
open AV renaming agg → Zbj, bad → Zba, d → Zae, ptr → Zbe, rptr → Zcj
open BIf renaming of → Zau, t → Zbr
open AAk9 renaming cons → Zag, nil → Zai
open Dv renaming sl → Zam
open Int renaming toNat → Zat
open Go.IntKind renaming i64 → Zax, wrap → Zac
open List renaming length → Zab, replicate → Zaf
open NotT renaming n → Zda, r → Zdk, t → Zdg, v → Zcl
open AAn9 renaming cons → Zcr, nil → Zad
open StT renaming no → Zbv
open Go.Value renaming slice → Zbo
open AV (bad)
set_option linter.unusedVariables false
set_option maxRecDepth 20000
set_option maxHeartbeats 2000000
set_option maxRecDepth 100000
set_option maxHeartbeats 4000000
def u32 (x:Int):Dv:= .s (.int .u32 x)
def w32R (l:List Int):List (List Dv):=l.map fun x=> [u32 x]
def seedW (x:Int):Int:=Int.tmod (Zac Zax x) 1000000001
theorem BOo9 {x:Int} (h:0≤x∧x<4294967296):seedS (seedW x)=true:=by
 rw [AGe9,seedW,wr64 (by omega) (by omega),Int.tmod_eq_emod_of_nonneg h.1];omega
theorem BTw9 {ws rest:List Int} {x:Int} {k:Nat} (hd:ws.drop k=x::rest):(w32R ws)[k]? =some [u32 x]:=by
 obtain ⟨h1,h2,_⟩:=ABr9 hd;simp [w32R,h2]
theorem AUc9 (l:List Int):(w32R l).length=l.length:=by simp [w32R]
end Go.Proofs.YtibhflogmbfpcaaGreatDoor.Am
namespace Go.Proofs.YtibhflogmbfpcaaGreatDoor.Am
open Go Go.RowKit Go.Proofs Go.ChangeShapes Go.WideShapes Go.ChangeAt Tryz
open AV renaming agg → Zbj, bad → Zba, d → Zae, ptr → Zbe, rptr → Zcj
open BIf renaming of → Zau, t → Zbr
open AAk9 renaming cons → Zag, nil → Zai
open Dv renaming sl → Zam
open Int renaming toNat → Zat
open Go.IntKind renaming i64 → Zax, wrap → Zac
open List renaming length → Zab, replicate → Zaf
open NotT renaming n → Zda, r → Zdk, t → Zdg, v → Zcl
open AAn9 renaming cons → Zcr, nil → Zad
open StT renaming no → Zbv
open Go.Value renaming slice → Zbo
open AV (bad)
set_option linter.unusedVariables false
set_option maxRecDepth 20000
theorem BYm9 {x:Int} (h:(Lit.int .u32 x).wf=true):0≤x∧x<4294967296:=by
 have:0≤x∧x≤4294967295:=by simpa [Lit.wf,IntKind.min,IntKind.max,IntKind.signed,IntKind.bits] using h
 omega
theorem BYn9 {x:Dv} (h:HasTy (.sl [.int .u32]) x):∃p:List Int,x= .sl 1 (w32R p)∧p.length≤maxLen∧∀x∈p,0≤x∧x<4294967296:=by
 cases h with
 | sl _ xs hl h=>
  have key:∀(xs:List (List Dv)),(∀row∈xs,ATq9 [.int .u32] row)→∃p:List Int,xs=w32R p∧∀x∈p,0≤x∧x<4294967296:=by
   intro xs;induction xs with
   |nil=>exact fun _=>⟨[],rfl,fun x hx=>by cases hx⟩
   | cons row xs ih=>
    intro h;obtain ⟨p,rfl,hp⟩:=ih fun r hr=>h r (List.mem_cons_of_mem _ hr);have h0:=h row (List.mem_cons_self ..);cases h0 with
    | cons h1 h2=>cases h2 with
     | nil=>cases h1 with
      | int _ n hw=>
       refine ⟨n::p,rfl,fun x hx=> ?_⟩;rcases List.mem_cons.1 hx with rfl|hx
       ·exact BYm9 hw
       ·exact hp x hx
  obtain ⟨p,rfl,hp⟩:=key xs h;exact ⟨p,rfl,by simpa [w32R] using hl,hp⟩
end Go.Proofs.YtibhflogmbfpcaaGreatDoor.Am
namespace Go.Proofs.YtibhflogmbfpcaaGreatDoor.Am
open Go Go.RowKit Go.Proofs Tryz
open AV renaming agg → Zbj, bad → Zba, d → Zae, ptr → Zbe, rptr → Zcj
open BIf renaming of → Zau, t → Zbr
open AAk9 renaming cons → Zag, nil → Zai
open Dv renaming sl → Zam
open Int renaming toNat → Zat
open Go.IntKind renaming i64 → Zax, wrap → Zac
open List renaming length → Zab, replicate → Zaf
open NotT renaming n → Zda, r → Zdk, t → Zdg, v → Zcl
open AAn9 renaming cons → Zcr, nil → Zad
open StT renaming no → Zbv
open Go.Value renaming slice → Zbo
variable {β:Type} (wl:WLT β) (y:ACx9 β) (b:β) (K:Exit→List AV→List Blk→β→Prop) (Q:β→Prop)
open AV (bad)
set_option linter.unusedVariables false
set_option maxRecDepth 100000
set_option maxHeartbeats 4000000
def AGp9 (l:List (List Int)):List (List Dv):=l.map fun q=> [.sl 1 (w32R q)]
def GI5:List (Nat×(List AV→List Blk→(AV→List Blk→Prop)→Prop)):= [(1000003,fun _ _ _=>False)]
theorem AVl9:AAn9 prog GI5:=Zcr (fun _ _ _ h=>h.elim) Zad
noncomputable def lpI5:Code:=sub [1,1,1,1,1,1,1,0,1,2,3,1,1,0,2,1,1,0,1,4,1,2,3] (code Tryz.f5)
def tmI5 (p pk ps:List (List Dv)) (m j:Int) (x:AV) (w:List (List Dv)) (n i:Int):List AV:= [.d (.sl 1 p), .bad, .bad, .bad, .bad, .d (.sl 1 pk), .bad, .bad, .bad, .bad, .bad, .bad, .d (bo false), .d (bo true), .ptr 0 0, .bad, .d (.sl 1 ps), .bad, .ptr 1 0, .d (i64 j),x]++Zaf 59 .bad++ [.d (.sl 1 ps), .d (i64 m), .d (i64 j)]++Zaf 16 .bad++ [.d (.sl 1 w), .d (i64 n), .d (i64 i)]++Zaf 46 .bad
def hpO5 (no:NotT) (s:StT):List Blk:= [⟨noL no,false,false,0⟩,stB s]
theorem rI5n (p pk ps w:List (List Dv)) (m j n i:Int) (no:NotT) (s:StT):wpc prog ⟨[],GI5,wl,y,false⟩ 200 lpI5 (tmI5 p pk ps m j nilV w n i) (hpO5 no s) b (maskT [0,5,12,13,14,16,18,19,20,80,81,82,99,100,101] K)=(BIf (decide (i<n)) (BIf (true&&decide (0≤i)) (∃(x0:Int),w[Zat i]? =some [u32 x0]∧K .normal (Zae (Zam 1 p)::bds 4 (Zae (Zam 1 pk)::bds 6 (Zae (bo false)::Zae (bo true)::Zbe 0 0::Zba::Zae (Zam 1 ps)::Zba::Zbe 1 0::Zae (i64 j)::AV.gref 2 0 1 1::bds 59 (Zae (Zam 1 ps)::Zae (i64 m)::Zae (i64 j)::bds 16 (Zae (Zam 1 w)::Zae (i64 n)::Zae (i64 (Zac .i64 (i+1)))::bds 46 []))))) [Blk.mk (noL no) false false 0,stB s,Blk.mk [Zae (i64 (Int.tmod (Zac .i64 x0) (1000000001:Int)))] false true 0] b) False) (K (Exit.exit 2) (Zae (Zam 1 p)::bds 4 (Zae (Zam 1 pk)::bds 6 (Zae (bo false)::Zae (bo true)::Zbe 0 0::Zba::Zae (Zam 1 ps)::Zba::Zbe 1 0::Zae (i64 j)::Zae (Dv.s (.slice none 0 0))::bds 59 (Zae (Zam 1 ps)::Zae (i64 m)::Zae (i64 j)::bds 16 (Zae (Zam 1 w)::Zae (i64 n)::Zae (i64 i)::bds 46 []))))) [Blk.mk (noL no) false false 0,stB s] b)):=by kernel_rfl
theorem rI5g (p pk ps xs w:List (List Dv)) (m j n i:Int) (v k:Nat) (no:NotT) (s:StT):wpc prog ⟨[],GI5,wl,y,false⟩ 200 lpI5 (tmI5 p pk ps m j (.gref 2 v k 1) w n i) (hpO5 no s++ [⟨flatA xs,false,true,v⟩]) b (maskT [0,5,12,13,14,16,18,19,20,80,81,82,99,100,101] K)=(BIf (decide (i<n)) (BIf (true&&decide (0≤i)) (∃(x0:Int),w[Zat i]? =some [u32 x0]∧v=v∧BIf (decide ((k+1)*8≤140737488355328)) (K .normal (Zae (Zam 1 p)::bds 4 (Zae (Zam 1 pk)::bds 6 (Zae (bo false)::Zae (bo true)::Zbe 0 0::Zba::Zae (Zam 1 ps)::Zba::Zbe 1 0::Zae (i64 j)::AV.gref 2 (v+1) (k+1) 1::bds 59 (Zae (Zam 1 ps)::Zae (i64 m)::Zae (i64 j)::bds 16 (Zae (Zam 1 w)::Zae (i64 n)::Zae (i64 (Zac .i64 (i+1)))::bds 46 []))))) [Blk.mk (noL no) false false 0,stB s,Blk.mk (flatA xs++ [Zae (i64 (Int.tmod (Zac .i64 x0) (1000000001:Int)))]) false true (v+1)] b) False) False) (K (Exit.exit 2) (Zae (Zam 1 p)::bds 4 (Zae (Zam 1 pk)::bds 6 (Zae (bo false)::Zae (bo true)::Zbe 0 0::Zba::Zae (Zam 1 ps)::Zba::Zbe 1 0::Zae (i64 j)::AV.gref 2 v k 1::bds 59 (Zae (Zam 1 ps)::Zae (i64 m)::Zae (i64 j)::bds 16 (Zae (Zam 1 w)::Zae (i64 n)::Zae (i64 i)::bds 46 []))))) [Blk.mk (noL no) false false 0,stB s,Blk.mk (flatA xs) false true v] b)):=by kernel_rfl
theorem BEm9 (acc:List Int) (x:Int):flatA (intsR acc)++ [Zae (i64 x)]=flatA (intsR (acc++ [x])):=by
 rw [show intsR (acc++ [x])=intsR acc++intsR [x] by simp [intsR],AKx9];rfl
theorem wrI5g {Ev:Env prog} {b:Ev.β} {Q:Exit→St Ev.β→Prop} (p pk ps:List (List Dv)) (m j:Int) (no:NotT) (s:StT) (w:List Int) (hl:w.length≤40):∀(rest:List Int) (i:Nat) (acc:List Int) (v k:Nat),k=acc.length→w.drop i=rest→acc.length+rest.length≤1000→
 (∀(i:Int) (v:Nat),Q (.exit 2) ⟨tmI5 p pk ps m j (.gref 2 v (acc++rest.map seedW).length 1) (w32R w) w.length i,hpO5 no s++ [⟨flatA (intsR (acc++rest.map seedW)),false,true,v⟩],b⟩)→
 WR Ev lpI5 (rest.length+1) ⟨tmI5 p pk ps m j (.gref 2 v k 1) (w32R w) w.length i,hpO5 no s++ [⟨flatA (intsR acc),false,true,v⟩],b⟩ Q
 | [],i,acc,v,_,hk0,hd,ha,h1=>by
  subst hk0;have hk:=ADw9 hd;refine WR.ofMaskT [0,5,12,13,14,16,18,19,20,80,81,82,99,100,101] mixed (CX.Ok.of (u:=false) Zai AVl9) (k:=200) ?_;refine Eq.mpr (rI5g _ _ _ _ p pk ps (intsR acc) (w32R w) m j w.length i v acc.length no s) ?_;have h2:=h1 i v;rw [List.map_nil,List.append_nil] at h2;exact BIf.f (by simp;omega) h2
 | x::rest,i,acc,v,_,hk0,hd,ha,h1=>by
  subst hk0;obtain ⟨hk,hr2,hd'⟩:=ABr9 hd;refine WR.ofMaskT [0,5,12,13,14,16,18,19,20,80,81,82,99,100,101] mixed (CX.Ok.of (u:=false) Zai AVl9) (k:=200) ?_;refine Eq.mpr (rI5g _ _ _ _ p pk ps (intsR acc) (w32R w) m j w.length i v acc.length no s) ?_;have e1:Zac Zax ((i:Int)+1)=((i+1:Nat):Int):=wrapN (by omega);rw [e1,Int.toNat_natCast];rw [List.length_cons] at ha;refine Zbr (by simp;omega) (Zbr (by simp) ⟨x,BTw9 hd,rfl,Zbr (by simp;omega) ?_⟩);rw [show Int.tmod (Zac Zax x) (1000000001:Int)=seedW x from rfl,BEm9];refine wrI5g p pk ps m j no s w hl rest (i+1) (acc++ [seedW x]) (v+1) (acc.length+1) (by simp) hd' (by simp;omega) fun i v=> ?_;have h2:=h1 i v;rw [List.map_cons,show acc++seedW x::rest.map seedW=(acc++ [seedW x])++rest.map seedW by simp] at h2;exact h2
def wlI5 {β:Type}:WLT β:=fun c tm hp b K=>∃(p pk ps:List (List Dv)) (m j:Int) (no:NotT) (s:StT) (w z:List Int),c= .loop lpI5∧ABo9 [0,5,12,13,14,16,18,19,20,80,81,82,99,100,101] 0 tm=tmI5 p pk ps m j nilV (w32R w) (w32R w).length 0∧hp=hpO5 no s∧(w.length≤40∧z=w.map seedW)∧
 BIf z.isEmpty (∀i:Int,K (.exit 2) (tmI5 p pk ps m j nilV (w32R w) w.length i) (hpO5 no s) b) (∀(i:Int) (v:Nat),K (.exit 2) (tmI5 p pk ps m j (.gref 2 v z.length 1) (w32R w) w.length i) (hpO5 no s++ [⟨flatA (intsR z),false,true,v⟩]) b)
theorem BLf9 {Ev:Env prog} (c:Code) (tm:List AV) (hp:List Blk) (b:Ev.β) (K:Exit→List AV→List Blk→Ev.β→Prop) (h:wlI5 c tm hp b K):W Ev c ⟨tm,hp,b⟩ (fun e s=>K e s.tm s.hp s.b):=by
 obtain ⟨p,pk,ps,m,j,no,s,w,z,rfl,htm,rfl,⟨hl,rfl⟩,hK⟩:=h;rw [AUc9] at htm;refine W.cast (htm▸AAg9 _ tm 0) (LeH.refl _) ?_;cases hw:w with
 | nil=>
  subst hw;refine W.rounds (m:=1) (WR.ofMaskT [0,5,12,13,14,16,18,19,20,80,81,82,99,100,101] mixed (CX.Ok.of (u:=false) Zai AVl9) (k:=200) ?_);refine Eq.mpr (rI5n _ _ _ _ p pk ps (w32R []) m j 0 0 no s) ?_;exact BIf.f (by simp) (hK 0)
 | cons x rest=>
  rw [←hw];refine W.rounds (m:=rest.length+2) (WR.ofMaskT [0,5,12,13,14,16,18,19,20,80,81,82,99,100,101] mixed (CX.Ok.of (u:=false) Zai AVl9) (k:=200) ?_);refine Eq.mpr (rI5n _ _ _ _ p pk ps (w32R w) m j w.length 0 no s) ?_;have hd:w.drop 0=x::rest:=by rw [hw];rfl
  obtain ⟨hk,hr2,hd'⟩:=ABr9 hd;refine Zbr (by simp;omega) (Zbr (by simp) ⟨x,BTw9 hd, ?_⟩);have hlen:w.length=rest.length+1:=by rw [hw];rfl
  have ez:(w.map seedW).isEmpty=false:=by rw [hw];rfl
  rw [ez] at hK;refine wrI5g (Q:=fun e s=>K e s.tm s.hp s.b) p pk ps m j no s w hl rest 1 [seedW x] 0 1 rfl hd' (by simp;omega) fun i v=> ?_;have e2: [seedW x]++rest.map seedW=w.map seedW:=by rw [hw];rfl
  rw [e2];exact hK i v
theorem BYs9:∀s∈ss0,seedS s=true:=by decide+kernel
theorem BCa9 {w:List Int} (hw:∀x∈w,0≤x∧x<4294967296):∀s∈w.map seedW++ss0,seedS s=true:=by
 intro s hs;rcases List.mem_append.1 hs with h|h
 ·obtain ⟨x,hx,rfl⟩:=List.mem_map.1 h;exact BOo9 (hw x hx)
 ·exact BYs9 s h
theorem BEo9 {no:NotT} {ps:List (List Int)} {k:Nat} {t:TrT} (h:Lays no ps) (hk:k<ps.length) (hb:AHx9 (nthL ps k)) (ht:ABb9 t=true) {w:List Int} (hw:∀x∈w,0≤x∧x<4294967296):
 feedT ps k (laySt no ps k [] [] t) (w.map seedW++ss0)=laySt no ps (k+1) [] [] t:=by
 have hs:=BCa9 hw;have hf:=BGk9 (p:=nthL ps k) (ms:=masks (w.map seedW++ss0)) hb (BDu9 hs) (fun i hi=>by
  rw [masks,List.map_append];exact List.mem_append_right _ (AMe9 i hi))
 rcases AQg9 h hk hb ht (w.map seedW++ss0) [] [] hs (Tru.nil _) (by simp) (by simp) (.inr rfl) with h|⟨q,h1,h2⟩
 ·exact h.1
 ·omega
theorem BGu9 {no:NotT} {p:List Int} {t:TrT} (hs:ADd9 p.length=true) (hL:Lays no (ABn9 p)) (hn:no.n=((p.length:Nat):Int)):AKi9 (laySt no (ABn9 p) (ABn9 p).length [] [] t).sp=(p,true):=by
 have h1:ACj9 (laySt no (ABn9 p) (ABn9 p).length [] [] t).sp=true:=AEw9 hL (Nat.le_refl _) [] [] t;have h2:(laySt no (ABn9 p) (ABn9 p).length [] [] t).sp.ps=ABn9 p:=List.take_of_length_le (Nat.le_refl _);have h3:(laySt no (ABn9 p) (ABn9 p).length [] [] t).sp.no.n=((p.length:Nat):Int):=hn;have h4:=ASg9 (p:=p) (n:=p.length) hs rfl;rw [List.drop_of_length_le (Nat.le_refl _),if_pos (by rfl),Nat.sub_self,List.replicate_zero,List.append_nil,List.take_of_length_le (Nat.le_refl _)] at h4;rw [AKi9,if_pos h1,h2,h3,h4];rfl
def cNone (args:List AV) (K:AV→Prop):Prop:=False
theorem BKh9 (n:Nat):∀args K,cNone args K→∃x,PCall prog n args x∧K x:=fun _ _ h=>h.elim
def TFf5:List (Nat×(List AV→(AV→Prop)→Prop)):= [(28,lessC cFeed),(29,BFp9),(4000019,cNone)]
theorem BGn9:AAk9 prog TFf5:=Zag (AJr9 BFv9) (Zag ATh9 (Zag (BKh9 _) Zai))
def wlH5 {β:Type} (y:ACx9 β):WLT β:=wlA prog ⟨TFf5,GI5,wlI5,y,false⟩ [(19,List.range 13,5,10,20)] wlI5
theorem BLg9 {Ev:Env prog}:∀c tm hp b K,wlH5 Ev.Y c tm hp b K→W Ev c ⟨tm,hp,b⟩ (fun e s=>K e s.tm s.hp s.b):=
 BYl9 mixed (CX.Ok.ofWl BGn9 AVl9 BLf9) _ BLf9
noncomputable def lpO5:Code:=sub [1,1,1,1,1,1,1,0,1,2,3] (code Tryz.f5)
def tmO5 (p pk ps:List (List Dv)) (m j:Int):List AV:= [.d (.sl 1 p), .bad, .bad, .bad, .bad, .d (.sl 1 pk), .bad, .bad, .bad, .bad, .bad, .bad, .d (bo false), .d (bo true), .ptr 0 0, .bad, .d (.sl 1 ps), .bad, .ptr 1 0]++Zaf 61 .bad++ [.d (.sl 1 ps), .d (i64 m), .d (i64 j)]++Zaf 65 .bad
abbrev Qz13 (v0:List (List Dv)) (v1:List (List Dv)) (v2:List (List Dv)) (v3:Int) (v4:Int):=Zae (Zam 1 v0)::bds 4 (Zae (Zam 1 v1)::bds 6 (Zae (bo false)::Zae (bo true)::Zbe 0 0::Zba::Zae (Zam 1 v2)::Zba::Zbe 1 0::bds 61 (Zae (Zam 1 v2)::Zae (i64 v3)::Zae (i64 v4)::bds 65 [])))
abbrev Qz17 (v0:NotT) (v1:StT):= [Blk.mk (noL v0) false false 0,Blk.mk (stL v1) false false 0]
abbrev Qz18 (v0:NotT) (v1:StT) (v2:List Int) (v3:List Int) (v4:Nat) (v5:StT):= [Blk.mk (noL v0) false false 0,Blk.mk (stL v1) false false 0,Blk.mk (flatA (intsR v2)++flatA (intsR v3)) true true (v4+1),Blk.mk (stL v5) false false 0]
abbrev Qz19 (v0:List Int) (v1:List Int) (v2:Nat):=Blk.mk (flatA (intsR v0)++flatA (intsR v1)) false true (v2+1)
theorem rO5 (p pk ps:List (List Dv)) (m j:Int) (no:NotT) (s:StT):wpc prog ⟨TFf5,GI5,wlH5 y,y,false⟩ 200 lpO5 (tmO5 p pk ps m j) (hpO5 no s) b (maskK 2 [0,5,12,13,14,16,18,80,81,82] K)=(BIf (decide (j<m)) (BIf (decide (j<((Zab pk:Nat):Int))) (BIf (true&&decide (0≤j)) (∃(xs0:List (List Dv)),pk[Zat j]? =some [Zam 1 xs0]∧BIf (true&&decide (0≤j)) (∃(xs3:List (List Dv)),pk[Zat j]? =some [Zam 1 xs3]∧∃(z6:Int),(z6=if (40:Int)<((Zab xs3:Nat):Int) then (40:Int) else ((Zab xs3:Nat):Int))∧BIf (true&&decide ((0:Int)≤(0:Int)∧(0:Int)≤z6∧z6≤((Zab xs0:Nat):Int)∧((Zab xs0:Nat):Int)≤((Zab xs0:Nat):Int))) (∃(p7:List (List Dv)) (pk8:List (List Dv)) (ps9:List (List Dv)) (m10:Int) (j11:Int) (no12:NotT) (s13:StT) (w14:List Int) (z15:List Int),Code.loop lpI5=Code.loop lpI5∧(Zae (Zam 1 p)::bds 4 (Zae (Zam 1 pk)::bds 6 (Zae (bo false)::Zae (bo true)::Zbe 0 0::Zba::Zae (Zam 1 ps)::Zba::Zbe 1 0::Zae (i64 j)::Zae (Dv.s (.slice none 0 0))::bds 59 (Zae (Zam 1 ps)::Zae (i64 m)::Zae (i64 j)::bds 16 (Zae (Zam 1 (List.take (Zat z6 - Zat (0:Int)) (List.drop (Zat (0:Int)) xs0)))::Zae (i64 ((Zab (List.take (Zat z6 - Zat (0:Int)) (List.drop (Zat (0:Int)) xs0)):Nat):Int))::Zae (i64 0)::bds 46 [])))))=(Zae (Zam 1 p7)::bds 4 (Zae (Zam 1 pk8)::bds 6 (Zae (bo false)::Zae (bo true)::Zbe 0 0::Zba::Zae (Zam 1 ps9)::Zba::Zbe 1 0::Zae (i64 j11)::Zae (Dv.s (.slice none 0 0))::bds 59 (Zae (Zam 1 ps9)::Zae (i64 m10)::Zae (i64 j11)::bds 16 (Zae (Zam 1 (w32R w14))::Zae (i64 ((Zab (w32R w14):Nat):Int))::Zae (i64 0)::bds 46 [])))))∧ [Blk.mk (noL no) false false 0,Blk.mk (stL s) false false 0]=(Qz17 no12 s13)∧(Zab w14≤40∧z15=List.map seedW w14)∧BIf (List.isEmpty z15) (∀(i:Int),([]:List AV)= []∧∃(z16:List Int),z16=ss0∧BIf (true&&decide (Zab (intsR z16)*8≤140737488355328)) (∃(args17:List AV),LeVs [Zbj (stL s13),Zae (Zam 1 ps9),Zae (i64 j11),Zae (Zam 1 (intsR z16))] args17∧∃(no18:NotT) (ps19:List (List Int)) (k20:Nat) (t21:TrT) (st22:StT) (ss23:List Int) (z24:StT),args17= [Zbj (stL st22),Zae (Zam 1 (AAc9 ps19)),Zae (i64 (k20:Int)),Zae (Zam 1 (intsR ss23))]∧((Lays no18 ps19∧k20<Zab ps19∧(∀(x:Int),x∈nthL ps19 k20→(0:Int)≤x∧x<(256:Int))∧ABb9 t21=true∧(∀(s:Int),s∈ss23→seedS s=true)∧Zab ss23≤1000∧(st22=laySt no18 ps19 (k20+1) [] [] t21∨∃(l25:List Row) (q26:List Int),st22=laySt no18 ps19 k20 l25 q26 t21∧Tru (nthL ps19 k20) l25∧Zab l25<16∧(l25≠ []→q26=ACc9 ps19 k20)∧(l25≠ []∨q26= [])))∧z24=feedT ps19 k20 st22 ss23)∧BIf (((Zab (AAc9 (StT.ps z24)):Nat):Int) !=Zac .i64 (j11+1)) (K .ret (Qz13 p7 pk8 ps9 m10 j11) (Qz17 no12 s13) b) (K .normal (Zae (Zam 1 p7)::bds 4 (Zae (Zam 1 pk8)::bds 6 (Zae (bo false)::Zae (bo true)::Zbe 0 0::Zba::Zae (Zam 1 ps9)::Zba::Zbe 1 0::bds 61 (Zae (Zam 1 ps9)::Zae (i64 m10)::Zae (i64 (Zac .i64 (j11+1)))::bds 65 [])))) (Qz17 no12 z24) b)) False) (∀(i:Int) (v:Nat),([]:List AV)= []∧∃(z27:List Int),z27=ss0∧v+1=v+1∧∃(rows28:List (List Dv)),flatA (intsR z15)++flatA (intsR z27)=flatA rows28∧Zab rows28=Zab z15+Zab (intsR z27)∧(∀(r:List Dv),r∈rows28→Zab r=1)∧∃(args29:List AV),LeVs [Zbj (stL s13),Zae (Zam 1 ps9),Zae (i64 j11),Zae (Zam 1 rows28)] args29∧∃(no30:NotT) (ps31:List (List Int)) (k32:Nat) (t33:TrT) (st34:StT) (ss35:List Int) (z36:StT),args29= [Zbj (stL st34),Zae (Zam 1 (AAc9 ps31)),Zae (i64 (k32:Int)),Zae (Zam 1 (intsR ss35))]∧((Lays no30 ps31∧k32<Zab ps31∧(∀(x:Int),x∈nthL ps31 k32→(0:Int)≤x∧x<(256:Int))∧ABb9 t33=true∧(∀(s:Int),s∈ss35→seedS s=true)∧Zab ss35≤1000∧(st34=laySt no30 ps31 (k32+1) [] [] t33∨∃(l37:List Row) (q38:List Int),st34=laySt no30 ps31 k32 l37 q38 t33∧Tru (nthL ps31 k32) l37∧Zab l37<16∧(l37≠ []→q38=ACc9 ps31 k32)∧(l37≠ []∨q38= [])))∧z36=feedT ps31 k32 st34 ss35)∧(Zbe 3 0=Zbe 3 0∧True∧Zae (bo true)=Zae (bo true)∧True)∧((v=v∧(Zab z15+Zab (intsR z27))*8≤140737488355328∧true=true∧v+1=v+1∧Zab z15+Zab (intsR z27)=Zab z15+Zab (intsR z27)∧true=true∧some (Qz19 z15 z27 v)=some (Qz19 z15 z27 v)∧ [Blk.mk (noL no12) false false 0,Blk.mk (stL s13) false false 0,Blk.mk (flatA (intsR z15)++flatA (intsR z27)) true true (v+1)]= [Blk.mk (noL no12) false false 0,Blk.mk (stL s13) false false 0,Blk.mk (flatA (intsR z15)++flatA (intsR z27)) true true (v+1)])∧(some (Zbj (stL s13))=some (Zbj (stL s13))∧True)∧(some (Zbj (stL s13))=some (Zbj (stL s13))∧True)∧True∧(v=v∧(Zab z15+Zab (intsR z27))*8≤140737488355328∧true=true∧v+1=v+1∧Zab z15+Zab (intsR z27)=Zab z15+Zab (intsR z27)∧true=true∧some (Qz19 z15 z27 v)=some (Qz19 z15 z27 v)∧ [Blk.mk (noL no12) false false 0,Blk.mk (stL s13) false false 0,Blk.mk (flatA (intsR z15)++flatA (intsR z27)) true true (v+1),Blk.mk Qz3 false false 0]= [Blk.mk (noL no12) false false 0,Blk.mk (stL s13) false false 0,Blk.mk (flatA (intsR z15)++flatA (intsR z27)) true true (v+1),Blk.mk Qz3 false false 0])∧(some (Zbj (stL s13))=some (Zbj (stL s13))∧True)∧(some (Zbj (stL s13))=some (Zbj (stL s13))∧True)∧True∧(v=v∧(Zab z15+Zab (intsR z27))*8≤140737488355328∧true=true∧v+1=v+1∧Zab z15+Zab (intsR z27)=Zab z15+Zab (intsR z27)∧true=true∧some (Qz19 z15 z27 v)=some (Qz19 z15 z27 v)∧(Qz18 no12 s13 z15 z27 v z36)=(Qz18 no12 s13 z15 z27 v z36))∧(some (Zbj (stL s13))=some (Zbj (stL s13))∧True)∧(some (Zbj (stL s13))=some (Zbj (stL s13))∧True)∧True∧(v=v∧(Zab z15+Zab (intsR z27))*8≤140737488355328∧true=true∧v+1=v+1∧Zab z15+Zab (intsR z27)=Zab z15+Zab (intsR z27)∧true=true∧some (Qz19 z15 z27 v)=some (Qz19 z15 z27 v)∧(Qz18 no12 s13 z15 z27 v z36)=(Qz18 no12 s13 z15 z27 v z36))∧(some (Zbj (stL s13))=some (Zbj (stL s13))∧True)∧(some (Zbj (stL s13))=some (Zbj (stL s13))∧True)∧True∧True)∧BIf (((Zab (AAc9 (StT.ps z36)):Nat):Int) !=Zac .i64 (j11+1)) (K .ret (Qz13 p7 pk8 ps9 m10 j11) (Qz17 no12 s13) b) (K .normal (Zae (Zam 1 p7)::bds 4 (Zae (Zam 1 pk8)::bds 6 (Zae (bo false)::Zae (bo true)::Zbe 0 0::Zba::Zae (Zam 1 ps9)::Zba::Zbe 1 0::bds 61 (Zae (Zam 1 ps9)::Zae (i64 m10)::Zae (i64 (Zac .i64 (j11+1)))::bds 65 [])))) (Qz17 no12 z36) b))) False) False) False) (([]:List AV)= []∧∃(z39:List Int),z39=ss0∧BIf (true&&decide (Zab (intsR z39)*8≤140737488355328)) (∃(args40:List AV),LeVs [Zbj (stL s),Zae (Zam 1 ps),Zae (i64 j),Zae (Zam 1 (intsR z39))] args40∧∃(no41:NotT) (ps42:List (List Int)) (k43:Nat) (t44:TrT) (st45:StT) (ss46:List Int) (z47:StT),args40= [Zbj (stL st45),Zae (Zam 1 (AAc9 ps42)),Zae (i64 (k43:Int)),Zae (Zam 1 (intsR ss46))]∧((Lays no41 ps42∧k43<Zab ps42∧(∀(x:Int),x∈nthL ps42 k43→(0:Int)≤x∧x<(256:Int))∧ABb9 t44=true∧(∀(s:Int),s∈ss46→seedS s=true)∧Zab ss46≤1000∧(st45=laySt no41 ps42 (k43+1) [] [] t44∨∃(l48:List Row) (q49:List Int),st45=laySt no41 ps42 k43 l48 q49 t44∧Tru (nthL ps42 k43) l48∧Zab l48<16∧(l48≠ []→q49=ACc9 ps42 k43)∧(l48≠ []∨q49= [])))∧z47=feedT ps42 k43 st45 ss46)∧BIf (((Zab (AAc9 (StT.ps z47)):Nat):Int) !=Zac .i64 (j+1)) (K .ret (Qz13 p pk ps m j) [Blk.mk (noL no) false false 0,Blk.mk (stL s) false false 0] b) (K .normal (Zae (Zam 1 p)::bds 4 (Zae (Zam 1 pk)::bds 6 (Zae (bo false)::Zae (bo true)::Zbe 0 0::Zba::Zae (Zam 1 ps)::Zba::Zbe 1 0::bds 61 (Zae (Zam 1 ps)::Zae (i64 m)::Zae (i64 (Zac .i64 (j+1)))::bds 65 [])))) (Qz17 no z47) b)) False)) (K (Exit.exit 0) (Qz13 p pk ps m j) [Blk.mk (noL no) false false 0,Blk.mk (stL s) false false 0] b)):=by kernel_rfl
def ATo9 (l:List (List Int)):Prop:=∀q∈l,q.length≤9223372036854775807∧∀x∈q,0≤x∧x<4294967296
theorem BDf9 (l:List (List Int)):(AGp9 l).length=l.length:=by simp [AGp9]
theorem BPg9 {l:List (List Int)} {j:Nat} {q:List Int} (h:l[j]? =some q):(AGp9 l)[j]? =some [.sl 1 (w32R q)]:=by simp [AGp9,h]
theorem BYq9 (q:List Int):List.take (Zat (if (40:Int)<((w32R q).length:Int) then (40:Int) else ((w32R q).length:Int)) - Zat (0:Int)) (List.drop (Zat (0:Int)) (w32R q))=w32R (q.take 40):=by
 rw [AUc9];show List.take (Zat _ - 0) (w32R q)=_;unfold w32R;rw [List.map_take];split
 ·rfl
 ·rw [List.take_of_length_le (by simp),List.take_of_length_le (by simp;omega)]
theorem BVs9 {no:NotT} {ps:List (List Int)} {t:TrT} (hL:Lays no ps) (hb:∀k,k<ps.length→AHx9 (nthL ps k)) (ht:ABb9 t=true) {j:Nat} (hj:j<ps.length) {w:List Int} (hw:∀x∈w,0≤x∧x<4294967296) (hl:w.length≤40):
 BSr9 no ps j t (laySt no ps j [] [] t) (w.map seedW++ss0):=
 ⟨hL,hj,hb j hj,ht,BCa9 hw,by rw [List.length_append,List.length_map];have:ss0.length=16:=rfl;omega, .inr ⟨[], [],rfl,Tru.nil _,by simp,by simp, .inr rfl⟩⟩
theorem BQk9 {no:NotT} {ps:List (List Int)} {t:TrT} {j:Nat} (hj:j<ps.length) (h16:ps.length≤16):(((AAc9 (StT.ps (laySt no ps (j+1) [] [] t))).length:Int) !=Zac Zax ((j:Int)+1))=false:=by
 rw [AAe9,ACd9 (by omega),show Zac Zax ((j:Int)+1)=((j+1:Nat):Int) from wrapN (by omega)];simp
theorem wrO5 {Ev:Env prog} {b:Ev.β} {Q:Exit→St Ev.β→Prop} {no:NotT} {ps:List (List Int)} {t:TrT} (hL:Lays no ps) (hb:∀k,k<ps.length→AHx9 (nthL ps k)) (ht:ABb9 t=true) (p:List (List Dv)) (picks:List (List Int)) (hpk:ATo9 picks):
 ∀(r j:Nat),j+r=ps.length→(∀i:Int,Q (.exit 0) ⟨tmO5 p (AGp9 picks) (AAc9 ps) ps.length i,hpO5 no (laySt no ps ps.length [] [] t),b⟩)→
 WR Ev lpO5 (r+1) ⟨tmO5 p (AGp9 picks) (AAc9 ps) ps.length j,hpO5 no (laySt no ps j [] [] t),b⟩ Q
 | 0,j,hj,h1=>by
  refine WR.ofMask [0,5,12,13,14,16,18,80,81,82] mixed (CX.Ok.ofWl (u:=false) BGn9 AVl9 BLg9) (k:=200) ?_;refine Eq.mpr (rO5 _ _ _ p (AGp9 picks) (AAc9 ps) ps.length j no (laySt no ps j [] [] t)) ?_;have e:j=ps.length:=by omega
  subst e;exact BIf.f (by simp) (h1 _)
 | r+1,j,hj,h1=>by
  obtain ⟨b16,b1⟩:=AMg9 hL;have hjl:j<ps.length:=by omega
  refine WR.ofMask [0,5,12,13,14,16,18,80,81,82] mixed (CX.Ok.ofWl (u:=false) BGn9 AVl9 BLg9) (k:=200) ?_;refine Eq.mpr (rO5 _ _ _ p (AGp9 picks) (AAc9 ps) ps.length j no (laySt no ps j [] [] t)) ?_;have e1:Zac Zax ((j:Int)+1)=((j+1:Nat):Int):=wrapN (by omega);have hnx:=BQk9 (no:=no) (t:=t) hjl b16;have ih:=wrO5 hL hb ht p picks hpk r (j+1) (by omega) h1;have hs0:=BVs9 hL hb ht hjl (w:= []) (fun x hx=>by cases hx) (by simp);have hf0:=BEo9 hL hjl (hb j hjl) ht (w:= []) (fun x hx=>by cases hx);have hso:ss0.length=16:=rfl;refine Zbr (by simp;omega) (Zau (fun g=> ?_) fun g=> ?_)
  ·rw [BDf9] at g;have g:=of_decide_eq_true g;have hjp:j<picks.length:=by omega
   have hq:picks[j]? =some picks[j]:=by simp [hjp]
   generalize picks[j]=q at hq;obtain ⟨ql,qw⟩:=hpk q (List.mem_of_getElem? hq);have hqr:=BPg9 hq;have hqw:∀x∈q.take 40,0≤x∧x<4294967296:=fun x hx=>qw x (List.mem_of_mem_take hx);have hl40:(q.take 40).length≤40:=by simp;omega
   refine Zbr (by simp) ⟨w32R q,hqr,Zbr (by simp) ⟨w32R q,hqr,_,rfl,Zbr ?_ ?_⟩⟩
   ·rw [AUc9,Bool.true_and];refine decide_eq_true ?_;split<;>omega
   rw [BYq9];refine ⟨p,AGp9 picks,AAc9 ps,ps.length,j,no,laySt no ps j [] [] t,q.take 40,_,rfl,rfl,rfl,⟨hl40,rfl⟩,Zau (fun e i=> ?_) fun e i v=> ?_⟩
   ·have e0:q.take 40= []:=by simpa using e
    refine ⟨rfl,ss0,rfl,Zbr (by decide) ⟨_,LeVs.refl _,no,ps,j,t,laySt no ps j [] [] t,ss0,_,rfl,⟨hs0,rfl⟩, ?_⟩⟩;rw [show feedT ps j (laySt no ps j [] [] t) ss0=laySt no ps (j+1) [] [] t from hf0];refine BIf.f hnx ?_;rw [e1];exact ih
   ·have hfa:=BEo9 hL hjl (hb j hjl) ht hqw;have hsa:=BVs9 hL hb ht hjl hqw hl40;have hfl:flatA (intsR ((q.take 40).map seedW))++flatA (intsR ss0)=flatA (intsR ((q.take 40).map seedW++ss0)):=by
     rw [←AKx9];congr 1;simp [intsR]
    have hbd:(((q.take 40).map seedW).length+(intsR ss0).length)*8≤140737488355328:=by
     rw [List.length_map,show (intsR ss0).length=16 from rfl];omega
    refine ⟨rfl,ss0,rfl,rfl,intsR ((q.take 40).map seedW++ss0),hfl,by simp [intsR],fun r hr=> ?_,_,LeVs.refl _,no,ps,j,t,laySt no ps j [] [] t,(q.take 40).map seedW++ss0,_,rfl,⟨hsa,rfl⟩, ?_⟩
    ·obtain ⟨y,_,rfl⟩:=List.mem_map.1 hr;rfl
    rw [hfa];have key:WR Ev lpO5 (r+1) ⟨tmO5 p (AGp9 picks) (AAc9 ps) ps.length ((j+1:Nat):Int),hpO5 no (laySt no ps (j+1) [] [] t),b⟩ Q:=ih;rw [hnx,e1];repeat' first|exact key|exact trivial|exact hbd|rfl|apply And.intro
  ·refine ⟨rfl,ss0,rfl,Zbr (by decide) ⟨_,LeVs.refl _,no,ps,j,t,laySt no ps j [] [] t,ss0,_,rfl,⟨hs0,rfl⟩, ?_⟩⟩;rw [show feedT ps j (laySt no ps j [] [] t) ss0=laySt no ps (j+1) [] [] t from hf0];refine BIf.f hnx ?_;rw [e1];exact ih
end Go.Proofs.YtibhflogmbfpcaaGreatDoor.Am
namespace Go.Proofs.YtibhflogmbfpcaaGreatDoor.Am
open Go Go.RowKit Go.Proofs Go.ChangeShapes Go.WideShapes Go.ChangeAt Tryz
open AV renaming agg → Zbj, bad → Zba, d → Zae, ptr → Zbe, rptr → Zcj
open BIf renaming of → Zau, t → Zbr
open AAk9 renaming cons → Zag, nil → Zai
open Dv renaming sl → Zam
open Int renaming toNat → Zat
open Go.IntKind renaming i64 → Zax, wrap → Zac
open List renaming length → Zab, replicate → Zaf
open NotT renaming n → Zda, r → Zdk, t → Zdg, v → Zcl
open AAn9 renaming cons → Zcr, nil → Zad
open StT renaming no → Zbv
open Go.Value renaming slice → Zbo
open AV (bad)
set_option linter.unusedVariables false
set_option maxRecDepth 20000
theorem BPf9 {x:Dv} (h:HasTy (.sl [.sl [.int .u32]]) x):∃p:List (List Int),x= .sl 1 (AGp9 p)∧p.length≤maxLen∧ATo9 p:=by
 cases h with
 | sl _ xs hl h=>
  have key:∀(xs:List (List Dv)),(∀row∈xs,ATq9 [.sl [.int .u32]] row)→∃p:List (List Int),xs=AGp9 p∧ATo9 p:=by
   intro xs;induction xs with
   |nil=>exact fun _=>⟨[],rfl,fun q hq=>by cases hq⟩
   | cons row xs ih=>
    intro h;obtain ⟨p,rfl,hp⟩:=ih fun r hr=>h r (List.mem_cons_of_mem _ hr);have h0:=h row (List.mem_cons_self ..);cases h0 with
    | cons h1 h2=>cases h2 with
     | nil=>
      obtain ⟨q,rfl,hql,hqw⟩:=BYn9 h1;refine ⟨q::p,rfl,fun z hz=> ?_⟩;rcases List.mem_cons.1 hz with rfl|hz
      ·exact ⟨hql,hqw⟩
      ·exact hp z hz
  obtain ⟨p,rfl,hp⟩:=key xs h;exact ⟨p,rfl,by simpa [AGp9] using hl,hp⟩
end Go.Proofs.YtibhflogmbfpcaaGreatDoor.Am
namespace Go.Proofs.YtibhflogmbfpcaaGreatDoor.Am
open Go Go.RowKit Go.Proofs Tryz
open AV renaming agg → Zbj, bad → Zba, d → Zae, ptr → Zbe, rptr → Zcj
open BIf renaming of → Zau, t → Zbr
open AAk9 renaming cons → Zag, nil → Zai
open Dv renaming sl → Zam
open Int renaming toNat → Zat
open Go.IntKind renaming i64 → Zax, wrap → Zac
open List renaming length → Zab, replicate → Zaf
open NotT renaming n → Zda, r → Zdk, t → Zdg, v → Zcl
open AAn9 renaming cons → Zcr, nil → Zad
open StT renaming no → Zbv
open Go.Value renaming slice → Zbo
variable {β:Type} (y:ACx9 β) (b:β) (R:AV→β→Prop) (K:Exit→List AV→List Blk→β→Prop) (Q:β→Prop)
open AV (bad)
set_option linter.unusedVariables false
set_option maxRecDepth 100000
set_option maxHeartbeats 4000000
set_option maxHeartbeats 0
set_option maxHeartbeats 4000000
theorem BQq9 {sd f:Int} (hsd:AEh9 sd=true) (hf:ACi9 f=true) {no:NotT} {ps:List (List Int)} (h:Lays no ps):hearS (zst sd) no 0 f=laySt no ps 0 [] [] (newT sd f).1∧ABb9 (newT sd f).1=true:=by
 have he:AGl9 (zst sd)=true:=by
  have e:AGl9 (zst sd)=AEh9 sd:=rfl;rw [e,hsd]
 have ha:=h.ann;have hv:1≤no.v:=by simp only [AAi9,Bool.and_eq_true,decide_eq_true_eq] at ha;omega
 have hok:AGk9 (zst sd) no 0 f=true:=by
  rw [AGk9,show ACv9 (zst sd)=true by rw [ACv9,he];rfl,ha,hf,h.cnt];simp
 constructor
 ·rw [hearS,if_neg (by rw [hok];decide),if_pos (by show no.v>0;omega)];rfl
 ·rw [newT,if_pos (by rw [hsd,hf];rfl)];exact AOy9 (.inl rfl) hf hsd
theorem CCt9 {v t:Int} {p:List Int} (h:((annS v p t).2 !=0)=false):ADd9 p.length=true∧AAi9 v p.length t=true:=by
 unfold annS at h;split at h
 ·rename_i g;simpa using g
 ·cases h
def wlO5 {β:Type}:WLT β:=fun c tm hp b K=>∃(p:List (List Dv)) (picks ps:List (List Int)) (no:NotT) (t:TrT) (st:StT),c= .loop lpO5∧ABo9 [0,5,12,13,14,16,18,80,81,82] 0 tm=tmO5 p (AGp9 picks) (AAc9 ps) (AAc9 ps).length 0∧hp=hpO5 no st∧
 (Lays no ps∧(∀k,k<ps.length→AHx9 (nthL ps k))∧ABb9 t=true∧ATo9 picks∧st=laySt no ps 0 [] [] t)∧∀i:Int,K (.exit 0) (tmO5 p (AGp9 picks) (AAc9 ps) ps.length i) (hpO5 no (laySt no ps ps.length [] [] t)) b
theorem BTd9 {Ev:Env prog} (c:Code) (tm:List AV) (hp:List Blk) (b:Ev.β) (K:Exit→List AV→List Blk→Ev.β→Prop) (h:wlO5 c tm hp b K):W Ev c ⟨tm,hp,b⟩ (fun e s=>K e s.tm s.hp s.b):=by
 obtain ⟨p,picks,ps,no,t,st,rfl,htm,rfl,⟨hL,hb,ht,hpk,rfl⟩,hK⟩:=h;rw [AAe9] at htm;refine W.cast (htm▸AAg9 _ tm 0) (LeH.refl _) ?_;exact W.rounds (wrO5 (Q:=fun e s=>K e s.tm s.hp s.b) hL hb ht p picks hpk ps.length 0 (by omega) hK)
def TL5:List (Nat×(List AV→(AV→Prop)→Prop)):= [(13,BXb9),(25,AQl9),(26,BMr9),(27,BFf9),(21,lessC BRn9),(30,lessC BFc9),(31,BRy9)]
theorem CDe9:AAk9 prog TL5:=Zag BKe9 (Zag ANb9 (Zag BFm9 (Zag ATe9 (Zag (AJr9 AXw9) (Zag (AJr9 ATd9) (Zag AYb9 Zai))))))
abbrev Qz21 (v0:List (List Int)):=Zae (bo false)::Zae (bo true)::Zbe 0 0::Zba::Zae (Zam 1 (AAc9 v0))::Zba::Zbe 1 0::bds 61 (Zae (Zam 1 (AAc9 v0))::Zae (i64 ((Zab (AAc9 v0):Nat):Int))::Zae (i64 0)::bds 65 [])
theorem f5_nf (p pk:List (List Dv)) (v t sd fr:Int):wpFn prog ⟨TL5, [],wlO5,y,false⟩ 200 Tryz.f5 [.d (.sl 1 p), .d (i64 v), .d (i64 t), .d (i64 sd), .d (i64 fr), .d (.sl 1 pk)] b R=(([]:List AV)= []∧∃(v0:Int) (t1:Int) (p2:List Int) (z3:NotT) (e4:Int), [Zae (i64 v),Zae (Zam 1 p),Zae (i64 t)]= [Zae (i64 v0),Zae (Zam 1 (AAb9 p2)),Zae (i64 t1)]∧(Zab p2≤9223372036854775807∧(z3,e4)=annS v0 p2 t1)∧BIf (e4 !=(0:Int)) (R (.d (bo true)) b) (BIf (decide (((Zab p:Nat):Int)>(1024:Int))) (R (.d (bo true)) b) (BIf (decide (sd<(0:Int))) (R (.d (bo true)) b) (BIf (decide (sd>(1000000000:Int))) (R (.d (bo true)) b) (∃(n5:Int) (z6:Bool), [Zae (i64 fr)]= [Zae (i64 n5)]∧z6=ACi9 n5∧BIf (!z6) (R (.d (bo true)) b) (BIf (decide (((Zab pk:Nat):Int)>(8:Int))) (R (.d (bo true)) b) (∃(p7:List Int) (q8:List (List Int)) (e9:Int), [Zae (Zam 1 p)]= [Zae (Zam 1 (AAb9 p7))]∧(Zab p7≤9223372036854775807∧(q8,e9)=AYx9 p7)∧∃(args10:List AV),LeVs [Zbj [Zae (i64 0),Zae (i64 0),Zae (u64 0),Zae (i64 0),Zae (Dv.s (.slice none 0 0)),Zae (Dv.s (.slice none 0 0)),Zae (Dv.s (.slice none 0 0)),Zae (Dv.s (.slice none 0 0)),Zae (i64 0),Zae (i64 0),Zae (i64 0),Zae (i64 0),Zae (i64 sd)],Zbj (noL z3),Zae (i64 0),Zae (i64 fr)] args10∧∃(s11:StT) (n12:NotT) (p13:Int) (f14:Int) (z15:StT),args10= [Zbj (stL s11),Zbj (noL n12),Zae (i64 p13),Zae (i64 f14)]∧((ABe9 s11)∧z15=hearS s11 n12 p13 f14)∧BIf (e9 !=(0:Int)) (R (.d (bo false)) b) (BIf (!(Zcl (Zbv z15)==Zcl z3&&(Zda (Zbv z15)==Zda z3&&(Zdk (Zbv z15)==Zdk z3&&(Zdg (Zbv z15)==Zdg z3&&true))))) (R (.d (bo false)) b) (∃(p16:List (List Dv)) (picks17:List (List Int)) (ps18:List (List Int)) (no19:NotT) (t20:TrT) (st21:StT),Code.loop lpO5=Code.loop lpO5∧(Zae (Zam 1 p)::bds 4 (Zae (Zam 1 pk)::bds 6 (Qz21 q8)))=(Zae (Zam 1 p16)::bds 4 (Zae (Zam 1 (AGp9 picks17))::bds 6 (Qz21 ps18)))∧(Qz17 z3 z15)=(Qz17 no19 st21)∧(Lays no19 ps18∧(∀(k:Nat),k<Zab ps18→∀(x:Int),x∈nthL ps18 k→(0:Int)≤x∧x<(256:Int))∧ABb9 t20=true∧(∀(q:List Int),q∈picks17→Zab q≤9223372036854775807∧∀(x:Int),x∈q→(0:Int)≤x∧x<(4294967296:Int))∧st21=laySt no19 ps18 0 [] [] t20)∧∀(i:Int),∃(args22:List AV),LeVs [Zbj [Zae (i64 (Zcl (Zbv (laySt no19 ps18 (Zab ps18) [] [] t20)))),Zae (i64 (Zda (Zbv (laySt no19 ps18 (Zab ps18) [] [] t20)))),Zae (u64 (Zdk (Zbv (laySt no19 ps18 (Zab ps18) [] [] t20)))),Zae (i64 (Zdg (Zbv (laySt no19 ps18 (Zab ps18) [] [] t20)))),Zae (Zam 1 (AAc9 (StT.ps (laySt no19 ps18 (Zab ps18) [] [] t20)))),Zae (Zam 1 (AAh9 (StT.qs (laySt no19 ps18 (Zab ps18) [] [] t20)))),Zae (Zam 2 (rowsR [])),Zae (Zam 1 (digR (StT.pf (laySt no19 ps18 (Zab ps18) [] [] t20)))),Zae (i64 (TrT.iv (StT.tr (laySt no19 ps18 (Zab ps18) [] [] t20)))),Zae (i64 (TrT.bg (StT.tr (laySt no19 ps18 (Zab ps18) [] [] t20)))),Zae (i64 (TrT.fi (StT.tr (laySt no19 ps18 (Zab ps18) [] [] t20)))),Zae (i64 (TrT.ct (StT.tr (laySt no19 ps18 (Zab ps18) [] [] t20)))),Zae (i64 (TrT.sd (StT.tr (laySt no19 ps18 (Zab ps18) [] [] t20))))]] args22∧∃(s23:StT) (z24:List Int) (e25:Bool),args22= [Zbj (stL s23)]∧((ABe9 s23)∧(z24,e25)=AKi9 (StT.sp s23))∧BIf e25 (∃(a26:List Int) (c27:List Int) (z28:Bool), [Zae (Zam 1 (AAb9 z24)),Zae (Zam 1 p16)]= [Zae (Zam 1 (AAb9 a26)),Zae (Zam 1 (AAb9 c27))]∧(Zab a26≤9223372036854775807∧z28=decide (a26=c27))∧R (.d (bo z28)) b) (R (.d (bo false)) b)))))))))):=by kernel_rfl
theorem BZk9 (p:List Int) (v t sd fr:Int) (picks:List (List Int)) (hp:p.length≤9223372036854775807) (hb:∀x∈p,0≤x∧x<256) (hpk:ATo9 picks):
 PCall prog 5 [.d (.sl 1 (AAb9 p)), .d (i64 v), .d (i64 t), .d (i64 sd), .d (i64 fr), .d (.sl 1 (AGp9 picks))] (.d (bo true)):=by
 refine PCall.ofFnW (n:=200) (u:=false) (fun _=>wlO5) mixed CDe9 Zad (fun Ev=>BTd9) func5 (by rfl) (by rfl) fun Ev bb=> ?_;rw [f5_nf];refine ⟨rfl,v,t,p,(annS v p t).1,(annS v p t).2,rfl,⟨hp,rfl⟩,Zau (fun _=>rfl) fun g1=>Zau (fun _=>rfl) fun g2=>Zau (fun _=>rfl) fun g3=>Zau (fun _=>rfl) fun g4=>⟨fr,_,rfl,rfl,Zau (fun _=>rfl) fun g5=>Zau (fun _=>rfl) fun g6=> ?_⟩⟩;obtain ⟨hsz,han⟩:=CCt9 g1;obtain ⟨e1,hL⟩:=AKv9 (p:=p) hsz han;have hsd:AEh9 sd=true:=by
  have a1:=of_decide_eq_false g3;have a2:=of_decide_eq_false g4;simp only [AEh9,inS,Bool.and_eq_true,decide_eq_true_eq];omega
 have hf:ACi9 fr=true:=by simpa using g5
 obtain ⟨h1,h2⟩:=BQq9 (sd:=sd) (f:=fr) hsd hf hL;obtain ⟨b1,b2⟩:=AMg9 hL;rw [e1];generalize hno:NotT.mk v _ _ t=no at hL h1;have hn:no.n=((p.length:Nat):Int):=by rw [←hno]
 refine ⟨p,ABn9 p,0,rfl,⟨hp,by rw [AYx9,if_pos hsz]⟩,_, .cons (zstLe sd) (LeVs.refl _),zst sd,no,0,fr,hearS (zst sd) no 0 fr,rfl,⟨BNg9 sd,rfl⟩,BIf.f (by decide) ?_⟩;rw [h1];refine BIf.f (by show (!(no.v==no.v&&(no.n==no.n&&(no.r==no.r&&(no.t==no.t&&true)))))=false;simp) ?_;refine ⟨AAb9 p,picks,ABn9 p,no,_,_,rfl,rfl,rfl,⟨hL,fun k hk=>fun x hx=>AOa9 hb _ (AEf9 hk) x hx,h2,hpk,rfl⟩,fun i=> ?_⟩;have hsm:ABe9 (laySt no (ABn9 p) (ABn9 p).length [] [] (newT sd fr).1):=by
  have hk:(ABn9 p).length - 1<(ABn9 p).length:=by omega
  have:=Fed.small hL hk (t:=(newT sd fr).1) (.inl rfl)
  rwa [Nat.sub_add_cancel b2] at this
 exact ⟨_,LeVs.refl _,laySt no (ABn9 p) (ABn9 p).length [] [] (newT sd fr).1,p,true,rfl,⟨hsm,(BGu9 hsz hL hn).symm⟩,p,p,_,rfl,⟨hp,rfl⟩,by simp⟩
end Go.Proofs.YtibhflogmbfpcaaGreatDoor.Am