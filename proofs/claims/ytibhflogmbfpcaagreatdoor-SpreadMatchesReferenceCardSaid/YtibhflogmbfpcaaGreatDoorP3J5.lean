import Derived.Test.YtibhflogmbfpcaaGreatDoorP3J4
import Derived.Test.YtibhflogmbfpcaaGreatDoorP3J3
import Derived.Test.YtibhflogmbfpcaaGreatDoorP3J2
import Derived.Test.YtibhflogmbfpcaaGreatDoorTie
import Derived.Test.YtibhflogmbfpcaaGreatDoorCards
import Derived.ProofKit
import Derived.LaidMore
import Derived.OpenShut
import Derived.Stop.Joined
import Derived.Lay
import Derived.LaidOnce
import Derived.SevenTiedAt
import Derived.JoinedOf
set_option linter.unusedSimpArgs false
set_option linter.unusedVariables false
namespace Go.Proofs.YtibhflogmbfpcaaGreatDoor.Am
open Go Go.RowKit Go.Proofs Tryz
open AV renaming agg → Zbc, bad → Zaq, d → Zae, ptr → Zbe, rptr → Zcj
open BIf renaming f → Zct, of → Zaj, t → Zbf
open BitVec renaming ofInt → Zar
open Bool renaming and_eq_true → Zan, and_false → Zdk, eq_false_iff → Zez
open AAf9 renaming cons → Zaf, nil → Zah
open Go.Code renaming loop → Zax
open Dv renaming s → Zfa, sl → Zai
open Go.Exit renaming exit → Zcy
open Int renaming tmod → Zdv, toNat → Zam, toNat_natCast → Zas
open Go.IntKind renaming i64 → Zap, wrap → Zaa
open LeH renaming refl → Zbt
open LeVs renaming refl → Zen
open List renaming getElem?_eq_getElem → Zbk, length → Zab, mem_cons_of_mem → Zaw, mem_cons_self → Zay, mem_map → Zbo, mem_of_getElem? → Zbh, mem_range → Zcr, range → Zbn, replicate → Zag
open NotT renaming n → Zbi, r → Zbl, t → Zbj, v → Zba
open PCall renaming ofFn → Zaz, ofFnV → Zck, ofFnW → Zcd
open AAk9 renaming cons → Zci, nil → Zac
open TrT renaming bg → Zdc, ct → Zde, fi → Zdd, iv → Zda, sd → Zcp
open Go.Value renaming slice → Zbp
variable {β:Type} (wl:WLT β) (y:ABr9 β) (b:β) (R:AV→β→Prop) (RS:AV→List Blk→β→Prop) (K:Exit→List AV→List Blk→β→Prop) (Kh:Exit→List Blk→β→Prop) (Q:β→Prop)
open AV (bad)
set_option linter.unusedVariables false
set_option maxRecDepth 20000
structure StT where
 no:NotT
 ps:List (List Int)
 qs:List (List Int)
 rows:List Row
 pf:List Int
 tr:TrT
def StT.sp (s:StT):SprT:=⟨s.no,s.ps,s.qs,rowsR s.rows,s.pf,s.tr.iv,s.tr.bg,s.tr.fi,s.tr.ct,s.tr.sd⟩
def stD (s:StT):List Dv:= [i64 s.no.v,i64 s.no.n,u64 s.no.r,i64 s.no.t, .sl 1 (AAc9 s.ps), .sl 1 (AAe9 s.qs), .sl 2 (rowsR s.rows), .sl 1 (digR s.pf),i64 s.tr.iv,i64 s.tr.bg,i64 s.tr.fi,i64 s.tr.ct,i64 s.tr.sd]
def stL (s:StT):List AV:= [.d (i64 s.no.v), .d (i64 s.no.n), .d (u64 s.no.r), .d (i64 s.no.t), .d (.sl 1 (AAc9 s.ps)), .d (.sl 1 (AAe9 s.qs)), .d (.sl 2 (rowsR s.rows)), .d (.sl 1 (digR s.pf)), .d (i64 s.tr.iv), .d (i64 s.tr.bg), .d (i64 s.tr.fi), .d (i64 s.tr.ct), .d (i64 s.tr.sd)]
def stV (s:StT):AV:= .agg (stL s)
theorem BZs9 (a n r t:Int):wpFn prog ⟨[], [],wl,y,false⟩ 100 f70 [notA a n r t] b R=(BIf (decide (a≥(1:Int))) (BIf (decide (a≤(1000000000:Int))) (BIf (decide (n≥(1:Int))) (BIf (decide (n≤(4096:Int))) (BIf (decide (t≥(0:Int))) (R (.d (bo (decide (t≤(1000000000:Int))))) b) (R (.d (bo false)) b)) (R (.d (bo false)) b)) (R (.d (bo false)) b)) (R (.d (bo false)) b)) (R (.d (bo false)) b)):=by kernel_rfl
theorem BIs9 (a n r t:Int):wpFn prog ⟨[], [],wl,y,false⟩ 100 f71 [notA a n r t] b R=(R (Zae (i64 (Zaa Zap (Int.tdiv (Zaa Zap (Zaa Zap (n+256) - (1:Int))) (256:Int))))) b):=by kernel_rfl
theorem BIr9 (s:StT):wpFn prog ⟨[], [],wl,y,false⟩ 100 f62 [.rptr (stD s)] b R=(BIf (Zba (StT.no s)==(0:Int)&&(Zbi (StT.no s)==(0:Int)&&(Zbl (StT.no s)==(0:Int)&&(Zbj (StT.no s)==(0:Int)&&true)))) (BIf (Zaa .i64 (Zaa .i64 (Zaa .i64 (((Zab (AAc9 (StT.ps s)):Nat):Int)+((Zab (AAe9 (StT.qs s)):Nat):Int))+((Zab (rowsR (StT.rows s)):Nat):Int))+((Zab (digR (StT.pf s)):Nat):Int))==(0:Int)) (BIf (Zda (StT.tr s)==(0:Int)&&(Zdc (StT.tr s)==(0:Int)&&(Zdd (StT.tr s)==(0:Int)&&(Zde (StT.tr s)==(0:Int)&&(Zcp (StT.tr s)==Zcp (StT.tr s)&&true))))) (BIf (decide (Zcp (StT.tr s)≥(0:Int))) (R (.d (bo (decide (Zcp (StT.tr s)≤(1000000000:Int))))) b) (R (.d (bo false)) b)) (R (.d (bo false)) b)) (R (.d (bo false)) b)) (R (.d (bo false)) b)):=by kernel_rfl
def AAt9 (s:StT):Prop:=(s.ps.length≤1000∧∀p∈s.ps,p.length≤1000000)∧(s.qs.length≤1000∧∀q∈s.qs,q.length≤1000000)∧ACf9 s.rows∧s.pf.length≤1000000
def zeroN (n:NotT):Bool:=n.v==0&&(n.n==0&&(n.r==0&&n.t==0))
def AEz9 (s:StT):Bool:=zeroN s.no&&(s.ps.isEmpty&&s.qs.isEmpty&&s.rows.isEmpty&&s.pf.isEmpty)&&(s.tr.iv==0&&(s.tr.bg==0&&(s.tr.fi==0&&s.tr.ct==0)))&&ADm9 s.tr.sd
def fullP (s:StT):Bool:=(s.ps.length:Int)==ABj9 s.no.n
def AJb9 (s:StT):Bool:=ABt9 s.sp
def ABp9 (s:StT):Bool:=AEz9 s||(AJb9 s&&(ADy9 s.rows&&(decide ((s.rows.length:Int)<16)&&((s.rows.isEmpty|| !fullP s)&&((!s.rows.isEmpty||s.pf.isEmpty)&&ABf9 s.tr)))))
theorem CGf9 (a n r t:Int):PCall prog 70 [notA a n r t] (.d (bo (AAi9 a n t))):=by
 refine Zaz (n:=100) (u:=false) mixed Zah Zac func70 (by rfl) (by rfl) fun Ev bb=> ?_
 rw [BZs9]
 have e:AAi9 a n t=(decide (a≥1)&&(decide (a≤1000000000)&&((decide (n≥1)&&decide (n≤4096))&&(decide (t≥0)&&decide (t≤1000000000))))):=rfl
 rw [e]
 refine Zaj (fun h1=>Zaj (fun h2=>Zaj (fun h3=>Zaj (fun h4=>Zaj (fun h5=> ?_) fun h5=> ?_) fun h4=> ?_) fun h3=> ?_) fun h2=> ?_) fun h1=> ?_
 · rw [h1,h2,h3,h4,h5];rfl
 · rw [h5];simp
 · rw [h4];simp
 · rw [h3];simp
 · rw [h2];simp
 · rw [h1];rfl
theorem BDf9 (a n r t:Int):PCall prog 71 [notA a n r t] (.d (i64 (ABj9 n))):=by
 refine Zaz (n:=100) (u:=false) mixed Zah Zac func71 (by rfl) (by rfl) fun Ev bb=> ?_
 rw [BIs9];rfl
def BPd9 (args:List AV) (K:AV→Prop):Prop:=∃(a n r t z:Int),args= [notA a n r t]∧z=ABj9 n∧K (.d (i64 z))
theorem BGe9:∀args K,BPd9 args K→∃x,PCall prog 71 args x∧K x:=by
 rintro _ K ⟨a,n,r,t,_,rfl,rfl,h⟩;exact ⟨_,BDf9 a n r t,h⟩
theorem ADb9 {α:Type} (l:List α):l.isEmpty=decide (l.length=0):=by cases l<;>simp
theorem sum4 {a b c d:Nat} (h:a≤1000000∧b≤1000000∧c≤1000000∧d≤1000000):(Zaa Zap (Zaa Zap (Zaa Zap ((a:Int)+(b:Int))+(c:Int))+(d:Int))==0)=(decide (a=0)&&decide (b=0)&&decide (c=0)&&decide (d=0)):=by
 rw [wr64 (x:=(a:Int)+(b:Int)) (by omega) (by omega),wr64 (x:=(a:Int)+(b:Int)+(c:Int)) (by omega) (by omega),wr64 (by omega) (by omega)]
 rw [Bool.eq_iff_iff]
 simp only [beq_iff_eq,Zan,decide_eq_true_eq]
 omega
theorem BSw9 (s:StT) (hs:AAt9 s):PCall prog 62 [.rptr (stD s)] (.d (bo (AEz9 s))):=by
 refine Zaz (n:=100) (u:=false) mixed Zah Zac func62 (by rfl) (by rfl) fun Ev bb=> ?_
 rw [BIr9,AAd9,AAs9,ABs9,AAn9,sum4 ⟨by have:=hs.1.1;omega,by have:=hs.2.1.1;omega,by have:=hs.2.2.1.1;omega,hs.2.2.2⟩]
 rw [←ADb9,←ADb9,←ADb9,←ADb9]
 have e:ADm9 s.tr.sd=(decide (s.tr.sd≥0)&&decide (s.tr.sd≤1000000000)):=rfl
 have e1:∀x:Int,(x==x)=true:=fun x=>by simp
 rw [AEz9,zeroN,e]
 simp only [Bool.and_true,e1]
 refine Zaj (fun h1=>Zaj (fun h2=>Zaj (fun h3=>Zaj (fun h4=> ?_) fun h4=> ?_) fun h3=> ?_) fun h2=> ?_) fun h1=> ?_
 · rw [h1,h2,h3,h4];rfl
 · rw [h4,Bool.false_and,Zdk]
 · rw [h3,Zdk];rfl
 · rw [h2,Zdk];rfl
 · rw [h1];rfl
def AXt9 (args:List AV) (K:AV→Prop):Prop:=∃(s:StT) (z:Bool),args= [.rptr (stD s)]∧(AAt9 s∧z=AEz9 s)∧K (.d (bo z))
theorem AMj9:∀args K,AXt9 args K→∃x,PCall prog 62 args x∧K x:=by
 rintro _ K ⟨s,_,rfl,⟨hs,rfl⟩,h⟩;exact ⟨_,BSw9 s hs,h⟩
def TWl:List (Nat×(List AV→(AV→Prop)→Prop)):= [(71,BPd9),(74,BVl9),(53,lessC cPut)]
theorem BWt9:AAf9 prog TWl:=Zaf BGe9 (Zaf AXp9 (Zaf (APj9 CDt9) Zah))
def GB5:List (Nat×(List AV→List Blk→(AV→List Blk→Prop)→Prop)):= [(1000005,fun _ _ _=>False)]
theorem BXe9:AAk9 prog GB5:=Zci (fun _ _ _ h=>h.elim) Zac
theorem BIe9 (s:StT):wpFn prog ⟨TWl, [],wl,y,false⟩ 100 f121 [.rptr (stD s)] b R=(∃(a0:Int) (n1:Int) (r2:Int) (t3:Int) (z4:Int), [Zbc (noL (StT.no s))]=(Qz39 a0 n1 r2 t3)∧z4=ABj9 n1∧R (.d (bo (((Zab (AAc9 (StT.ps s)):Nat):Int)==z4))) b):=by kernel_rfl
theorem BIg9 (s:StT):wpFn prog ⟨TWl, [],wl,y,false⟩ 100 f133 [.rptr (stD s)] b R=(BIf (decide (Zde (StT.tr s)≥(0:Int))) (BIf (decide (Zde (StT.tr s)≤(100:Int))) (∃(t0:TrT) (z1:TrT), [Zbc [Zae (i64 (Zda (StT.tr s))),Zae (i64 (Zdc (StT.tr s))),Zae (i64 (Zdd (StT.tr s))),Zae (i64 0),Zae (i64 (Zcp (StT.tr s)))]]= [Zbc (trL t0)]∧z1=hearT t0∧R (.d (bo !(Zda z1==Zda (StT.tr s)&&(Zdc z1==Zdc (StT.tr s)&&(Zdd z1==Zdd (StT.tr s)&&(Zde z1==(0:Int)&&(Zcp z1==Zcp (StT.tr s)&&true))))))) b) (R (.d (bo false)) b)) (R (.d (bo false)) b)):=by kernel_rfl
theorem BIh9 (s:StT):wpFn prog ⟨TWl,GB5,wl,y,false⟩ 100 f132 [.rptr (stD s)] b R=(∃(args0:List AV),LeVs [Zbc (stL s),AV.full 1 (AAa9 (Zag 256 0)),Zae (Zfa (.slice none 0 0))] args0∧∃(s1:SprT) (p2:List Int) (q3:List Int) (z4:SprT) (e5:Int),args0= [Zbc (spL s1),Zae (Zai 1 (AAa9 p2)),Zae (Zai 1 (digR q3))]∧((Zab (SprT.ps s1)≤9223372036854775807∧Zab q3≤1000000∧∀(x:List Int),x∈SprT.qs s1→Zab x≤1000000)∧(z4,e5)=putS s1 p2 q3)∧R (.d (bo (e5 !=(1:Int)))) b):=by kernel_rfl
theorem BSr9 (s:StT):PCall prog 121 [.rptr (stD s)] (.d (bo (fullP s))):=by
 refine Zaz (n:=100) (u:=false) mixed BWt9 Zac func121 (by rfl) (by rfl) fun Ev bb=> ?_
 rw [BIe9,AAd9]
 exact ⟨_,_,_,_,_,rfl,rfl,rfl⟩
def BGa9 (args:List AV) (K:AV→Prop):Prop:=∃(s:StT) (z:Bool),args= [.rptr (stD s)]∧z=fullP s∧K (.d (bo z))
theorem ASt9:∀args K,BGa9 args K→∃x,PCall prog 121 args x∧K x:=by
 rintro _ K ⟨s,_,rfl,rfl,h⟩;exact ⟨_,BSr9 s,h⟩
theorem BSt9 (s:StT):PCall prog 133 [.rptr (stD s)] (.d (bo (ABf9 s.tr))):=by
 refine Zaz (n:=100) (u:=false) mixed BWt9 Zac func133 (by rfl) (by rfl) fun Ev bb=> ?_
 rw [BIg9]
 refine Zaj (fun g1=>Zaj (fun g2=>⟨⟨s.tr.iv,s.tr.bg,s.tr.fi,0,s.tr.sd⟩,_,rfl,rfl, ?_⟩) fun g2=> ?_) fun g1=> ?_
 · have g1:=of_decide_eq_true g1
   have g2:=of_decide_eq_true g2
   have e:ABf9 s.tr=ABf9 ⟨s.tr.iv,s.tr.bg,s.tr.fi,0,s.tr.sd⟩:=by rw [Bool.eq_iff_iff,ABh9,ABh9];simp only;omega
   rw [e]
   cases hv:ABf9 ⟨s.tr.iv,s.tr.bg,s.tr.fi,0,s.tr.sd⟩
   · simp [hearT,hv]
   · have e1:∀x:Int,(x==x)=true:=fun x=>by simp
     simp only [hearT,hv,if_true,e1,Bool.true_and];rfl
 · have g2:=of_decide_eq_false g2
   rw [show ABf9 s.tr=false from Zez.2 fun h=>by have:=ABh9.1 h;omega]
 · have g1:=of_decide_eq_false g1
   rw [show ABf9 s.tr=false from Zez.2 fun h=>by have:=ABh9.1 h;omega]
def BPb9 (args:List AV) (K:AV→Prop):Prop:=∃(s:StT) (z:Bool),args= [.rptr (stD s)]∧z=ABf9 s.tr∧K (.d (bo z))
theorem BGb9:∀args K,BPb9 args K→∃x,PCall prog 133 args x∧K x:=by
 rintro _ K ⟨s,_,rfl,rfl,h⟩;exact ⟨_,BSt9 s,h⟩
theorem CAd9 {s:SprT} {p q:List Int} (hp:p.length=256):((putS s p q).2 !=1)=ABt9 s:=by
 unfold putS
 cases h:ABt9 s
 · rw [if_pos (.inl rfl)];rfl
 · rw [if_neg (by simp [hp])]
   split
   · rfl
   · split<;>rfl
theorem BSu9 (s:StT) (hs:AAt9 s):PCall prog 132 [.rptr (stD s)] (.d (bo (AJb9 s))):=by
 refine Zaz (n:=100) (u:=false) mixed BWt9 BXe9 func132 (by rfl) (by rfl) fun Ev bb=> ?_
 rw [BIh9]
 refine ⟨_, .cons .rfl (.cons .full (.cons (.nil rfl) .nil)),s.sp,Zag 256 0, [],(putS s.sp (Zag 256 0) []).1,(putS s.sp (Zag 256 0) []).2,rfl,⟨⟨by have:=hs.1.1;show s.ps.length≤_;omega,by simp,hs.2.1.2⟩,rfl⟩, ?_⟩
 show Zae (bo ((putS s.sp (Zag 256 0) []).2 !=1))=_
 rw [CAd9 (List.length_replicate ..)];rfl
def BPc9 (args:List AV) (K:AV→Prop):Prop:=∃(s:StT) (z:Bool),args= [.rptr (stD s)]∧(AAt9 s∧z=AJb9 s)∧K (.d (bo z))
theorem BGc9:∀args K,BPc9 args K→∃x,PCall prog 132 args x∧K x:=by
 rintro _ K ⟨s,_,rfl,⟨hs,rfl⟩,h⟩;exact ⟨_,BSu9 s hs,h⟩
def TVd:List (Nat×(List AV→(AV→Prop)→Prop)):= [(62,AXt9),(132,BPc9),(91,c20),(121,BGa9),(133,BPb9)]
theorem CKt9:AAf9 prog TVd:=Zaf AMj9 (Zaf BGc9 (Zaf CEk9 (Zaf ASt9 (Zaf BGb9 Zah))))
theorem BIf9 (s:StT):wpFn prog ⟨TVd, [],wl,y,false⟩ 100 f61 [.rptr (stD s)] b R=(∃(s0:StT) (z1:Bool), [Zcj (stD s)]= [Zcj (stD s0)]∧((AAt9 s0)∧z1=AEz9 s0)∧BIf z1 (R (.d (bo true)) b) (∃(s2:StT) (z3:Bool), [Zcj (stD s)]= [Zcj (stD s2)]∧((AAt9 s2)∧z3=AJb9 s2)∧BIf z3 (∃(l4:List Row), [Zae (Zai 2 (rowsR (StT.rows s)))]= [Zae (Zai 2 (rowsR l4))]∧Zab l4≤9223372036854775807∧BIf (ADy9 l4) (BIf (decide (((Zab (rowsR (StT.rows s)):Nat):Int)<(16:Int))) (BIf (((Zab (rowsR (StT.rows s)):Nat):Int)==(0:Int)) (BIf (decide (((Zab (rowsR (StT.rows s)):Nat):Int)>(0:Int))) (∃(s5:StT) (z6:Bool), [Zcj (stD s)]= [Zcj (stD s5)]∧z6=ABf9 (StT.tr s5)∧R (.d (bo z6)) b) (BIf (((Zab (digR (StT.pf s)):Nat):Int)==(0:Int)) (∃(s7:StT) (z8:Bool), [Zcj (stD s)]= [Zcj (stD s7)]∧z8=ABf9 (StT.tr s7)∧R (.d (bo z8)) b) (R (.d (bo false)) b))) (∃(s9:StT) (z10:Bool), [Zcj (stD s)]= [Zcj (stD s9)]∧z10=fullP s9∧BIf (!z10) (BIf (decide (((Zab (rowsR (StT.rows s)):Nat):Int)>(0:Int))) (∃(s11:StT) (z12:Bool), [Zcj (stD s)]= [Zcj (stD s11)]∧z12=ABf9 (StT.tr s11)∧R (.d (bo z12)) b) (BIf (((Zab (digR (StT.pf s)):Nat):Int)==(0:Int)) (∃(s13:StT) (z14:Bool), [Zcj (stD s)]= [Zcj (stD s13)]∧z14=ABf9 (StT.tr s13)∧R (.d (bo z14)) b) (R (.d (bo false)) b))) (R (.d (bo false)) b))) (R (.d (bo false)) b)) (R (.d (bo false)) b)) (R (.d (bo false)) b))):=by kernel_rfl
theorem AWm9 {α:Type} (l:List α):((l.length:Int)==0)=l.isEmpty:=by cases l<;>simp<;>omega
theorem AWl9 {α:Type} (l:List α):decide ((l.length:Int)>0)= !l.isEmpty:=by cases l<;>simp<;>omega
theorem BSs9 (s:StT) (hs:AAt9 s):PCall prog 61 [.rptr (stD s)] (.d (bo (ABp9 s))):=by
 refine Zaz (n:=100) (u:=false) mixed CKt9 Zac func61 (by rfl) (by rfl) fun Ev bb=> ?_
 rw [BIf9,ABs9,AAn9,AWm9,AWm9,AWl9]
 refine ⟨s,_,rfl,⟨hs,rfl⟩,Zaj (fun h=>by rw [ABp9,h];rfl) fun h1=>⟨s,_,rfl,⟨hs,rfl⟩,Zaj (fun h2=>⟨_,rfl,by have:=hs.2.2.1.1;omega,Zaj (fun h3=>Zaj (fun h4=>Zaj (fun h5=>Zaj (fun h6=> ?_) fun h6=>Zaj (fun h7=> ?_) fun h7=> ?_) fun h5=>⟨s,_,rfl,rfl,Zaj (fun h8=>Zaj (fun h6=> ?_) fun h6=>Zaj (fun h7=> ?_) fun h7=> ?_) fun h8=> ?_⟩) fun h4=> ?_) fun h3=> ?_⟩) fun h2=> ?_⟩⟩
 · rw [h5] at h6;cases h6
 · exact ⟨s,_,rfl,rfl,by rw [ABp9,h1,h2,h3,h4,h5,h7];rfl⟩
 · rw [ABp9,h1,h2,h3,h4,h5,h7];rfl
 · exact ⟨s,_,rfl,rfl,by rw [ABp9,h1,h2,h3,h4,h5,nbt h8];rfl⟩
 · rw [h5] at h6;cases h6
 · rw [h5] at h6;cases h6
 · rw [ABp9,h1,h2,h3,h4,h5,nbf h8];rfl
 · rw [ABp9,h1,h2,h3,h4];rfl
 · rw [ABp9,h1,h2,h3];rfl
 · rw [ABp9,h1,h2];rfl
def AXr9 (args:List AV) (K:AV→Prop):Prop:=∃(s:StT) (z:Bool),args= [.rptr (stD s)]∧(AAt9 s∧z=ABp9 s)∧K (.d (bo z))
theorem AMi9:∀args K,AXr9 args K→∃x,PCall prog 61 args x∧K x:=by
 rintro _ K ⟨s,_,rfl,⟨hs,rfl⟩,h⟩;exact ⟨_,BSs9 s hs,h⟩
def TCo:List (Nat×(List AV→(AV→Prop)→Prop)):= [(51,AMm9),(120,BHd9)]
theorem BNg9:AAf9 prog TCo:=Zaf AHg9 (Zaf ATe9 Zah)
noncomputable def lpCo1:Code:=sub [1,1,0,1,2,3] (code f47)
noncomputable def lpCo2:Code:=sub [1,1,1,0,1,2,3] (code f47)
noncomputable def lpCo3:Code:=sub [1,1,1,1,0,1,2,3] (code f47)
def stB (s:StT):Blk:=⟨stL s,false,false,0⟩
def outC (s:StT) (a c d:AV):Blk:=⟨noL s.no++ [a,c,d, .d (.sl 1 (digR s.pf))]++trL s.tr,false,false,0⟩
def tmCo (g k:Nat) (xs:List (List Dv)) (n i:Int):List AV:= [.bad, .ptr 0 0, .bad, .ptr 1 0]++Zag (g - 4) .bad++ [.d (.sl k xs), .d (i64 n), .d (i64 i)]++Zag (67 - g) .bad
theorem rCo1 (s:StT) (n i:Int) (xs:List (List Dv)) (c5 c6:AV):wpc prog ⟨TCo, [],wl,y,false⟩ 100 lpCo1 (tmCo 19 1 (AAc9 s.ps) n i) [stB s,outC s (.own 33 1 xs) c5 c6] b (maskT [1,3,19,20,21] K)=(BIf (decide (i<n)) (BIf (true&&decide (0≤i)) (∃(xs0:List (List Dv)),(AAc9 (StT.ps s))[Zam i]? =some [Zai 1 xs0]∧∃(xs3:List (List Dv)), [Zae (Zai 1 xs0)]= [Zae (Zai 1 xs3)]∧Zab xs3≤1000000∧BIf (true&&decide ((Zab xs+1)*24≤140737488355328)) (K .normal (Zaq::Zbe 0 0::Zaq::Zbe 1 0::bds 15 (Zae (Zai 1 (AAc9 (StT.ps s)))::Zae (i64 n)::Zae (i64 (Zaa .i64 (i+1)))::bds 48 [])) [stB s,Blk.mk [Zae (i64 (Zba (StT.no s))),Zae (i64 (Zbi (StT.no s))),Zae (u64 (Zbl (StT.no s))),Zae (i64 (Zbj (StT.no s))),AV.own 33 1 (xs++ [[Zai 1 xs3]]),c5,c6,Zae (Zai 1 (digR (StT.pf s))),Zae (i64 (Zda (StT.tr s))),Zae (i64 (Zdc (StT.tr s))),Zae (i64 (Zdd (StT.tr s))),Zae (i64 (Zde (StT.tr s))),Zae (i64 (Zcp (StT.tr s)))] false false 0] b) False) False) (K (Zcy 0) (Zaq::Zbe 0 0::Zaq::Zbe 1 0::bds 15 (Zae (Zai 1 (AAc9 (StT.ps s)))::Zae (i64 n)::Zae (i64 i)::bds 48 [])) [stB s,Blk.mk [Zae (i64 (Zba (StT.no s))),Zae (i64 (Zbi (StT.no s))),Zae (u64 (Zbl (StT.no s))),Zae (i64 (Zbj (StT.no s))),AV.own 33 1 xs,c5,c6,Zae (Zai 1 (digR (StT.pf s))),Zae (i64 (Zda (StT.tr s))),Zae (i64 (Zdc (StT.tr s))),Zae (i64 (Zdd (StT.tr s))),Zae (i64 (Zde (StT.tr s))),Zae (i64 (Zcp (StT.tr s)))] false false 0] b)):=by kernel_rfl
theorem rCo2 (s:StT) (n i:Int) (xs:List (List Dv)) (c5 c6:AV):wpc prog ⟨TCo, [],wl,y,false⟩ 100 lpCo2 (tmCo 34 1 (AAe9 s.qs) n i) [stB s,outC s c5 (.own 28 1 xs) c6] b (maskT [1,3,34,35,36] K)=(BIf (decide (i<n)) (BIf (true&&decide (0≤i)) (∃(xs0:List (List Dv)),(AAe9 (StT.qs s))[Zam i]? =some [Zai 1 xs0]∧∃(xs3:List (List Dv)), [Zae (Zai 1 xs0)]= [Zae (Zai 1 xs3)]∧Zab xs3≤1000000∧BIf (true&&decide ((Zab xs+1)*24≤140737488355328)) (K .normal (Zaq::Zbe 0 0::Zaq::Zbe 1 0::bds 30 (Zae (Zai 1 (AAe9 (StT.qs s)))::Zae (i64 n)::Zae (i64 (Zaa .i64 (i+1)))::bds 33 [])) [stB s,Blk.mk [Zae (i64 (Zba (StT.no s))),Zae (i64 (Zbi (StT.no s))),Zae (u64 (Zbl (StT.no s))),Zae (i64 (Zbj (StT.no s))),c5,AV.own 28 1 (xs++ [[Zai 1 xs3]]),c6,Zae (Zai 1 (digR (StT.pf s))),Zae (i64 (Zda (StT.tr s))),Zae (i64 (Zdc (StT.tr s))),Zae (i64 (Zdd (StT.tr s))),Zae (i64 (Zde (StT.tr s))),Zae (i64 (Zcp (StT.tr s)))] false false 0] b) False) False) (K (Zcy 2) (Zaq::Zbe 0 0::Zaq::Zbe 1 0::bds 30 (Zae (Zai 1 (AAe9 (StT.qs s)))::Zae (i64 n)::Zae (i64 i)::bds 33 [])) [stB s,Blk.mk [Zae (i64 (Zba (StT.no s))),Zae (i64 (Zbi (StT.no s))),Zae (u64 (Zbl (StT.no s))),Zae (i64 (Zbj (StT.no s))),c5,AV.own 28 1 xs,c6,Zae (Zai 1 (digR (StT.pf s))),Zae (i64 (Zda (StT.tr s))),Zae (i64 (Zdc (StT.tr s))),Zae (i64 (Zdd (StT.tr s))),Zae (i64 (Zde (StT.tr s))),Zae (i64 (Zcp (StT.tr s)))] false false 0] b)):=by kernel_rfl
theorem rCo3 (s:StT) (n i:Int) (xs A B:List (List Dv)):wpc prog ⟨TCo, [],wl,y,false⟩ 100 lpCo3 (tmCo 49 2 (rowsR s.rows) n i) [stB s,outC s (.own 33 1 A) (.own 28 1 B) (.own 71 2 xs)] b (maskK 2 [1,3,49,50,51] K)=(BIf (decide (i<n)) (BIf (true&&decide (0≤i)) (∃(x0:Int) (xs1:List (List Dv)),(rowsR (StT.rows s))[Zam i]? =some [i64 x0,Zai 1 xs1]∧∃(xs4:List (List Dv)), [Zae (Zai 1 xs1)]= [Zae (Zai 1 xs4)]∧Zab xs4≤1000000∧BIf (true&&decide ((Zab xs+1)*32≤140737488355328)) (K .normal (Zaq::Zbe 0 0::Zaq::Zbe 1 0::bds 45 (Zae (Zai 2 (rowsR (StT.rows s)))::Zae (i64 n)::Zae (i64 (Zaa .i64 (i+1)))::bds 18 [])) [stB s,Blk.mk [Zae (i64 (Zba (StT.no s))),Zae (i64 (Zbi (StT.no s))),Zae (u64 (Zbl (StT.no s))),Zae (i64 (Zbj (StT.no s))),AV.own 33 1 A,AV.own 28 1 B,AV.own 71 2 (xs++ [[i64 x0,Zai 1 xs4]]),Zae (Zai 1 (digR (StT.pf s))),Zae (i64 (Zda (StT.tr s))),Zae (i64 (Zdc (StT.tr s))),Zae (i64 (Zdd (StT.tr s))),Zae (i64 (Zde (StT.tr s))),Zae (i64 (Zcp (StT.tr s)))] false false 0] b) False) False) (K (Zcy 4) (Zaq::Zbe 0 0::Zaq::Zbe 1 0::bds 45 (Zae (Zai 2 (rowsR (StT.rows s)))::Zae (i64 n)::Zae (i64 i)::bds 18 [])) [stB s,Blk.mk [Zae (i64 (Zba (StT.no s))),Zae (i64 (Zbi (StT.no s))),Zae (u64 (Zbl (StT.no s))),Zae (i64 (Zbj (StT.no s))),AV.own 33 1 A,AV.own 28 1 B,AV.own 71 2 xs,Zae (Zai 1 (digR (StT.pf s))),Zae (i64 (Zda (StT.tr s))),Zae (i64 (Zdc (StT.tr s))),Zae (i64 (Zdd (StT.tr s))),Zae (i64 (Zde (StT.tr s))),Zae (i64 (Zcp (StT.tr s)))] false false 0] b)):=by kernel_rfl
theorem AQl9 {α:Type} {l:List (List α)} {k:Nat} (h:k<l.length):l.take (k+1)=l.take k++ [nthL l k]:=by
 rw [List.take_succ_eq_append_getElem h,nthL];simp [h]
def nthW (l:List Row) (i:Nat):Row:=l.getD i (0, [])
theorem BDr9 {l:List Row} {k:Nat} (h:k<l.length):nthW l k∈l:=by
 rw [nthW,List.getD_eq_getElem?_getD,Zbk h];exact List.getElem_mem h
theorem BBi9 {l:List Row} {k:Nat} (h:k<l.length):l.take (k+1)=l.take k++ [nthW l k]:=by
 rw [List.take_succ_eq_append_getElem h,nthW];simp [h]
theorem AQx9 {l:List Row} {k:Nat} (h:k<l.length):(rowsR l)[k]? =some [i64 (nthW l k).1, .sl 1 (AAa9 (nthW l k).2)]:=by simp [rowsR,rowD,nthW,h]
theorem BIz9 (l:List Row) (x:Row):rowsR l++ [[i64 x.1, .sl 1 (AAa9 x.2)]]=rowsR (l++ [x]):=by simp [rowsR,rowD]
theorem wrapN {j:Nat} (h:j<1000000):Zaa Zap ((j:Int)+1)=((j+1:Nat):Int):=by
 rw [AAl9 (by omega) (by omega)];simp
theorem wrCo1 {Ev:Env prog} {b:Ev.β} {Q:Exit→St Ev.β→Prop} (s:StT) (hs:AAt9 s) (c5 c6:AV) (hQ:∀i:Int,Q (.exit 0) ⟨tmCo 19 1 (AAc9 s.ps) s.ps.length i, [stB s,outC s (.own 33 1 (AAc9 s.ps)) c5 c6],b⟩):
   WR Ev lpCo1 (s.ps.length+1) ⟨tmCo 19 1 (AAc9 s.ps) s.ps.length 0, [stB s,outC s (.own 33 1 (AAc9 [])) c5 c6],b⟩ Q:=by
 have hl:=hs.1.1
 refine WR.steps (X:=⟨TCo, [],wlW Ev,Ev.Y,false⟩) (k:=100) [1,3,19,20,21] mixed (CX.Ok.of BNg9 Zac) (e:= .exit 0) (by simp) b (fun j=>tmCo 19 1 (AAc9 s.ps) s.ps.length (j:Nat)) (fun j=> [stB s,outC s (.own 33 1 (AAc9 (s.ps.take j))) c5 c6]) s.ps.length 0 (fun j _ hj K k1=> ?_) (fun K k1=> ?_) ?_
 · have hj:j<s.ps.length:=by omega
   rw [rCo1]
   refine Zbf (by simp;omega) (Zbf (by simp) ⟨AAa9 (nthL s.ps j),by rw [Zas];exact AHv9 hj,_,rfl,by rw [AAh9];exact hs.1.2 _ (ACo9 hj),Zbf (by simp [AAd9];omega) ?_⟩)
   rw [wrapN (by omega),AGn9,←AQl9 hj]
   exact k1
 · rw [rCo1]
   exact Zct (by simp) k1
 · have:=hQ s.ps.length
   simpa using this
theorem wrCo2 {Ev:Env prog} {b:Ev.β} {Q:Exit→St Ev.β→Prop} (s:StT) (hs:AAt9 s) (c5 c6:AV) (hQ:∀i:Int,Q (.exit 2) ⟨tmCo 34 1 (AAe9 s.qs) s.qs.length i, [stB s,outC s c5 (.own 28 1 (AAe9 s.qs)) c6],b⟩):
   WR Ev lpCo2 (s.qs.length+1) ⟨tmCo 34 1 (AAe9 s.qs) s.qs.length 0, [stB s,outC s c5 (.own 28 1 (AAe9 [])) c6],b⟩ Q:=by
 have hl:=hs.2.1.1
 refine WR.steps (X:=⟨TCo, [],wlW Ev,Ev.Y,false⟩) (k:=100) [1,3,34,35,36] mixed (CX.Ok.of BNg9 Zac) (e:= .exit 2) (by simp) b (fun j=>tmCo 34 1 (AAe9 s.qs) s.qs.length (j:Nat)) (fun j=> [stB s,outC s c5 (.own 28 1 (AAe9 (s.qs.take j))) c6]) s.qs.length 0 (fun j _ hj K k1=> ?_) (fun K k1=> ?_) ?_
 · have hj:j<s.qs.length:=by omega
   rw [rCo2]
   refine Zbf (by simp;omega) (Zbf (by simp) ⟨digR (nthL s.qs j),by rw [Zas];exact AHc9 hj,_,rfl,by rw [AAn9];exact hs.2.1.2 _ (ACo9 hj),Zbf (by simp [AAs9];omega) ?_⟩)
   rw [wrapN (by omega),AFv9,←AQl9 hj]
   exact k1
 · rw [rCo2]
   exact Zct (by simp) k1
 · have:=hQ s.qs.length
   simpa using this
theorem wrCo3 {Ev:Env prog} {b:Ev.β} {Q:Exit→St Ev.β→Prop} (s:StT) (hs:AAt9 s) (A B:List (List Dv)) (hQ:∀i:Int,Q (.exit 4) ⟨tmCo 49 2 (rowsR s.rows) s.rows.length i, [stB s,outC s (.own 33 1 A) (.own 28 1 B) (.own 71 2 (rowsR s.rows))],b⟩):
   WR Ev lpCo3 (s.rows.length+1) ⟨tmCo 49 2 (rowsR s.rows) s.rows.length 0, [stB s,outC s (.own 33 1 A) (.own 28 1 B) (.own 71 2 (rowsR []))],b⟩ Q:=by
 have hl:=hs.2.2.1.1
 refine WR.stepsM (m:=2) (X:=⟨TCo, [],wlW Ev,Ev.Y,false⟩) (k:=100) [1,3,49,50,51] mixed (CX.Ok.of BNg9 Zac) (e:= .exit 4) (by simp) b (fun j=>tmCo 49 2 (rowsR s.rows) s.rows.length (j:Nat)) (fun j=> [stB s,outC s (.own 33 1 A) (.own 28 1 B) (.own 71 2 (rowsR (s.rows.take j)))]) (fun _=>rfl) s.rows.length 0 (fun j _ hj K k1=> ?_) (fun K k1=> ?_) ?_
 · have hj:j<s.rows.length:=by omega
   rw [rCo3]
   refine Zbf (by simp;omega) (Zbf (by simp) ⟨(nthW s.rows j).1,AAa9 (nthW s.rows j).2,by rw [Zas];exact AQx9 hj,_,rfl,by rw [AAh9];have:=hs.2.2.1.2 _ (BDr9 hj);omega,Zbf (by simp [ABs9];omega) ?_⟩)
   rw [wrapN (by omega),BIz9,←BBi9 hj]
   exact k1
 · rw [rCo3]
   exact Zct (by simp) k1
 · have:=hQ s.rows.length
   simpa using this
def wlCo {β:Type}:WLT β:=fun c tm hp b K=>match cidO c with
 |4=>∃s,AAt9 s∧c= .loop lpCo1∧ABb9 [1,3,19,20,21] 0 tm=tmCo 19 1 (AAc9 s.ps) (AAc9 s.ps).length 0∧hp= [stB s,outC s nilV nilV nilV]∧∀i:Int,K (.exit 0) (tmCo 19 1 (AAc9 s.ps) s.ps.length i) [stB s,outC s (.own 33 1 (AAc9 s.ps)) nilV nilV] b
 |9=>∃s,AAt9 s∧c= .loop lpCo2∧ABb9 [1,3,34,35,36] 0 tm=tmCo 34 1 (AAe9 s.qs) (AAe9 s.qs).length 0∧hp= [stB s,outC s (.own 33 1 (AAc9 s.ps)) nilV nilV]∧∀i:Int,K (.exit 2) (tmCo 34 1 (AAe9 s.qs) s.qs.length i) [stB s,outC s (.own 33 1 (AAc9 s.ps)) (.own 28 1 (AAe9 s.qs)) nilV] b
 |14=>∃s,AAt9 s∧c= .loop lpCo3∧ABb9 [1,3,49,50,51] 0 tm=tmCo 49 2 (rowsR s.rows) (rowsR s.rows).length 0∧hp= [stB s,outC s (.own 33 1 (AAc9 s.ps)) (.own 28 1 (AAe9 s.qs)) nilV]∧∀i:Int,K (.exit 4) (tmCo 49 2 (rowsR s.rows) s.rows.length i) [stB s,outC s (.own 33 1 (AAc9 s.ps)) (.own 28 1 (AAe9 s.qs)) (.own 71 2 (rowsR s.rows))] b
 |_=>False
theorem BYa9 {Ev:Env prog} (c:Code) (tm:List AV) (hp:List Blk) (b:Ev.β) (K:Exit→List AV→List Blk→Ev.β→Prop) (h:wlCo c tm hp b K):W Ev c ⟨tm,hp,b⟩ (fun e s=>K e s.tm s.hp s.b):=by
 unfold wlCo at h
 split at h
 · obtain ⟨s,hs,rfl,htm,rfl,hK⟩:=h
   rw [AAd9] at htm
   refine W.cast (htm▸AAg9 _ tm 0) (hp':= [stB s,outC s (.own 33 1 (AAc9 [])) nilV nilV]) (LeH.at [stB s] [] (LeL.at [_,_,_,_] _ (LeA.nilOwn rfl))) ?_
   exact W.rounds (wrCo1 (Q:=fun e s=>K e s.tm s.hp s.b) s hs _ _ hK)
 · obtain ⟨s,hs,rfl,htm,rfl,hK⟩:=h
   rw [AAs9] at htm
   refine W.cast (htm▸AAg9 _ tm 0) (hp':= [stB s,outC s (.own 33 1 (AAc9 s.ps)) (.own 28 1 (AAe9 [])) nilV]) (LeH.at [stB s] [] (LeL.at [_,_,_,_,_] _ (LeA.nilOwn rfl))) ?_
   exact W.rounds (wrCo2 (Q:=fun e s=>K e s.tm s.hp s.b) s hs _ _ hK)
 · obtain ⟨s,hs,rfl,htm,rfl,hK⟩:=h
   rw [ABs9] at htm
   refine W.cast (htm▸AAg9 _ tm 0) (hp':= [stB s,outC s (.own 33 1 (AAc9 s.ps)) (.own 28 1 (AAe9 s.qs)) (.own 71 2 (rowsR []))]) (LeH.at [stB s] [] (LeL.at [_,_,_,_,_,_] _ (LeA.nilOwn rfl))) ?_
   exact W.rounds (wrCo3 (Q:=fun e s=>K e s.tm s.hp s.b) s hs _ _ hK)
 · exact h.elim
abbrev Qz11 (v0:StT):List AV:= [Zae (i64 (Zba (StT.no v0))),Zae (i64 (Zbi (StT.no v0))),Zae (u64 (Zbl (StT.no v0))),Zae (i64 (Zbj (StT.no v0))),AV.own 33 1 (AAc9 (StT.ps v0)),AV.own 28 1 (AAe9 (StT.qs v0)),AV.own 71 2 (rowsR (StT.rows v0)),Zae (Zai 1 (digR (StT.pf v0))),Zae (i64 (Zda (StT.tr v0))),Zae (i64 (Zdc (StT.tr v0))),Zae (i64 (Zdd (StT.tr v0))),Zae (i64 (Zde (StT.tr v0))),Zae (i64 (Zcp (StT.tr v0)))]
abbrev Qz14 (v0:StT):= [stB v0,Blk.mk [Zae (i64 (Zba (StT.no v0))),Zae (i64 (Zbi (StT.no v0))),Zae (u64 (Zbl (StT.no v0))),Zae (i64 (Zbj (StT.no v0))),AV.own 33 1 (AAc9 (StT.ps v0)),AV.own 28 1 (AAe9 (StT.qs v0)),Zae (Zfa (.slice none 0 0)),Zae (Zai 1 (digR (StT.pf v0))),Zae (i64 (Zda (StT.tr v0))),Zae (i64 (Zdc (StT.tr v0))),Zae (i64 (Zdd (StT.tr v0))),Zae (i64 (Zde (StT.tr v0))),Zae (i64 (Zcp (StT.tr v0)))] false false 0]
abbrev Qz15 (v0:StT):= [stB v0,Blk.mk [Zae (i64 (Zba (StT.no v0))),Zae (i64 (Zbi (StT.no v0))),Zae (u64 (Zbl (StT.no v0))),Zae (i64 (Zbj (StT.no v0))),AV.own 33 1 (AAc9 (StT.ps v0)),Zae (Zfa (.slice none 0 0)),Zae (Zfa (.slice none 0 0)),Zae (Zai 1 (digR (StT.pf v0))),Zae (i64 (Zda (StT.tr v0))),Zae (i64 (Zdc (StT.tr v0))),Zae (i64 (Zdd (StT.tr v0))),Zae (i64 (Zde (StT.tr v0))),Zae (i64 (Zcp (StT.tr v0)))] false false 0]
abbrev Qz22 (v0:StT):=Zaq::Zbe 0 0::Zaq::Zbe 1 0::bds 30 (Zae (Zai 1 (AAe9 (StT.qs v0)))::Zae (i64 ((Zab (AAe9 (StT.qs v0)):Nat):Int))::Zae (i64 0)::bds 33 [])
abbrev Qz23 (v0:StT):=Zaq::Zbe 0 0::Zaq::Zbe 1 0::bds 45 (Zae (Zai 2 (rowsR (StT.rows v0)))::Zae (i64 ((Zab (rowsR (StT.rows v0)):Nat):Int))::Zae (i64 0)::bds 18 [])
abbrev Qz24 (v0:StT):=Zaq::Zbe 0 0::Zaq::Zbe 1 0::bds 15 (Zae (Zai 1 (AAc9 (StT.ps v0)))::Zae (i64 ((Zab (AAc9 (StT.ps v0)):Nat):Int))::Zae (i64 0)::bds 48 [])
theorem BLk9 (s:StT):wpFnS prog ⟨TCo, [],wlCo,y,false⟩ 100 f47 [stV s] b RS=(∃(xs0:List (List Dv)), [Zae (Zai 1 (digR (StT.pf s)))]= [Zae (Zai 1 xs0)]∧Zab xs0≤1000000∧∃(s1:StT),(AAt9 s1)∧Zax lpCo1=Zax lpCo1∧(Qz24 s)=(Qz24 s1)∧ [stB s,Blk.mk [Zae (i64 (Zba (StT.no s))),Zae (i64 (Zbi (StT.no s))),Zae (u64 (Zbl (StT.no s))),Zae (i64 (Zbj (StT.no s))),Zae (Zfa (.slice none 0 0)),Zae (Zfa (.slice none 0 0)),Zae (Zfa (.slice none 0 0)),Zae (Zai 1 xs0),Zae (i64 (Zda (StT.tr s))),Zae (i64 (Zdc (StT.tr s))),Zae (i64 (Zdd (StT.tr s))),Zae (i64 (Zde (StT.tr s))),Zae (i64 (Zcp (StT.tr s)))] false false 0]= [stB s1,Blk.mk [Zae (i64 (Zba (StT.no s1))),Zae (i64 (Zbi (StT.no s1))),Zae (u64 (Zbl (StT.no s1))),Zae (i64 (Zbj (StT.no s1))),Zae (Zfa (.slice none 0 0)),Zae (Zfa (.slice none 0 0)),Zae (Zfa (.slice none 0 0)),Zae (Zai 1 (digR (StT.pf s1))),Zae (i64 (Zda (StT.tr s1))),Zae (i64 (Zdc (StT.tr s1))),Zae (i64 (Zdd (StT.tr s1))),Zae (i64 (Zde (StT.tr s1))),Zae (i64 (Zcp (StT.tr s1)))] false false 0]∧∀(i:Int),∃(s2:StT),(AAt9 s2)∧Zax lpCo2=Zax lpCo2∧(Qz22 s1)=(Qz22 s2)∧(Qz15 s1)=(Qz15 s2)∧∀(i:Int),∃(s3:StT),(AAt9 s3)∧Zax lpCo3=Zax lpCo3∧(Qz23 s2)=(Qz23 s3)∧(Qz14 s2)=(Qz14 s3)∧∀(i:Int),RS (Zbe 2 0) [stB s3,Blk.mk (Qz11 s3) false false 0,stB s3] b):=by kernel_rfl
noncomputable def lpEq:Code:=sub [1,1,0,1,2,3] (code f122)
def tmEq (a c:List (List Dv)) (n i:Int):List AV:= [.d (.sl 1 a), .d (.sl 1 c)]++Zag 10 .bad++ [.d (i64 n), .d (i64 i)]++Zag 12 .bad
theorem rEq (a c:List (List Dv)) (n i:Int):wpc prog ⟨[], [],wl,y,false⟩ 100 lpEq (tmEq a c n i) [] b (maskT [0,1,4,12,13] K)=(BIf (decide (i<n)) (BIf (true&&decide (0≤i)) (∃(x0:Int),a[Zam i]? =some [u64 x0]∧BIf (true&&decide (0≤i)) (∃(x3:Int),c[Zam i]? =some [u64 x3]∧BIf (x0 !=x3) (K .ret (Zae (Zai 1 a)::Zae (Zai 1 c)::Zaq::Zaq::Zae (bo false)::bds 7 (Zae (i64 n)::Zae (i64 i)::bds 12 [])) [] b) (K .normal (Zae (Zai 1 a)::Zae (Zai 1 c)::bds 10 (Zae (i64 n)::Zae (i64 (Zaa .i64 (i+1)))::bds 12 [])) [] b)) False) False) (K (Zcy 0) (Zae (Zai 1 a)::Zae (Zai 1 c)::bds 10 (Zae (i64 n)::Zae (i64 i)::bds 12 [])) [] b)):=by kernel_rfl
theorem wrEq {Ev:Env prog} {b:Ev.β} {Q:Exit→St Ev.β→Prop} (a c:List Int) (hl:a.length=c.length) (hb:a.length≤9223372036854775807) (h1:a=c→∀i:Int,Q (.exit 0) ⟨tmEq (digR a) (digR c) a.length i, [],b⟩) (h2:a≠c→∀i:Int,Q .ret ⟨(tmEq (digR a) (digR c) a.length i).set 4 (.d (bo false)), [],b⟩):
   WR Ev lpEq (a.length+1) ⟨tmEq (digR a) (digR c) a.length (0:Nat), [],b⟩ Q:=by
 refine WR.scan (X:=⟨[], [],wlW Ev,Ev.Y,false⟩) (k:=100) [0,1,4,12,13] mixed (CX.Ok.of Zah Zac) a.length (fun i=>nth a i !=nth c i) (fun i=>tmEq (digR a) (digR c) a.length (i:Nat)) (fun i=>(tmEq (digR a) (digR c) a.length (i:Nat)).set 4 (.d (bo false))) [] 0 (fun i hi K k1 k2=> ?_) (fun K k1=> ?_) (fun h=>h1 ?_ _) fun h i=>h2 ?_ _
 · rw [rEq]
   refine Zbf (by simp<;>omega) (Zbf (by simp) ⟨nth a i,by rw [Zas];exact AHo9 hi,Zbf (by simp) ⟨nth c i,by rw [Zas];exact AHo9 (by omega),Zaj (fun g=>k1 g) fun g=> ?_⟩⟩)
   rw [AAu9 hi hb];exact k2 g
 · rw [rEq]
   exact Zct (by simp) k1
 · rw [ANb9 hl] at h;simpa using h
 · rw [ANb9 hl] at h;simpa using h
def wlEq {β:Type}:WLT β:=fun t tm hp b K=>∃(a c:List Int) (z:Bool),t= .loop lpEq∧ABb9 [0,1,12,13] 0 tm=tmEq (digR a) (digR c) (digR a).length 0∧hp= []∧((a.length=c.length∧a.length≤9223372036854775807)∧z=decide (a=c))∧
 BIf z (∀i:Int,K (.exit 0) (tmEq (digR a) (digR c) a.length i) [] b) (∀i:Int,K .ret ((tmEq (digR a) (digR c) a.length i).set 4 (.d (bo false))) [] b)
theorem BXz9 {Ev:Env prog} (c:Code) (tm:List AV) (hp:List Blk) (b:Ev.β) (K:Exit→List AV→List Blk→Ev.β→Prop) (h:wlEq c tm hp b K):W Ev c ⟨tm,hp,b⟩ (fun e s=>K e s.tm s.hp s.b):=by
 obtain ⟨a,d,z,rfl,htm,rfl,⟨⟨hl,hb⟩,hz⟩,hK⟩:=h
 rw [AAn9] at htm
 refine W.cast (htm▸AAg9 _ tm 0) (Zbt _) ?_
 exact W.rounds (wrEq (Q:=fun e s=>K e s.tm s.hp s.b) a d hl hb (fun h=>by rw [hz,decide_eq_true h] at hK;exact hK) fun h=>by rw [hz,decide_eq_false h] at hK;exact hK)
theorem BUz9 (a c:List (List Dv)):wpFn prog ⟨[], [],wlEq,y,false⟩ 100 f122 [.d (.sl 1 a), .d (.sl 1 c)] b R=(BIf (((Zab a:Nat):Int) !=((Zab c:Nat):Int)) (R (.d (bo false)) b) (∃(a0:List Int) (c1:List Int) (z2:Bool),Zax lpEq=Zax lpEq∧(Zae (Zai 1 a)::Zae (Zai 1 c)::bds 10 (Zae (i64 ((Zab a:Nat):Int))::Zae (i64 0)::bds 12 []))=(Zae (Zai 1 (digR a0))::Zae (Zai 1 (digR c1))::bds 10 (Zae (i64 ((Zab (digR a0):Nat):Int))::Zae (i64 0)::bds 12 []))∧([]:List Blk)= []∧((Zab a0=Zab c1∧Zab a0≤9223372036854775807)∧z2=decide (a0=c1))∧BIf z2 (∀(i:Int),R (.d (bo true)) b) (∀(i:Int),R (.d (bo false)) b))):=by kernel_rfl
theorem CBi9 (a c:List Int) (ha:a.length≤9223372036854775807):PCall prog 122 [.d (.sl 1 (digR a)), .d (.sl 1 (digR c))] (.d (bo (decide (a=c)))):=by
 refine Zcd (n:=100) (u:=false) (fun _=>wlEq) mixed Zah Zac (fun Ev=>BXz9) func122 (by rfl) (by rfl) fun Ev bb=> ?_
 rw [BUz9,AAn9,AAn9]
 refine Zaj (fun g=> ?_) fun g=>⟨a,c,_,rfl,by rw [AAn9],rfl,⟨⟨by simp at g;omega,ha⟩,rfl⟩,Zaj (fun h i=>by rw [h]) fun h i=>by rw [h]⟩
 rw [decide_eq_false fun h=>by rw [h] at g;simp at g]
def CEb9 (args:List AV) (K:AV→Prop):Prop:=∃(a c:List Int) (z:Bool),args= [.d (.sl 1 (digR a)), .d (.sl 1 (digR c))]∧(a.length≤9223372036854775807∧z=decide (a=c))∧K (.d (bo z))
theorem BMo9:∀args K,CEb9 args K→∃x,PCall prog 122 args x∧K x:=by
 rintro _ K ⟨a,c,_,rfl,⟨hl,rfl⟩,h⟩;exact ⟨_,CBi9 a c hl,h⟩
theorem BTm9 (s:StT) (hs:AAt9 s):FCall prog 47 [stV s] (.ptr 2 0) [stB s,outC s (.own 33 1 (AAc9 s.ps)) (.own 28 1 (AAe9 s.qs)) (.own 71 2 (rowsR s.rows)),stB s]:=by
 refine FCall.ofFnF (n:=100) (u:=false) (fun _=>wlCo) mixed BNg9 Zac (fun Ev=>BYa9) func47 (by rfl) (by rfl) (by rfl) fun Ev bb=> ?_
 rw [BLk9]
 exact ⟨_,rfl,by rw [AAn9];exact hs.2.2.2,s,hs,rfl,rfl,rfl,fun i=>⟨s,hs,rfl,rfl,rfl,fun i=>⟨s,hs,rfl,rfl,rfl,fun i=>⟨.rfl,rfl⟩⟩⟩⟩
def AVx9 (args:List AV) (hp:List Blk) (K:AV→List Blk→Prop):Prop:=∃(s:StT),args= [stV s]∧AAt9 s∧
 K (.ptr (hp.length+2) 0) (hp++ [stB s,outC s (.own 33 1 (AAc9 s.ps)) (.own 28 1 (AAe9 s.qs)) (.own 71 2 (rowsR s.rows)),stB s])
theorem ALm9:∀args hp K,AVx9 args hp K→∃x hp',SCall prog 47 args hp x hp'∧K x hp':=by
 rintro _ hp K ⟨s,rfl,hs,h⟩;exact ⟨_,_,(BTm9 s hs).toS rfl hp,h⟩
structure BlkT where
 n:Int
 s:Int
 d:List Int
 pf:List Int
def bkL (x:BlkT):List AV:= [.d (i64 x.n), .d (i64 x.s), .d (.sl 1 (AAa9 x.d)), .d (.sl 1 (digR x.pf))]
def bkV (x:BlkT):AV:= .agg (bkL x)
def TRf:List (Nat×(List AV→(AV→Prop)→Prop)):= [(61,AXr9),(62,AXt9),(121,BGa9),(122,CEb9)]
theorem CLd9:AAf9 prog TRf:=Zaf AMi9 (Zaf AMj9 (Zaf ASt9 (Zaf BMo9 Zah)))
theorem BCi9 (s:StT) (x:BlkT):wpFn prog ⟨TRf, [],wl,y,false⟩ 100 f48 [.rptr (stD s),bkV x] b R=(∃(s0:StT) (z1:Bool), [Zcj (stD s)]= [Zcj (stD s0)]∧((AAt9 s0)∧z1=ABp9 s0)∧BIf (!z1) (R (.d (i64 1)) b) (BIf (decide (BlkT.n x<(0:Int))) (R (.d (i64 1)) b) (BIf (decide (BlkT.n x≥(16:Int))) (R (.d (i64 1)) b) (BIf (decide (BlkT.s x<(0:Int))) (R (.d (i64 1)) b) (BIf (decide (BlkT.s x>(1000000000:Int))) (R (.d (i64 1)) b) (BIf (((Zab (AAa9 (BlkT.d x)):Nat):Int) !=(16:Int)) (R (.d (i64 1)) b) (∃(s2:StT) (z3:Bool), [Zcj (stD s)]= [Zcj (stD s2)]∧((AAt9 s2)∧z3=AEz9 s2)∧BIf z3 (R (.d (i64 4)) b) (∃(s4:StT) (z5:Bool), [Zcj (stD s)]= [Zcj (stD s4)]∧z5=fullP s4∧BIf z5 (R (.d (i64 10)) b) (BIf (decide (BlkT.n x<((Zab (AAc9 (StT.ps s)):Nat):Int))) (R (.d (i64 14)) b) (BIf (decide (BlkT.n x>((Zab (AAc9 (StT.ps s)):Nat):Int))) (R (.d (i64 6)) b) (BIf (decide (((Zab (rowsR (StT.rows s)):Nat):Int)>(0:Int))) (∃(a6:List Int) (c7:List Int) (z8:Bool), [Zae (Zai 1 (digR (BlkT.pf x))),Zae (Zai 1 (digR (StT.pf s)))]=(Qz45 a6 c7)∧(Zab a6≤9223372036854775807∧z8=decide (a6=c7))∧BIf (!z8) (R (.d (i64 12)) b) (R (.d (i64 0)) b)) (R (.d (i64 0)) b)))))))))))):=by kernel_rfl
abbrev Qz4 (v0:StT):List AV:= [Zae (i64 (Zba (StT.no v0))),Zae (i64 (Zbi (StT.no v0))),Zae (u64 (Zbl (StT.no v0))),Zae (i64 (Zbj (StT.no v0))),Zae (Zai 1 (AAc9 (StT.ps v0))),Zae (Zai 1 (AAe9 (StT.qs v0))),Zae (Zfa (.slice none 0 0)),Zae (Zfa (.slice none 0 0)),Zae (i64 (Zda (StT.tr v0))),Zae (i64 (Zdc (StT.tr v0))),Zae (i64 (Zdd (StT.tr v0))),Zae (i64 (Zde (StT.tr v0))),Zae (i64 (Zcp (StT.tr v0)))]
theorem BWq9 (b0 b1 b2 b3 b4:Blk) (s:StT) (e:Int):wpc prog ⟨[], [],wl,y,false⟩ 100 (code f50) (ABc9 f50 [.ptr 5 0, .d (i64 e)]) [b0,b1,b2,b3,b4,stB s] b (fnKS prog f50 RS)=(RS (AV.tup [Zbc (Qz4 s),Zae (i64 e)]) [b0,b1,b2,b3,b4,Blk.mk (Qz4 s) false false 0,Blk.mk (Qz4 s) false false 0] b):=by kernel_rfl
theorem BWp9 (b0 b1 b2 b3 b4 b6:Blk) (s:StT) (e:Int):wpc prog ⟨[], [],wl,y,false⟩ 100 (code f50) (ABc9 f50 [.ptr 5 0, .d (i64 e)]) [b0,b1,b2,b3,b4,stB s,b6] b (fnKS prog f50 RS)=(RS (AV.tup [Zbc (Qz4 s),Zae (i64 e)]) [b0,b1,b2,b3,b4,Blk.mk (Qz4 s) false false 0,b6,Blk.mk (Qz4 s) false false 0] b):=by kernel_rfl
def badB (x:BlkT):Bool:=decide (x.n<0)||(decide (x.n≥16)||(decide (x.s<0)||(decide (x.s>1000000000)||((x.d.length:Int) !=16))))
def AAp9 (s:StT) (x:BlkT):Int:=
 if (!ABp9 s||badB x)=true then 1 else if AEz9 s=true then 4 else if fullP s=true then 10 else if x.n<s.ps.length then 14 else if x.n>s.ps.length then 6 else if (!s.rows.isEmpty&& !decide (x.pf=s.pf))=true then 12 else 0
theorem BJo9 (s:StT) (x:BlkT) (hs:AAt9 s) (hx:x.pf.length≤1000000):PCall prog 48 [.rptr (stD s),bkV x] (.d (i64 (AAp9 s x))):=by
 refine Zaz (n:=100) (u:=false) mixed CLd9 Zac func48 (by rfl) (by rfl) fun Ev bb=> ?_
 rw [BCi9,AAd9,ABs9,AAh9,AWl9]
 have bad:(!ABp9 s||badB x)=true→AAp9 s x=1:=fun h=>by rw [AAp9,if_pos h]
 refine ⟨s,_,rfl,⟨hs,rfl⟩,Zaj (fun h=>by rw [bad (by rw [h];rfl)]) fun h1=>Zaj (fun h=>by rw [bad (by rw [badB,h];simp)]) fun h2=>Zaj (fun h=>by rw [bad (by rw [badB,h];simp)]) fun h3=>Zaj (fun h=>by rw [bad (by rw [badB,h];simp)]) fun h4=>Zaj (fun h=>by rw [bad (by rw [badB,h];simp)]) fun h5=>Zaj (fun h=>by rw [bad (by rw [badB,h];simp)]) fun h6=> ?_⟩
 have hb:¬(!ABp9 s||badB x)=true:=by rw [h1,badB,h2,h3,h4,h5,h6];decide
 refine ⟨s,_,rfl,⟨hs,rfl⟩,Zaj (fun h=>by rw [AAp9,if_neg hb,if_pos h]) fun g1=>⟨s,_,rfl,rfl,Zaj (fun h=>by rw [AAp9,if_neg hb,if_neg (by rw [g1];decide),if_pos h]) fun g2=>Zaj (fun h=> ?_) fun g3=>Zaj (fun h=> ?_) fun g4=>Zaj (fun g5=>⟨_,_,_,rfl,⟨by omega,rfl⟩,Zaj (fun h=> ?_) fun g6=> ?_⟩) fun g5=> ?_⟩⟩
 all_goals rw [AAp9,if_neg hb,if_neg (by rw [g1];decide),if_neg (by rw [g2];decide)]
 · rw [if_pos (of_decide_eq_true h)]
 · rw [if_neg (of_decide_eq_false g3),if_pos (of_decide_eq_true h)]
 · rw [if_neg (of_decide_eq_false g3),if_neg (of_decide_eq_false g4),if_pos (by rw [g5,h];rfl)]
 · rw [if_neg (of_decide_eq_false g3),if_neg (of_decide_eq_false g4),if_neg (by rw [g6,Zdk];decide)]
 · rw [if_neg (of_decide_eq_false g3),if_neg (of_decide_eq_false g4),if_neg (by rw [g5,Bool.false_and];decide)]
def BGf9 (args:List AV) (K:AV→Prop):Prop:=∃(s:StT) (x:BlkT) (z:Int),args= [.rptr (stD s),bkV x]∧((AAt9 s∧x.pf.length≤1000000)∧z=AAp9 s x)∧K (.d (i64 z))
theorem AZt9:∀args K,BGf9 args K→∃x,PCall prog 48 args x∧K x:=by
 rintro _ K ⟨s,x,_,rfl,⟨⟨hs,hx⟩,rfl⟩,h⟩;exact ⟨_,BJo9 s x hs hx,h⟩
def anL (s:StT):List AV:=noL s.no++ [.d (.sl 1 (AAc9 s.ps)), .d (.sl 1 (AAe9 s.qs)), .d (.s (.slice none 0 0)), .d (.s (.slice none 0 0))]++trL s.tr
def anewS (s:StT):StT:=⟨s.no,s.ps,s.qs, [], [],s.tr⟩
theorem AYd9:Tryz.f50.body=some (code f50):=by rfl
theorem BZr9 (b0 b1 b2 b3 b4:Blk) (s:StT) (e:Int):SCall prog 50 [.ptr 5 0, .d (i64 e)] [b0,b1,b2,b3,b4,stB s] (.tup [.agg (anL s), .d (i64 e)]) [b0,b1,b2,b3,b4,⟨anL s,false,false,0⟩,⟨anL s,false,false,0⟩]:=by
 refine SCall.ofWp (n:=100) (u:=false) mixed Zah Zac func50 AYd9 (by rfl) fun Ev b=> ?_
 rw [BWq9]
 exact ⟨rfl,rfl⟩
theorem BZq9 (b0 b1 b2 b3 b4 b6:Blk) (s:StT) (e:Int):SCall prog 50 [.ptr 5 0, .d (i64 e)] [b0,b1,b2,b3,b4,stB s,b6] (.tup [.agg (anL s), .d (i64 e)]) [b0,b1,b2,b3,b4,⟨anL s,false,false,0⟩,b6,⟨anL s,false,false,0⟩]:=by
 refine SCall.ofWp (n:=100) (u:=false) mixed Zah Zac func50 AYd9 (by rfl) fun Ev b=> ?_
 rw [BWp9]
 exact ⟨rfl,rfl⟩
def sAnew (args:List AV) (hp:List Blk) (K:AV→List Blk→Prop):Prop:=match hp with
 | [b0,b1,b2,b3,b4,b5]=>∃(s:StT) (e:Int),args= [.ptr 5 0, .d (i64 e)]∧b5=stB s∧K (.tup [.agg (anL s), .d (i64 e)]) [b0,b1,b2,b3,b4,⟨anL s,false,false,0⟩,⟨anL s,false,false,0⟩]
 | [b0,b1,b2,b3,b4,b5,b6]=>∃(s:StT) (e:Int),args= [.ptr 5 0, .d (i64 e)]∧b5=stB s∧K (.tup [.agg (anL s), .d (i64 e)]) [b0,b1,b2,b3,b4,⟨anL s,false,false,0⟩,b6,⟨anL s,false,false,0⟩]
 |_=>False
theorem BRx9:∀args hp K,sAnew args hp K→∃x hp',SCall prog 50 args hp x hp'∧K x hp':=by
 intro args hp K h
 unfold sAnew at h
 split at h
 · obtain ⟨s,e,rfl,rfl,h⟩:=h
   exact ⟨_,_,BZr9 _ _ _ _ _ s e,h⟩
 · obtain ⟨s,e,rfl,rfl,h⟩:=h
   exact ⟨_,_,BZq9 _ _ _ _ _ _ s e,h⟩
 · exact h.elim
def BQd9:StT:=⟨⟨0,0,0,0⟩, [], [], [], [],⟨0,0,0,0,0⟩⟩
def putT (s:StT) (p q:List Int):StT×Int:=
 if AJb9 s=false∨p.length≠256 then (BQd9,1) else if (s.ps.length:Int)=ABj9 s.no.n then (BQd9,10) else if ABl9 s.sp s.ps.length p q=false then (BQd9,12)
 else (⟨s.no,s.ps++ [p],s.qs++ [q], [], [],s.tr⟩,0)
theorem AWa9 (s:StT) (p q:List Int):spV (putS s.sp p q).1=stV (putT s p q).1∧(putS s.sp p q).2=(putT s p q).2:=by
 unfold putS putT AJb9
 by_cases h1:ABt9 s.sp=false∨p.length≠256
 · rw [if_pos h1,if_pos h1];exact ⟨rfl,rfl⟩
 · rw [if_neg h1,if_neg h1]
   by_cases h2:(s.ps.length:Int)=ABj9 s.no.n
   · rw [if_pos (show (s.sp.ps.length:Int)=ABj9 s.sp.no.n from h2),if_pos h2];exact ⟨rfl,rfl⟩
   · rw [if_neg (show ¬(s.sp.ps.length:Int)=ABj9 s.sp.no.n from h2),if_neg h2]
     by_cases h3:ABl9 s.sp s.ps.length p q=false
     · rw [if_pos (show ABl9 s.sp s.sp.ps.length p q=false from h3),if_pos h3];exact ⟨rfl,rfl⟩
     · rw [if_neg (show ¬ABl9 s.sp s.sp.ps.length p q=false from h3),if_neg h3];exact ⟨rfl,rfl⟩
def okPut (s:StT) (q:List Int):Prop:=s.ps.length≤9223372036854775807∧q.length≤1000000∧∀x∈s.qs,x.length≤1000000
theorem CGm9 (s:StT) (p q:List Int) (h:okPut s q):PCall prog 53 [stV s, .d (.sl 1 (AAa9 p)), .d (.sl 1 (digR q))] (.tup [stV (putT s p q).1, .d (i64 (putT s p q).2)]):=by
 have:=pcPut s.sp p q h.1 h.2.1 h.2.2
 rw [(AWa9 s p q).1,(AWa9 s p q).2] at this
 exact this
def cPutT (args:List AV) (K:AV→Prop):Prop:=∃(s:StT) (p q:List Int) (z:StT) (e:Int),args= [stV s, .d (.sl 1 (AAa9 p)), .d (.sl 1 (digR q))]∧(okPut s q∧(z,e)=putT s p q)∧K (.tup [stV z, .d (i64 e)])
theorem BVt9:∀args K,cPutT args K→∃x,PCall prog 53 args x∧K x:=by
 rintro _ K ⟨s,p,q,z,e,rfl,⟨h1,he⟩,h⟩
 have:=CGm9 s p q h1
 rw [←he] at this
 exact ⟨_,this,h⟩
def cRecB (args:List AV) (K:AV→Prop):Prop:=∃(l:List Row) (x:BlkT) (z:List Row) (n:Bool) (e:Int),args= [.d (.sl 2 (rowsR l)),bkV x]∧(2*l.length≤1000000∧(z,n,e)=recS l x.n x.s x.d)∧K (.tup [.d (.sl 2 (rowsR z)), .d (bo n), .d (i64 e)])
theorem BVp9:∀args K,cRecB args K→∃x,PCall prog 49 args x∧K x:=by
 rintro _ K ⟨l,x,z,n,e,rfl,⟨h1,he⟩,h⟩
 have:=BJp9 l x.n x.s x.d (digR x.pf) h1
 rw [←he] at this
 exact ⟨_,this,h⟩
def CDv9 (args:List AV) (K:AV→Prop):Prop:=∃(l:List Row) (z:List Int) (e:Bool),args= [.d (.sl 2 (rowsR l))]∧(l.length≤9223372036854775807∧(z,e)=ACi9 l)∧K (.tup [.d (.sl 1 (AAa9 z)), .d (bo e)])
theorem BMk9:∀args K,CDv9 args K→∃x,PCall prog 52 args x∧K x:=by
 rintro _ K ⟨l,z,e,rfl,⟨h1,he⟩,h⟩
 have:=CGo9 l h1
 rw [←he] at this
 exact ⟨_,this,h⟩
def TRc:List (Nat×(List AV→(AV→Prop)→Prop)):= [(49,cRecB),(51,AMm9),(52,CDv9),(53,cPutT)]
theorem CLe9:AAf9 prog TRc:=Zaf BVp9 (Zaf AHg9 (Zaf BMk9 (Zaf BVt9 Zah)))
def SRc:List (Nat×(List AV→List Blk→(AV→List Blk→Prop)→Prop)):= [(47,AVx9),(48,lendC BGf9),(50,sAnew)]
theorem CLt9:AAk9 prog SRc:=Zci ALm9 (Zci (APk9 AZt9) (Zci BRx9 Zac))
abbrev Qz12 (v0:StT) (v1:List Row) (v2:List (List Dv)):List AV:= [Zae (i64 (Zba (StT.no v0))),Zae (i64 (Zbi (StT.no v0))),Zae (u64 (Zbl (StT.no v0))),Zae (i64 (Zbj (StT.no v0))),Zae (Zai 1 (AAc9 (StT.ps v0))),Zae (Zai 1 (AAe9 (StT.qs v0))),Zae (Zai 2 (rowsR v1)),Zae (Zai 1 v2),Zae (i64 (Zda (StT.tr v0))),Zae (i64 (Zdc (StT.tr v0))),Zae (i64 (Zdd (StT.tr v0))),Zae (i64 (Zde (StT.tr v0))),Zae (i64 (Zcp (StT.tr v0)))]
theorem AYr9 (s:StT) (x:BlkT):wpFn prog ⟨TRc,SRc,wl,y,false⟩ 100 f15 [stV s,bkV x] b R=(∃(s0:StT), [stV s]= [stV s0]∧(AAt9 s0)∧∃(s1:StT) (x2:BlkT) (z3:Int), [Zcj (stD s0),bkV x]= [Zcj (stD s1),bkV x2]∧(((AAt9 s1)∧Zab (BlkT.pf x2)≤1000000)∧z3=AAp9 s1 x2)∧BIf (z3 !=(0:Int)) (R (.tup [stV s0,Zae (i64 z3)]) b) (∃(l4:List Row) (x5:BlkT) (z6:List Row) (n7:Bool) (e8:Int), [Zae (Zai 2 (rowsR (StT.rows s0))),bkV x]= [Zae (Zai 2 (rowsR l4)),bkV x5]∧(2*Zab l4≤1000000∧(z6,n7,e8)=recS l4 (BlkT.n x5) (BlkT.s x5) (BlkT.d x5))∧BIf (e8 !=(0:Int)) (∃(s9:StT) (e10:Int), [Zbe 5 0,Zae (i64 e8)]= [Zbe 5 0,Zae (i64 e10)]∧stB s0=stB s9∧R (.tup [Zbc (Qz4 s9),Zae (i64 e10)]) b) (∃(xs11:List (List Dv)), [Zae (Zai 1 (digR (BlkT.pf x)))]= [Zae (Zai 1 xs11)]∧Zab xs11≤1000000∧∃(l12:List Row) (z13:List Int) (e14:Bool), [Zae (Zai 2 (rowsR z6))]= [Zae (Zai 2 (rowsR l12))]∧(Zab l12≤9223372036854775807∧(z13,e14)=ACi9 l12)∧BIf (!e14) (R (.tup [Zbc (Qz12 s0 z6 xs11),Zae (i64 0)]) b) (∃(s15:StT) (p16:List Int) (q17:List Int) (z18:StT) (e19:Int), [Zbc (Qz12 s0 z6 xs11),Zae (Zai 1 (AAa9 z13)),Zae (Zai 1 (digR (BlkT.pf x)))]= [stV s15,Zae (Zai 1 (AAa9 p16)),Zae (Zai 1 (digR q17))]∧((Zab (StT.ps s15)≤9223372036854775807∧Zab q17≤1000000∧∀(x:List Int),x∈StT.qs s15→Zab x≤1000000)∧(z18,e19)=putT s15 p16 q17)∧BIf (e19 !=(0:Int)) (∃(s20:StT) (e21:Int), [Zbe 5 0,Zae (i64 12)]= [Zbe 5 0,Zae (i64 e21)]∧Blk.mk (Qz12 s0 z6 xs11) false false 0=stB s20∧R (.tup [Zbc (Qz4 s20),Zae (i64 e21)]) b) (R (.tup [stV z18,Zae (i64 0)]) b))))):=by kernel_rfl
set_option maxHeartbeats 1000000
def AEx9 (s:StT) (x:BlkT):StT:=⟨s.no,s.ps,s.qs,(recS s.rows x.n x.s x.d).1,x.pf,s.tr⟩
def recvT (s:StT) (x:BlkT):StT×Int:=
 if AAp9 s x≠0 then (s,AAp9 s x) else if (recS s.rows x.n x.s x.d).2.2≠0 then (anewS s,(recS s.rows x.n x.s x.d).2.2)
 else if (ACi9 (recS s.rows x.n x.s x.d).1).2=false then (AEx9 s x,0)
 else if (putT (AEx9 s x) (ACi9 (recS s.rows x.n x.s x.d).1).1 x.pf).2≠0 then (anewS s,12) else ((putT (AEx9 s x) (ACi9 (recS s.rows x.n x.s x.d).1).1 x.pf).1,0)
theorem anLe (s:StT) (e:Int):LeV (.tup [.agg (anL s), .d (i64 e)]) (.tup [stV (anewS s), .d (i64 e)]):=
 LeV.tups (.cons (LeV.aggs (.cons .rfl (.cons .rfl (.cons .rfl (.cons .rfl (.cons .rfl (.cons .rfl (.cons (.nil rfl) (.cons (.nil rfl) (Zen _)))))))))) (.cons .rfl .nil))
theorem BDe9 (s:StT) (x:BlkT) (hs:AAt9 s) (hx:x.pf.length≤1000000):PCall prog 15 [stV s,bkV x] (.tup [stV (recvT s x).1, .d (i64 (recvT s x).2)]):=by
 refine Zck (n:=100) (u:=false) (fun _=>wlNo _) mixed CLe9 CLt9 (fun Ev=>AEr9 Ev) func15 (by rfl) (by rfl) fun Ev bb=> ?_
 rw [AYr9]
 have hl:=hs.2.2.1.1
 refine ⟨s,rfl,hs,s,x,_,rfl,⟨⟨hs,hx⟩,rfl⟩,Zaj (fun h=> ?_) fun g1=> ?_⟩
 · rw [recvT,if_pos (by simpa using h)];exact .rfl
 have g1:AAp9 s x=0:=by simpa using g1
 refine ⟨s.rows,x,(recS s.rows x.n x.s x.d).1,(recS s.rows x.n x.s x.d).2.1,(recS s.rows x.n x.s x.d).2.2,rfl,⟨by omega,rfl⟩,Zaj (fun h=> ?_) fun g2=> ?_⟩
 · refine ⟨s,_,rfl,rfl, ?_⟩
   rw [recvT,if_neg (by rw [g1];simp),if_pos (by simpa using h)]
   exact anLe s _
 have g2:(recS s.rows x.n x.s x.d).2.2=0:=by simpa using g2
 have hr:=BNz9 s.rows x.n x.s x.d
 refine ⟨_,rfl,by rw [AAn9];exact hx,(recS s.rows x.n x.s x.d).1,(ACi9 (recS s.rows x.n x.s x.d).1).1,(ACi9 (recS s.rows x.n x.s x.d).1).2,rfl,⟨by omega,rfl⟩,Zaj (fun h=> ?_) fun g3=> ?_⟩
 · rw [recvT,if_neg (by rw [g1];simp),if_neg (by rw [g2];simp),if_pos (nbt h)]
   exact .rfl
 have g3:=nbf g3
 refine ⟨AEx9 s x,_,x.pf,(putT (AEx9 s x) (ACi9 (recS s.rows x.n x.s x.d).1).1 x.pf).1,(putT (AEx9 s x) (ACi9 (recS s.rows x.n x.s x.d).1).1 x.pf).2,rfl,⟨⟨by have:=hs.1.1;show s.ps.length≤_;omega,hx,hs.2.1.2⟩,rfl⟩,Zaj (fun h=> ?_) fun g4=> ?_⟩
 · refine ⟨AEx9 s x,_,rfl,rfl, ?_⟩
   rw [recvT,if_neg (by rw [g1];simp),if_neg (by rw [g2];simp),if_neg (by rw [g3];simp),if_pos (by simpa using h)]
   exact anLe (AEx9 s x) 12
 · rw [recvT,if_neg (by rw [g1];simp),if_neg (by rw [g2];simp),if_neg (by rw [g3];simp),if_neg (by simpa using g4)]
   exact .rfl
def AKs9 (args:List AV) (K:AV→Prop):Prop:=∃(s:StT) (x:BlkT) (z:StT) (e:Int),args= [stV s,bkV x]∧((AAt9 s∧x.pf.length≤1000000)∧(z,e)=recvT s x)∧K (.tup [stV z, .d (i64 e)])
theorem AHy9:∀args K,AKs9 args K→∃x,PCall prog 15 args x∧K x:=by
 rintro _ K ⟨s,x,z,e,rfl,⟨⟨h1,h2⟩,he⟩,h⟩
 have:=BDe9 s x h1 h2
 rw [←he] at this
 exact ⟨_,this,h⟩
def noV (n:NotT):AV:= .agg (noL n)
def cAnnN (args:List AV) (K:AV→Prop):Prop:=∃(n:NotT) (z:Bool),args= [noV n]∧z=AAi9 n.v n.n n.t∧K (.d (bo z))
theorem BWf9:∀args K,cAnnN args K→∃x,PCall prog 70 args x∧K x:=by
 rintro _ K ⟨n,_,rfl,rfl,h⟩;exact ⟨_,CGf9 n.v n.n n.r n.t,h⟩
def cCntN (args:List AV) (K:AV→Prop):Prop:=∃(n:NotT) (z:Int),args= [noV n]∧z=ABj9 n.n∧K (.d (i64 z))
theorem BWe9:∀args K,cCntN args K→∃x,PCall prog 71 args x∧K x:=by
 rintro _ K ⟨n,_,rfl,rfl,h⟩;exact ⟨_,BDf9 n.v n.n n.r n.t,h⟩
def THr:List (Nat×(List AV→(AV→Prop)→Prop)):= [(70,cAnnN),(71,cCntN),(72,cTNew),(73,BOy9),(74,BVl9)]
theorem CLk9:AAf9 prog THr:=Zaf BWf9 (Zaf BWe9 (Zaf BVk9 (Zaf BFu9 (Zaf AXp9 Zah))))
def SHr:List (Nat×(List AV→List Blk→(AV→List Blk→Prop)→Prop)):= [(47,AVx9),(61,lendC AXr9)]
theorem CLv9:AAk9 prog SHr:=Zci ALm9 (Zci (APk9 AMi9) Zac)
abbrev Qz2 (v0:StT) (v1:TrT):List AV:= [Zae (i64 (Zba (StT.no v0))),Zae (i64 (Zbi (StT.no v0))),Zae (u64 (Zbl (StT.no v0))),Zae (i64 (Zbj (StT.no v0))),Zae (Zai 1 (AAc9 (StT.ps v0))),Zae (Zai 1 (AAe9 (StT.qs v0))),Zae (Zai 2 (rowsR (StT.rows v0))),Zae (Zai 1 (digR (StT.pf v0))),Zae (i64 (Zda v1)),Zae (i64 (Zdc v1)),Zae (i64 (Zdd v1)),Zae (i64 (Zde v1)),Zae (i64 (Zcp v1))]
abbrev Qz5 (v0:NotT) (v1:TrT):List AV:= [Zae (i64 (Zba v0)),Zae (i64 (Zbi v0)),Zae (u64 (Zbl v0)),Zae (i64 (Zbj v0)),Zae (Zfa (.slice none 0 0)),Zae (Zfa (.slice none 0 0)),Zae (Zfa (.slice none 0 0)),Zae (Zfa (.slice none 0 0)),Zae (i64 (Zda v1)),Zae (i64 (Zdc v1)),Zae (i64 (Zdd v1)),Zae (i64 (Zde v1)),Zae (i64 (Zcp v1))]
abbrev Qz20 (v0:StT) (v1:Int):List AV:= [Zae (i64 (Zcp (StT.tr v0))),Zae (i64 v1)]
abbrev Qz29 (v0:StT) (v1:Int):List AV:= [Zbc (trL (StT.tr v0)),Zae (i64 v1)]
theorem BRl9 (s:StT) (n:NotT) (p f:Int):wpFn prog ⟨THr,SHr,wl,y,false⟩ 100 f21 [stV s,noV n, .d (i64 p), .d (i64 f)] b R=(∃(s0:StT), [stV s]= [stV s0]∧(AAt9 s0)∧∃(s1:StT) (z2:Bool), [Zcj (stD s0)]= [Zcj (stD s1)]∧((AAt9 s1)∧z2=ABp9 s1)∧BIf (!z2) (R (stV s0) b) (BIf (!(Zba n==(0:Int)&&(Zbi n==(0:Int)&&(Zbl n==(0:Int)&&(Zbj n==(0:Int)&&true))))) (∃(n3:NotT) (z4:Bool), [noV n]= [noV n3]∧z4=AAi9 (Zba n3) (Zbi n3) (Zbj n3)∧BIf (!z4) (R (stV s0) b) (BIf (decide (p<(0:Int))) (R (stV s0) b) (∃(n5:NotT) (z6:Int), [noV n]= [noV n5]∧z6=ABj9 (Zbi n5)∧BIf (decide (p>z6)) (R (stV s0) b) (BIf (decide (f<(0:Int))) (R (stV s0) b) (BIf (decide (f>(999999984:Int))) (R (stV s0) b) (BIf (!(Zba n==(0:Int)&&(Zbi n==(0:Int)&&(Zbl n==(0:Int)&&(Zbj n==(0:Int)&&true))))) (BIf (decide (Zba n>Zba (StT.no s0))) (∃(s7:Int) (f8:Int) (z9:TrT) (e10:Int),(Qz20 s0 f)= [Zae (i64 s7),Zae (i64 f8)]∧(z9,e10)=newT s7 f8∧R (.agg (Qz5 n z9)) b) (BIf (decide (Zba n<Zba (StT.no s0))) (∃(t11:TrT) (f12:Int) (z13:TrT),(Qz29 s0 f)= [trV t11,Zae (i64 f12)]∧z13=ACs9 t11 f12∧R (.agg (Qz2 s0 z13)) b) (BIf (Zba n==Zba (StT.no s0)&&(Zbi n==Zbi (StT.no s0)&&(Zbl n==Zbl (StT.no s0)&&(Zbj n==Zbj (StT.no s0)&&true)))) (BIf (p !=((Zab (AAc9 (StT.ps s0)):Nat):Int)) (∃(t14:TrT) (f15:Int) (z16:TrT),(Qz29 s0 f)= [trV t14,Zae (i64 f15)]∧z16=ACs9 t14 f15∧R (.agg (Qz2 s0 z16)) b) (BIf (Zba n==Zba (StT.no s0)&&(Zbi n==Zbi (StT.no s0)&&(Zbl n==Zbl (StT.no s0)&&(Zbj n==Zbj (StT.no s0)&&true)))) (∃(t17:TrT) (z18:TrT), [Zbc (trL (StT.tr s0))]= [trV t17]∧z18=hearT t17∧R (.agg (Qz2 s0 z18)) b) (R (stV s0) b))) (BIf (Zba n==Zba (StT.no s0)&&(Zbi n==Zbi (StT.no s0)&&(Zbl n==Zbl (StT.no s0)&&(Zbj n==Zbj (StT.no s0)&&true)))) (∃(t19:TrT) (z20:TrT), [Zbc (trL (StT.tr s0))]= [trV t19]∧z20=hearT t19∧R (.agg (Qz2 s0 z20)) b) (R (stV s0) b))))) (BIf (decide (Zba n>Zba (StT.no s0))) (∃(s21:Int) (f22:Int) (z23:TrT) (e24:Int),(Qz20 s0 f)= [Zae (i64 s21),Zae (i64 f22)]∧(z23,e24)=newT s21 f22∧R (.agg (Qz5 n z23)) b) (BIf (decide (Zba n<Zba (StT.no s0))) (∃(t25:TrT) (f26:Int) (z27:TrT),(Qz29 s0 f)= [trV t25,Zae (i64 f26)]∧z27=ACs9 t25 f26∧R (.agg (Qz2 s0 z27)) b) (R (stV s0) b))))))))) (BIf (decide (p<(0:Int))) (R (stV s0) b) (∃(n28:NotT) (z29:Int), [noV n]= [noV n28]∧z29=ABj9 (Zbi n28)∧BIf (decide (p>z29)) (R (stV s0) b) (BIf (decide (f<(0:Int))) (R (stV s0) b) (BIf (decide (f>(999999984:Int))) (R (stV s0) b) (BIf (!(Zba n==(0:Int)&&(Zbi n==(0:Int)&&(Zbl n==(0:Int)&&(Zbj n==(0:Int)&&true))))) (BIf (decide (Zba n>Zba (StT.no s0))) (∃(s30:Int) (f31:Int) (z32:TrT) (e33:Int),(Qz20 s0 f)= [Zae (i64 s30),Zae (i64 f31)]∧(z32,e33)=newT s30 f31∧R (.agg (Qz5 n z32)) b) (BIf (decide (Zba n<Zba (StT.no s0))) (∃(t34:TrT) (f35:Int) (z36:TrT),(Qz29 s0 f)= [trV t34,Zae (i64 f35)]∧z36=ACs9 t34 f35∧R (.agg (Qz2 s0 z36)) b) (BIf (Zba n==Zba (StT.no s0)&&(Zbi n==Zbi (StT.no s0)&&(Zbl n==Zbl (StT.no s0)&&(Zbj n==Zbj (StT.no s0)&&true)))) (BIf (p !=((Zab (AAc9 (StT.ps s0)):Nat):Int)) (∃(t37:TrT) (f38:Int) (z39:TrT),(Qz29 s0 f)= [trV t37,Zae (i64 f38)]∧z39=ACs9 t37 f38∧R (.agg (Qz2 s0 z39)) b) (BIf (Zba n==Zba (StT.no s0)&&(Zbi n==Zbi (StT.no s0)&&(Zbl n==Zbl (StT.no s0)&&(Zbj n==Zbj (StT.no s0)&&true)))) (∃(t40:TrT) (z41:TrT), [Zbc (trL (StT.tr s0))]= [trV t40]∧z41=hearT t40∧R (.agg (Qz2 s0 z41)) b) (R (stV s0) b))) (BIf (Zba n==Zba (StT.no s0)&&(Zbi n==Zbi (StT.no s0)&&(Zbl n==Zbl (StT.no s0)&&(Zbj n==Zbj (StT.no s0)&&true)))) (∃(t42:TrT) (z43:TrT), [Zbc (trL (StT.tr s0))]= [trV t42]∧z43=hearT t42∧R (.agg (Qz2 s0 z43)) b) (R (stV s0) b))))) (BIf (decide (Zba n>Zba (StT.no s0))) (∃(s44:Int) (f45:Int) (z46:TrT) (e47:Int),(Qz20 s0 f)= [Zae (i64 s44),Zae (i64 f45)]∧(z46,e47)=newT s44 f45∧R (.agg (Qz5 n z46)) b) (BIf (decide (Zba n<Zba (StT.no s0))) (∃(t48:TrT) (f49:Int) (z50:TrT),(Qz29 s0 f)= [trV t48,Zae (i64 f49)]∧z50=ACs9 t48 f49∧R (.agg (Qz2 s0 z50)) b) (R (stV s0) b)))))))))):=by kernel_rfl
def eqN (a c:NotT):Bool:=a.v==c.v&&(a.n==c.n&&(a.r==c.r&&a.t==c.t))
theorem BOv9 {a c:NotT}:eqN a c=true↔a=c:=by
 obtain ⟨a1,a2,a3,a4⟩:=a
 obtain ⟨c1,c2,c3,c4⟩:=c
 simp [eqN]
def ADo9 (s:StT) (n:NotT) (p f:Int):Bool:=ABp9 s&&(zeroN n||AAi9 n.v n.n n.t)&&decide (0≤p)&&decide (p≤ABj9 n.n)&&ABn9 f
def ADc9 (s:StT) (t:TrT):StT:=⟨s.no,s.ps,s.qs,s.rows,s.pf,t⟩
def hearS (s:StT) (n:NotT) (p f:Int):StT:=
 if ADo9 s n p f=false then s else if n.v>s.no.v then ⟨n, [], [], [], [],(newT s.tr.sd f).1⟩
 else if n.v<s.no.v then ADc9 s (ACs9 s.tr f) else if (!zeroN n&&eqN n s.no)=true then (if p≠s.ps.length then ADc9 s (ACs9 s.tr f) else ADc9 s (hearT s.tr)) else s
theorem CAq9 (s:StT) (n:NotT) (p f:Int) (hs:AAt9 s):PCall prog 21 [stV s,noV n, .d (i64 p), .d (i64 f)] (stV (hearS s n p f)):=by
 refine Zck (n:=100) (u:=false) (fun _=>wlNo _) mixed CLk9 CLv9 (fun Ev=>AEr9 Ev) func21 (by rfl) (by rfl) fun Ev bb=> ?_
 rw [BRl9]
 refine ⟨s,rfl,hs,s,_,rfl,⟨hs,rfl⟩, ?_⟩
 have hz:(Zba n==(0:Int)&&(Zbi n==(0:Int)&&(Zbl n==(0:Int)&&(Zbj n==(0:Int)&&true))))=zeroN n:=by simp only [zeroN,Bool.and_true]
 have he:(Zba n==Zba (StT.no s)&&(Zbi n==Zbi (StT.no s)&&(Zbl n==Zbl (StT.no s)&&(Zbj n==Zbj (StT.no s)&&true))))=eqN n s.no:=by simp only [eqN,Bool.and_true]
 rw [hz,he,AAd9]
 have bad:ADo9 s n p f=false→LeV (stV s) (stV (hearS s n p f)):=fun h=>by rw [hearS,if_pos h];exact .rfl
 have bV:(!ABp9 s)=true→LeV (stV s) (stV (hearS s n p f)):=fun h=>bad (by rw [ADo9,nbt h];rfl)
 have bP:decide (p<0)=true→LeV (stV s) (stV (hearS s n p f)):=fun h=>bad (by rw [ADo9,decide_eq_false (p:=0≤p) (by have:=of_decide_eq_true h;omega)];simp)
 have bC:decide (p>ABj9 n.n)=true→LeV (stV s) (stV (hearS s n p f)):=fun h=>bad (by rw [ADo9,decide_eq_false (p:=p≤ABj9 n.n) (by have:=of_decide_eq_true h;omega)];simp)
 have bF0:decide (f<0)=true→LeV (stV s) (stV (hearS s n p f)):=fun h=>bad (by rw [ADo9,show ABn9 f=false from Zez.2 fun h'=>by have:=ACg9.1 h';have:=of_decide_eq_true h;omega];simp)
 have bF1:decide (f>999999984)=true→LeV (stV s) (stV (hearS s n p f)):=fun h=>bad (by rw [ADo9,show ABn9 f=false from Zez.2 fun h'=>by have:=ACg9.1 h';have:=of_decide_eq_true h;omega];simp)
 have good:(!ABp9 s)=false→(zeroN n||AAi9 n.v n.n n.t)=true→decide (p<0)=false→decide (p>ABj9 n.n)=false→decide (f<0)=false→decide (f>999999984)=false→¬ADo9 s n p f=false:=by
   intro h1 h2 h3 h4 h5 h6
   have h3:=of_decide_eq_false h3
   have h4:=of_decide_eq_false h4
   have h5:=of_decide_eq_false h5
   have h6:=of_decide_eq_false h6
   rw [ADo9,nbf h1,h2,decide_eq_true (p:=0≤p) (by omega),decide_eq_true (p:=p≤ABj9 n.n) (by omega),show ABn9 f=true from ACg9.2 (by omega)]
   decide
 have newer:¬ADo9 s n p f=false→decide (n.v>s.no.v)=true→LeV (Zbc [Zae (i64 n.v),Zae (i64 n.n),Zae (u64 n.r),Zae (i64 n.t),Zae (Zfa (Zbp none 0 0)),Zae (Zfa (Zbp none 0 0)),Zae (Zfa (Zbp none 0 0)),Zae (Zfa (Zbp none 0 0)),Zae (i64 (newT s.tr.sd f).1.iv),Zae (i64 (newT s.tr.sd f).1.bg),Zae (i64 (newT s.tr.sd f).1.fi),Zae (i64 (newT s.tr.sd f).1.ct),Zae (i64 (newT s.tr.sd f).1.sd)]) (stV (hearS s n p f)):=by
   intro h1 h2
   rw [hearS,if_neg h1,if_pos (of_decide_eq_true h2)]
   exact LeV.aggs (.cons .rfl (.cons .rfl (.cons .rfl (.cons .rfl (.cons (.nil rfl) (.cons (.nil rfl) (.cons (.nil rfl) (.cons (.nil rfl) (Zen _)))))))))
 have older:¬ADo9 s n p f=false→decide (n.v>s.no.v)=false→decide (n.v<s.no.v)=true→hearS s n p f=ADc9 s (ACs9 s.tr f):=by
   intro h1 h2 h3
   rw [hearS,if_neg h1,if_neg (of_decide_eq_false h2),if_pos (of_decide_eq_true h3)]
 have rest:¬ADo9 s n p f=false→decide (n.v>s.no.v)=false→decide (n.v<s.no.v)=false→hearS s n p f=if (!zeroN n&&eqN n s.no)=true then (if p≠s.ps.length then ADc9 s (ACs9 s.tr f) else ADc9 s (hearT s.tr)) else s:=by
   intro h1 h2 h3
   rw [hearS,if_neg h1,if_neg (of_decide_eq_false h2),if_neg (of_decide_eq_false h3)]
 cases hzz:zeroN n<;>cases hee:eqN n s.no<;>simp only [Bool.not_true,Bool.not_false,AVd9,APx9]<;>simp only [hzz,hee] at good rest
 · refine Zaj bV fun g1=>⟨n,_,rfl,rfl,Zaj (fun h=>bad (by rw [ADo9,hzz,nbt h];simp)) fun g2=>Zaj bP fun g3=>⟨n,_,rfl,rfl,Zaj bC fun g4=>Zaj bF0 fun g5=>Zaj bF1 fun g6=> ?_⟩⟩
   have g:=good g1 (by rw [nbf g2];rfl) g3 g4 g5 g6
   refine Zaj (fun h=>⟨_,_,_,_,rfl,rfl,newer g h⟩) fun g7=>Zaj (fun h=>⟨s.tr,_,_,rfl,rfl, ?_⟩) fun g8=> ?_
   · rw [older g g7 h];exact .rfl
   · rw [rest g g7 g8];exact .rfl
 · refine Zaj bV fun g1=>⟨n,_,rfl,rfl,Zaj (fun h=>bad (by rw [ADo9,hzz,nbt h];simp)) fun g2=>Zaj bP fun g3=>⟨n,_,rfl,rfl,Zaj bC fun g4=>Zaj bF0 fun g5=>Zaj bF1 fun g6=> ?_⟩⟩
   have g:=good g1 (by rw [nbf g2];rfl) g3 g4 g5 g6
   refine Zaj (fun h=>⟨_,_,_,_,rfl,rfl,newer g h⟩) fun g7=>Zaj (fun h=>⟨s.tr,_,_,rfl,rfl, ?_⟩) fun g8=>Zaj (fun h=>⟨s.tr,_,_,rfl,rfl, ?_⟩) fun h=>⟨s.tr,_,rfl,rfl, ?_⟩
   · rw [older g g7 h];exact .rfl
   · rw [rest g g7 g8,if_pos (c:=(!false&&true)=true) rfl,if_pos (by simpa using h)];exact .rfl
   · rw [rest g g7 g8,if_pos (c:=(!false&&true)=true) rfl,if_neg (by simpa using h)];exact .rfl
 · refine Zaj bV fun g1=>Zaj bP fun g3=>⟨n,_,rfl,rfl,Zaj bC fun g4=>Zaj bF0 fun g5=>Zaj bF1 fun g6=> ?_⟩
   have g:=good g1 rfl g3 g4 g5 g6
   refine Zaj (fun h=>⟨_,_,_,_,rfl,rfl,newer g h⟩) fun g7=>Zaj (fun h=>⟨s.tr,_,_,rfl,rfl, ?_⟩) fun g8=> ?_
   · rw [older g g7 h];exact .rfl
   · rw [rest g g7 g8];exact .rfl
 · refine Zaj bV fun g1=>Zaj bP fun g3=>⟨n,_,rfl,rfl,Zaj bC fun g4=>Zaj bF0 fun g5=>Zaj bF1 fun g6=> ?_⟩
   have g:=good g1 rfl g3 g4 g5 g6
   refine Zaj (fun h=>⟨_,_,_,_,rfl,rfl,newer g h⟩) fun g7=>Zaj (fun h=>⟨s.tr,_,_,rfl,rfl, ?_⟩) fun g8=> ?_
   · rw [older g g7 h];exact .rfl
   · rw [rest g g7 g8];exact .rfl
def BVn9 (args:List AV) (K:AV→Prop):Prop:=∃(s:StT) (n:NotT) (p f:Int) (z:StT),args= [stV s,noV n, .d (i64 p), .d (i64 f)]∧(AAt9 s∧z=hearS s n p f)∧K (stV z)
theorem AXs9:∀args K,BVn9 args K→∃x,PCall prog 21 args x∧K x:=by
 rintro _ K ⟨s,n,p,f,_,rfl,⟨h1,rfl⟩,h⟩;exact ⟨_,CAq9 s n p f h1,h⟩
structure NearT where
 x0:Int
 x1:Int
 x2:Int
 x3:Int
 x4:Int
 x5:Int
 x6:Int
 x7:Int
 x8:Int
 x9:Int
 x10:Int
 x11:Int
 s12:List (List Dv)
 s13:List (List Dv)
 s14:List (List Dv)
 s15:List (List Dv)
 b16:Bool
 s17:List (List Dv)
 s18:List (List Dv)
 s19:List (List Dv)
 no:NotT
 pg:Int
 x25:Int
 x26:Int
 x27:Int
 s28:List (List Dv)
 s29:List (List Dv)
 b30:Bool
def nearD (x:NearT):List Dv:= [i64 x.x0,i64 x.x1,i64 x.x2,i64 x.x3,i64 x.x4,i64 x.x5,i64 x.x6,i64 x.x7,i64 x.x8,i64 x.x9,i64 x.x10,i64 x.x11, .sl 4 x.s12, .sl 5 x.s13, .sl 3 x.s14, .sl 4 x.s15,bo x.b16, .sl 8 x.s17, .sl 8 x.s18, .sl 1 x.s19,i64 x.no.v,i64 x.no.n,u64 x.no.r,i64 x.no.t,i64 x.pg,i64 x.x25,i64 x.x26,i64 x.x27, .sl 1 x.s28, .sl 1 x.s29,bo x.b30]
def nearR (l:List NearT):List (List Dv):=l.map nearD
theorem AKm9 (l:List NearT):(nearR l).length=l.length:=by simp [nearR]
def tmLk (s:StT) (near:List (List Dv)) (n i:Int):List AV:= [.yl, .rptr [.sl 31 near], .rptr [.pt (stD s)], .bad, .bad, .bad, .d (.sl 31 near), .d (i64 n), .d (i64 i)]++Zag 21 .bad
noncomputable def lpLk:Code:=sub [1,2,3] (code f137)
theorem BEh9 (s:StT) (near:List (List Dv)):wpFn prog ⟨[], [],wl,y,false⟩ 100 f64 [.rptr (stD s), .d (.sl 31 near)] b R=(R (AV.fn (Fn.func 137) [] [Zcj [Zai 31 near],Zcj [Dv.pt (stD s)]]) b):=by kernel_rfl
theorem rLk (s:StT) (near:List (List Dv)) (n i:Int):wpc prog ⟨[], [],wl,y,false⟩ 100 lpLk (tmLk s near n i) [] b (maskK 0 [0,1,2,6,7,8] K)=(BIf (decide (i<n)) (BIf (true&&decide (0≤i)) (∃(x0:Int) (x1:Int) (x2:Int) (x3:Int) (x4:Int) (x5:Int) (x6:Int) (x7:Int) (x8:Int) (x9:Int) (x10:Int) (x11:Int) (xs12:List (List Dv)) (xs13:List (List Dv)) (xs14:List (List Dv)) (xs15:List (List Dv)) (b16:Bool) (xs17:List (List Dv)) (xs18:List (List Dv)) (xs19:List (List Dv)) (x20:Int) (x21:Int) (x22:Int) (x23:Int) (x24:Int) (x25:Int) (x26:Int) (x27:Int) (xs28:List (List Dv)) (xs29:List (List Dv)) (b30:Bool),near[Zam i]? =some [i64 x0,i64 x1,i64 x2,i64 x3,i64 x4,i64 x5,i64 x6,i64 x7,i64 x8,i64 x9,i64 x10,i64 x11,Zai 4 xs12,Zai 5 xs13,Zai 3 xs14,Zai 4 xs15,bo b16,Zai 8 xs17,Zai 8 xs18,Zai 1 xs19,i64 x20,i64 x21,u64 x22,i64 x23,i64 x24,i64 x25,i64 x26,i64 x27,Zai 1 xs28,Zai 1 xs29,bo b30]∧BIf (x20==Zba (StT.no s)&&(x21==Zbi (StT.no s)&&(x22==Zbl (StT.no s)&&(x23==Zbj (StT.no s)&&true)))) (y b [Zae (i64 x24)] fun (cont33:Bool) (b34:β)=>BIf (!cont33) (K .ret (AV.yl::Zcj [Zai 31 near]::Zcj [Dv.pt (stD s)]::bds 3 (Zae (Zai 31 near)::Zae (i64 n)::Zae (i64 i)::bds 21 [])) [] b34) (K .normal (AV.yl::Zcj [Zai 31 near]::Zcj [Dv.pt (stD s)]::bds 3 (Zae (Zai 31 near)::Zae (i64 n)::Zae (i64 (Zaa .i64 (i+1)))::bds 21 [])) [] b34)) (K .normal (AV.yl::Zcj [Zai 31 near]::Zcj [Dv.pt (stD s)]::bds 3 (Zae (Zai 31 near)::Zae (i64 n)::Zae (i64 (Zaa .i64 (i+1)))::bds 21 [])) [] b)) False) (K (Zcy 0) (AV.yl::Zcj [Zai 31 near]::Zcj [Dv.pt (stD s)]::bds 3 (Zae (Zai 31 near)::Zae (i64 n)::Zae (i64 i)::bds 21 [])) [] b)):=by kernel_rfl
theorem BOj9 {l rest:List NearT} {x:NearT} {k:Nat} (hd:l.drop k=x::rest):(nearR l)[k]? =some (nearD x):=by
 obtain ⟨h1,h2,_⟩:=AAw9 hd
 simp [nearR,h2]
def lackL (s:StT) (l:List NearT):List (List AV):=(l.filter fun x=>eqN x.no s.no).map fun x=> [.d (i64 x.pg)]
theorem wrLk {Ev:Env prog} {Q:Exit→St Ev.β→Prop} (s:StT) (l:List NearT) (hl:l.length≤1000000):∀(rest:List NearT) (k:Nat) (b:Ev.β),l.drop k=rest→
   YList Ev.Y (lackL s rest) b (fun b'=>∀i:Int,Q (.exit 0) ⟨tmLk s (nearR l) l.length i, [],b'⟩∧Q .ret ⟨tmLk s (nearR l) l.length i, [],b'⟩)→WR Ev lpLk (rest.length+1) ⟨tmLk s (nearR l) l.length k, [],b⟩ Q
 | [],k,b,hd,h=>by
   have hk:=ABm9 hd
   refine WR.ofMask [0,1,2,6,7,8] mixed (CX.Ok.of (u:=false) Zah Zac) (k:=100) ?_
   refine Eq.mpr (rLk _ _ _ _ s (nearR l) l.length k) ?_
   refine Zct (by simp;omega) ?_
   exact (h k).1
 | x::rest,k,b,hd,h=>by
   obtain ⟨hk,h2,hd'⟩:=AAw9 hd
   refine WR.ofMask [0,1,2,6,7,8] mixed (CX.Ok.of (u:=false) Zah Zac) (k:=100) ?_
   refine Eq.mpr (rLk _ _ _ _ s (nearR l) l.length k) ?_
   have e1:Zaa Zap ((k:Int)+1)=((k+1:Nat):Int):=wrapN (by omega)
   rw [e1,Zas]
   refine Zbf (by simp;omega) (Zbf (by simp) ⟨x.x0,x.x1,x.x2,x.x3,x.x4,x.x5,x.x6,x.x7,x.x8,x.x9,x.x10,x.x11,x.s12,x.s13,x.s14,x.s15,x.b16,x.s17,x.s18,x.s19,x.no.v,x.no.n,x.no.r,x.no.t,x.pg,x.x25,x.x26,x.x27,x.s28,x.s29,x.b30,BOj9 hd, ?_⟩)
   have he:(x.no.v==s.no.v&&(x.no.n==s.no.n&&(x.no.r==s.no.r&&(x.no.t==s.no.t&&true))))=eqN x.no s.no:=by simp only [eqN,Bool.and_true]
   rw [he]
   refine Zaj (fun g=> ?_) fun g=> ?_
   · have hL:lackL s (x::rest)= [.d (i64 x.pg)]::lackL s rest:=by simp [lackL,g]
     rw [hL] at h
     refine Ev.Ymono h fun c b' h=> ?_
     cases c with
     |true=>exact Zct rfl (wrLk s l hl rest (k+1) b' hd' h)
     |false=>exact Zbf rfl (h _).2
   · have hL:lackL s (x::rest)=lackL s rest:=by simp [lackL,g]
     rw [hL] at h
     exact wrLk s l hl rest (k+1) b hd' h
def wlLk {β:Type} (Y:ABr9 β):WLT β:=fun c tm hp b K=>∃(s:StT) (l:List NearT),c= .loop lpLk∧ABb9 [0,1,2,6,7,8] 0 tm=tmLk s (nearR l) (nearR l).length 0∧hp= []∧l.length≤1000000∧YList Y (lackL s l) b (fun b'=>∀i:Int,K (.exit 0) (tmLk s (nearR l) l.length i) [] b'∧K .ret (tmLk s (nearR l) l.length i) [] b')
theorem BXv9 {Ev:Env prog} (c:Code) (tm:List AV) (hp:List Blk) (b:Ev.β) (K:Exit→List AV→List Blk→Ev.β→Prop) (h:wlLk Ev.Y c tm hp b K):W Ev c ⟨tm,hp,b⟩ (fun e s=>K e s.tm s.hp s.b):=by
 obtain ⟨s,l,rfl,htm,rfl,hl,hK⟩:=h
 rw [AKm9] at htm
 refine W.cast (htm▸AAg9 _ tm 0) (Zbt _) ?_
 exact W.rounds (wrLk (Q:=fun e s=>K e s.tm s.hp s.b) s l hl l 0 b rfl hK)
theorem lk_nf (s:StT) (near:List (List Dv)):wpc prog ⟨[], [],wlLk y,y,false⟩ 100 (code f137) (ABc9 f137 [.yl, .rptr [.sl 31 near], .rptr [.pt (stD s)]]) [] b (fnK prog f137 fun _ b=>Q b)=(
 ∃(s0:StT) (l1:List NearT),Zax lpLk= .loop lpLk∧tmLk s near near.length 0=tmLk s0 (nearR l1) (nearR l1).length 0∧([]:List Blk)= []∧l1.length≤1000000∧YList y (lackL s0 l1) b fun b'=>∀_:Int,Q b'∧Q b'):=by kernel_rfl
theorem icLk (s:StT) (l:List NearT) (hl:l.length≤1000000):ICall prog 137 [.yl, .rptr [.sl 31 (nearR l)], .rptr [.pt (stD s)]] (fun Y b Q=>YList Y (lackL s l) b Q):=by
 refine ICall.ofW (c:=code f137) func137 (by rfl) (by rfl) fun Ev b Q h=> ?_
 have h1:wpc prog ⟨[], [],wlLk Ev.Y,Ev.Y,false⟩ 100 (code f137) (ABc9 f137 [.yl, .rptr [.sl 31 (nearR l)], .rptr [.pt (stD s)]]) [] b (fnK prog f137 fun _ b=>Q b):=by
   rw [lk_nf]
   exact ⟨s,l,rfl,rfl,rfl,hl,YList.mono (fun b h _=>⟨h,h⟩) _ _ h⟩
 refine AAr9 mixed (CX.Ok.ofWl Zah Zac BXv9) h1 fun e tm hp b hK=> ?_
 obtain ⟨g1,ys,g2,z,g3,g4⟩:=ACu9 hK
 exact ⟨g1,ys,g2,g4⟩
theorem BJv9 (s:StT) (near:List (List Dv)):PCall prog 64 [.rptr (stD s), .d (.sl 31 near)] (.fn (.func 137) [] [.rptr [.sl 31 near], .rptr [.pt (stD s)]]):=by
 refine Zaz (n:=100) (u:=false) mixed Zah Zac func64 (by rfl) (by rfl) fun Ev bb=> ?_
 rw [BEh9]
def BGx9 (args:List AV) (K:AV→Prop):Prop:=∃(s:StT) (near:List (List Dv)),args= [.rptr (stD s), .d (.sl 31 near)]∧K (.fn (.func 137) [] [.rptr [.sl 31 near], .rptr [.pt (stD s)]])
theorem AZy9:∀args K,BGx9 args K→∃x,PCall prog 64 args x∧K x:=by
 rintro _ K ⟨s,l,rfl,h⟩;exact ⟨_,BJv9 s l,h⟩
def cEncB (args:List AV) (K:AV→Prop):Prop:=∃(p:List Int) (n s:Int) (d:List Int),args= [.d (.sl 1 (AAa9 p)), .d (i64 n), .d (i64 s)]∧(encOk p n s=true∧d=encS p s)∧K (.tup [.agg [.d (i64 n), .d (i64 s), .d (.sl 1 (AAa9 d)),nilV], .d (i64 0)])
theorem AUs9:∀args K,cEncB args K→∃x,PCall prog 34 args x∧K x:=by
 rintro _ K ⟨p,n,s,d,rfl,⟨h1,rfl⟩,h⟩
 have:=BTl9 p n s
 rw [encA,if_pos h1] at this
 exact ⟨_,this,h⟩
def TSv:List (Nat×(List AV→(AV→Prop)→Prop)):= [(63,CDe9),(64,BGx9),(34,cEncB),(51,AMm9)]
theorem CEq9:AAf9 prog TSv:=Zaf BLv9 (Zaf AZy9 (Zaf AUs9 (Zaf AHg9 Zah)))
def SSv:List (Nat×(List AV→List Blk→(AV→List Blk→Prop)→Prop)):= [(47,AVx9),(61,lendC AXr9),(62,lendC AXt9)]
theorem CFl9:AAk9 prog SSv:=Zci ALm9 (Zci (APk9 AMi9) (Zci (APk9 AMj9) Zac))
noncomputable def rfSv:Code:=sub [1,1,1,1,1,1,0,1,2] (code f17)
theorem BBt9:rfSv= .rangeFunc (.tmp 61) #[62] (AAq9 rfSv) (ABu9 rfSv):=by kernel_rfl
def tmSv (s:StT) (near:List (List Dv)) (f:Int) (e:Bool):List AV:= [.bad, .bad, .d (i64 f), .ptr 0 0, .bad, .bad, .ptr 1 0, .ptr 2 0, .d (bo false), .ptr 5 0, .ptr 6 0, .d (bo e), .ptr 7 0]++Zag 48 .bad++ [.fn (.func 137) [] [.rptr [.sl 31 near], .rptr [.pt (stD s)]]]++Zag 60 .bad
def nil0:AV:= .d (.s (.slice none 0 0))
def zB13:Blk:=⟨[.d (i64 0), .d (i64 0), .d (u64 0), .d (i64 0),nil0,nil0,nil0,nil0, .d (i64 0), .d (i64 0), .d (i64 0), .d (i64 0), .d (i64 0)],false,false,0⟩
def zB4:Blk:=⟨[.d (i64 0), .d (i64 0),nil0,nil0],false,false,0⟩
def hpSv (s:StT) (t:TrT) (p:Int):List Blk:= [stB s,zB13,zB4,stB s,outC s (.own 33 1 (AAc9 s.ps)) (.own 28 1 (AAe9 s.qs)) (.own 71 2 (rowsR s.rows)),⟨stL (ADc9 s t),true,false,0⟩,trB t,⟨[.d (i64 p)],false,false,0⟩]
def minS (p x:Int):Int:=if x<p then x else p
theorem BRd9 (s s1:StT) (t:TrT) (near:List (List Dv)) (f p x:Int) (e:Bool):wpcY prog ⟨TSv,SSv,wl,y,false⟩ 100 #[62] (AAq9 rfSv) (ABu9 rfSv) (tmSv s1 near f e) [.d (i64 x)] (hpSv s t p) b (takeK 8 Kh)=(
 ∃z:Int,z=minS p x∧Kh .normal (hpSv s t z) b):=by kernel_rfl
def AEy9 (l:List Int) (p:Int):Int:=l.foldl minS p
def lackP (s:StT) (l:List NearT):List Int:=(l.filter fun x=>eqN x.no s.no).map (·.pg)
theorem BUl9 (s:StT) (l:List NearT):lackL s l=(lackP s l).map fun p=> [.d (i64 p)]:=by simp [lackL,lackP]
theorem BOa9 {Ev:Env prog} {b:Ev.β} {Q:Exit→St Ev.β→Prop} (s s1:StT) (t:TrT) (near:List (List Dv)) (f:Int) (e:Bool):∀(l:List Int) (p:Int),
   Q .normal ⟨tmSv s1 near f e,hpSv s t (AEy9 l p),b⟩→
   YList (YBody Ev (tmSv s1 near f e) #[62] (AAq9 rfSv) (ABu9 rfSv) 8) (l.map fun p=> [.d (i64 p)]) (hpSv s t p,b,none) (ADt9 (tmSv s1 near f e) Q)
 | [],p,h=>h
 | x::l,p,h=>by
   refine YList.step (X:=⟨TSv,SSv,wlW Ev,Ev.Y,false⟩) (k:=100) mixed (CX.Ok.of CEq9 CFl9) rfl ?_
   show wpcY _ _ _ _ _ _ _ [.d (i64 _)] (hpSv _ _ _) b (takeK 8 _)
   rw [BRd9]
   exact ⟨_,rfl,BOa9 s s1 t near f e l (minS p x) h⟩
def wlSv {β:Type}:WLT β:=fun c tm hp b K=>∃(s:StT) (t:TrT) (l:List NearT) (f p:Int) (e:Bool) (z:Int),c=rfSv∧ABb9 [2,3,6,7,8,9,10,11,12,61] 0 tm=tmSv (ADc9 s t) (nearR l) f e∧hp=hpSv s t p∧(l.length≤1000000∧z=AEy9 (lackP (ADc9 s t) l) p)∧
 K .normal (tmSv (ADc9 s t) (nearR l) f e) (hpSv s t z) b
theorem BXm9 {Ev:Env prog} (c:Code) (tm:List AV) (hp:List Blk) (b:Ev.β) (K:Exit→List AV→List Blk→Ev.β→Prop) (h:wlSv c tm hp b K):W Ev c ⟨tm,hp,b⟩ (fun e s=>K e s.tm s.hp s.b):=by
 obtain ⟨s,t,l,f,p,e,z,rfl,htm,rfl,⟨hl,rfl⟩,hK⟩:=h
 refine W.cast (htm▸AAg9 [2,3,6,7,8,9,10,11,12,61] tm 0) (Zbt _) ?_
 rw [BBt9]
 refine W.range (s:=⟨tmSv (ADc9 s t) (nearR l) f e,_,b⟩) (k:=137) (first:= []) (caps:= [.rptr [.sl 31 (nearR l)], .rptr [.pt (stD (ADc9 s t))]]) rfl rfl rfl (icLk (ADc9 s t) l hl) ?_
 rw [BUl9]
 exact BOa9 s (ADc9 s t) t (nearR l) f e _ p hK
abbrev Qz49 (v0:List Int) (v1:Int) (v2:Int):List AV:= [Zae (Zai 1 (AAa9 v0)),Zae (i64 v1),Zae (i64 v2)]
theorem BIi9 (s:StT) (near:List (List Dv)) (f:Int):wpFn prog ⟨TSv,SSv,wlSv,y,false⟩ 100 f17 [stV s, .d (.sl 31 near), .d (i64 f)] b R=(∃(s0:StT), [stV s]= [stV s0]∧(AAt9 s0)∧∃(s1:StT) (z2:Bool), [Zcj (stD s0)]= [Zcj (stD s1)]∧((AAt9 s1)∧z2=ABp9 s1)∧BIf (!z2) (R (.tup [stV s0,Zbc Qz7,Zae (bo false)]) b) (∃(s3:StT) (z4:Bool), [Zcj (stD s0)]= [Zcj (stD s3)]∧((AAt9 s3)∧z4=AEz9 s3)∧BIf z4 (R (.tup [stV s0,Zbc Qz7,Zae (bo false)]) b) (BIf (decide (f<(0:Int))) (R (.tup [stV s0,Zbc Qz7,Zae (bo false)]) b) (BIf (decide (f>(999999984:Int))) (R (.tup [stV s0,Zbc Qz7,Zae (bo false)]) b) (∃(t5:TrT) (f6:Int) (z7:TrT) (e8:Bool),(Qz29 s0 f)= [trV t5,Zae (i64 f6)]∧(z7,e8)=tickT t5 f6∧∃(s9:StT) (near10:List (List Dv)), [Zcj [i64 (Zba (StT.no s0)),i64 (Zbi (StT.no s0)),u64 (Zbl (StT.no s0)),i64 (Zbj (StT.no s0)),Zai 1 (AAc9 (StT.ps s0)),Zai 1 (AAe9 (StT.qs s0)),Zai 2 (rowsR (StT.rows s0)),Zai 1 (digR (StT.pf s0)),i64 (Zda z7),i64 (Zdc z7),i64 (Zdd z7),i64 (Zde z7),i64 (Zcp z7)],Zae (Zai 31 near)]= [Zcj (stD s9),Zae (Zai 31 near10)]∧∃(s11:StT) (t12:TrT) (l13:List NearT) (f14:Int) (p15:Int) (e16:Bool) (z17:Int),rfSv=rfSv∧(Zaq::Zaq::Zae (i64 f)::Zbe 0 0::Zaq::Zaq::Zbe 1 0::Zbe 2 0::Zae (bo false)::Zbe 5 0::Zbe 6 0::Zae (bo e8)::Zbe 7 0::bds 48 (AV.fn (Fn.func 137) [] [Zcj [Zai 31 near10],Zcj [Dv.pt (stD s9)]]::bds 60 []))=(Zaq::Zaq::Zae (i64 f14)::Zbe 0 0::Zaq::Zaq::Zbe 1 0::Zbe 2 0::Zae (bo false)::Zbe 5 0::Zbe 6 0::Zae (bo e16)::Zbe 7 0::bds 48 (AV.fn (Fn.func 137) [] [Zcj [Zai 31 (nearR l13)],Zcj [Dv.pt (stD (ADc9 s11 t12))]]::bds 60 []))∧ [stB s,Blk.mk Qz3 false false 0,Blk.mk Qz7 false false 0,stB s0,Blk.mk (Qz11 s0) false false 0,Blk.mk (Qz2 s0 z7) true false 0,Blk.mk (trL z7) false false 0,cell (i64 ((Zab (AAc9 (StT.ps s0)):Nat):Int))]= [stB s11,Blk.mk Qz3 false false 0,Blk.mk Qz7 false false 0,stB s11,Blk.mk (Qz11 s11) false false 0,Blk.mk (stL (ADc9 s11 t12)) true false 0,Blk.mk (trL t12) false false 0,cell (i64 p15)]∧(Zab l13≤1000000∧z17=AEy9 (lackP (ADc9 s11 t12) l13) p15)∧BIf (!e16) (R (.tup [Zbc (stL (ADc9 s11 t12)),Zbc Qz7,Zae (bo false)]) b) (BIf (decide (z17<(0:Int))) (R (.tup [Zbc (stL (ADc9 s11 t12)),Zbc Qz7,Zae (bo false)]) b) (BIf (decide (z17≥((Zab (AAc9 (StT.ps (ADc9 s11 t12))):Nat):Int))) (R (.tup [Zbc (stL (ADc9 s11 t12)),Zbc Qz7,Zae (bo false)]) b) (BIf (true&&decide (0≤z17)) (∃(xs18:List (List Dv)),(AAc9 (StT.ps (ADc9 s11 t12)))[Zam z17]? =some [Zai 1 xs18]∧∃(p21:List Int) (n22:Int) (s23:Int) (d24:List Int), [Zae (Zai 1 xs18),Zae (i64 z17),Zae (i64 (Zdv (Zaa .i64 (Zaa .i64 ((64:Int)*f14)+Zdv (Zcp t12) (64:Int))) (1000000001:Int)))]=(Qz49 p21 n22 s23)∧(encOk p21 n22 s23=true∧d24=encS p21 s23)∧BIf (true&&decide (0≤z17)) (∃(xs25:List (List Dv)),(AAe9 (StT.qs (ADc9 s11 t12)))[Zam z17]? =some [Zai 1 xs25]∧∃(xs28:List (List Dv)), [Zae (Zai 1 xs25)]= [Zae (Zai 1 xs28)]∧Zab xs28≤1000000∧R (.tup [Zbc (stL (ADc9 s11 t12)),Zbc [Zae (i64 n22),Zae (i64 s23),Zae (Zai 1 (AAa9 d24)),Zae (Zai 1 xs28)],Zae (bo true)]) b) False) False)))))))):=by kernel_rfl
theorem AOw9 {s:StT} (h:AJb9 s=true):(s.ps.length:Int)≤ABj9 s.no.n∧ABj9 s.no.n≤16∧1≤ABj9 s.no.n∧s.qs.length=s.ps.length∧(∀p∈s.ps,p.length=256)∧AAi9 s.no.v s.no.n s.no.t=true:=by
 obtain ⟨f1,f2,f3,f4,f5⟩:=AHa9 h
 obtain ⟨k,hk,hk1,hk2⟩:=AFe9 f4
 have hk:s.no.n=(k:Int):=hk
 have hc:=AGi9 (n:=k) (by omega)
 have h':=h
 simp only [AJb9,ABt9,Zan] at h'
 have h2:(s.ps.length:Int)≤ABj9 s.no.n:=by have:=h'.2.1;simp at this;exact this
 rw [hk,hc] at h2 ⊢
 exact ⟨h2,by omega,by omega,f2,f3,by rw [←hk];exact f5⟩
theorem AGy9 {s:StT} (h:ABp9 s=true) (he:AEz9 s=false):AJb9 s=true∧ADy9 s.rows=true∧(s.rows.length:Int)<16∧(s.rows.isEmpty|| !fullP s)=true∧(!s.rows.isEmpty||s.pf.isEmpty)=true∧ABf9 s.tr=true:=by
 rw [ABp9,he,Bool.false_or] at h
 simp only [Zan,decide_eq_true_eq] at h
 exact ⟨h.1,h.2.1,h.2.2.1,h.2.2.2.1,h.2.2.2.2.1,h.2.2.2.2.2⟩
theorem BUk9 (t:TrT) (f:Int):(AFl9 t f).sd=t.sd:=by
 unfold AFl9;split<;>rfl
theorem BNv9 (t:TrT) (f:Int):(tickT t f).1.sd=t.sd:=by
 unfold tickT
 split
 · exact BUk9 t f
 · rfl
def ATn9:BlkT:=⟨0,0, [], []⟩
def seedF (f sd:Int):Int:=(64*f+sd % 64) % 1000000001
def AEc9 (s:StT) (f:Int):Bool:=ABp9 s&& !AEz9 s&&ABn9 f
def ACb9 (s:StT) (l:List NearT) (f:Int):StT×BlkT×Bool:=
 if AEc9 s f=false then (s,ATn9,false)
 else if (tickT s.tr f).2=false∨AEy9 (lackP s l) s.ps.length<0∨AEy9 (lackP s l) s.ps.length≥s.ps.length then (ADc9 s (tickT s.tr f).1,ATn9,false)
 else (ADc9 s (tickT s.tr f).1,⟨AEy9 (lackP s l) s.ps.length,seedF f s.tr.sd,encS (nthL s.ps (AEy9 (lackP s l) s.ps.length).toNat) (seedF f s.tr.sd),nthL s.qs (AEy9 (lackP s l) s.ps.length).toNat⟩,true)
theorem zbLe (x:AV) (e:Bool):LeV (.tup [x,Zbc [Zae (i64 0),Zae (i64 0),Zae (Zfa (Zbp none 0 0)),Zae (Zfa (Zbp none 0 0))], .d (bo e)]) (.tup [x,bkV ATn9, .d (bo e)]):=
 LeV.tups (.cons .rfl (.cons (LeV.aggs (.cons .rfl (.cons .rfl (.cons (.nil rfl) (.cons (.nil rfl) .nil))))) (.cons .rfl .nil)))
theorem BSv9 (s:StT) (l:List NearT) (f:Int) (hs:AAt9 s) (hl:l.length≤1000000):PCall prog 17 [stV s, .d (.sl 31 (nearR l)), .d (i64 f)] (.tup [stV (ACb9 s l f).1,bkV (ACb9 s l f).2.1, .d (bo (ACb9 s l f).2.2)]):=by
 refine Zck (n:=100) (u:=false) (fun _=>wlSv) mixed CEq9 CFl9 (fun Ev=>BXm9) func17 (by rfl) (by rfl) fun Ev bb=> ?_
 rw [BIi9]
 have bad:AEc9 s f=false→LeV (.tup [stV s,Zbc [Zae (i64 0),Zae (i64 0),Zae (Zfa (Zbp none 0 0)),Zae (Zfa (Zbp none 0 0))], .d (bo false)]) (.tup [stV (ACb9 s l f).1,bkV (ACb9 s l f).2.1, .d (bo (ACb9 s l f).2.2)]):=fun h=>by
   rw [ACb9,if_pos h];exact zbLe _ _
 refine ⟨s,rfl,hs,s,_,rfl,⟨hs,rfl⟩,Zaj (fun h=>bad (by rw [AEc9,nbt h];rfl)) fun g1=>⟨s,_,rfl,⟨hs,rfl⟩,Zaj (fun h=>bad (by rw [AEc9,h];simp)) fun g2=>Zaj (fun h=>bad ?_) fun g3=>Zaj (fun h=>bad ?_) fun g4=> ?_⟩⟩
 · rw [AEc9,show ABn9 f=false from Zez.2 fun h'=>by have:=ACg9.1 h';have:=of_decide_eq_true h;omega,Zdk]
 · rw [AEc9,show ABn9 f=false from Zez.2 fun h'=>by have:=ACg9.1 h';have:=of_decide_eq_true h;omega,Zdk]
 have g3:=of_decide_eq_false g3
 have g4:=of_decide_eq_false g4
 have hv:=nbf g1
 have hok:¬AEc9 s f=false:=by rw [AEc9,hv,g2,show ABn9 f=true from ACg9.2 (by omega)];decide
 obtain ⟨a1,a2,a3,a4,a5,a6⟩:=AGy9 hv g2
 obtain ⟨b1,b2,b3,b4,b5,b6⟩:=AOw9 a1
 have hsd:=(ABh9.1 a6).2.2.1
 refine ⟨s.tr,f,(tickT s.tr f).1,(tickT s.tr f).2,rfl,rfl,ADc9 s (tickT s.tr f).1,_,rfl,s,(tickT s.tr f).1,l,f,s.ps.length,(tickT s.tr f).2,AEy9 (lackP s l) s.ps.length,rfl,rfl,by rw [AAd9];rfl,⟨hl,rfl⟩,Zaj (fun h=> ?_) fun g5=>Zaj (fun h=> ?_) fun g6=>Zaj (fun h=> ?_) fun g7=> ?_⟩
 · rw [ACb9,if_neg hok,if_pos (.inl (nbt h))];exact zbLe _ _
 · rw [ACb9,if_neg hok,if_pos (.inr (.inl (of_decide_eq_true h)))];exact zbLe _ _
 · rw [ACb9,if_neg hok,if_pos (.inr (.inr (by have:=of_decide_eq_true h;rw [AAd9] at this;exact this)))];exact zbLe _ _
 have g5:=nbf g5
 have g6:=of_decide_eq_false g6
 have g7:=of_decide_eq_false g7
 rw [AAd9] at g7
 have g7:¬AEy9 (lackP s l) (s.ps.length:Int)≥s.ps.length:=g7
 generalize hp:AEy9 (lackP s l) (s.ps.length:Int)=p at g6 g7 ⊢
 have hpl:p.toNat<s.ps.length:=by omega
 have hpq:p.toNat<s.qs.length:=by omega
 have hseed:Zdv (Zaa Zap (Zaa Zap (64*f)+Zdv (tickT s.tr f).1.sd 64)) 1000000001=seedF f s.tr.sd:=by
   rw [BNv9,Int.tmod_eq_emod_of_nonneg (a:=s.tr.sd) hsd.1,wr64 (x:=64*f) (by omega) (by omega),wr64 (by omega) (by omega),Int.tmod_eq_emod_of_nonneg (by omega)];rfl
 have hsr:0≤seedF f s.tr.sd∧seedF f s.tr.sd≤1000000000:=by unfold seedF;omega
 refine Zbf (by simp;omega) ⟨AAa9 (nthL s.ps p.toNat),AHv9 hpl,nthL s.ps p.toNat,p,seedF f s.tr.sd,_,by rw [hseed],⟨?_,rfl⟩,Zbf (by simp;omega) ⟨digR (nthL s.qs p.toNat),AHc9 hpq,_,rfl,by rw [AAn9];exact hs.2.1.2 _ (ACo9 hpq), ?_⟩⟩
 · rw [encOk,b5 _ (ACo9 hpl),AEd9.2 hsr,Bool.and_true]
   simp [pageS];omega
 · rw [ACb9,if_neg hok,hp,if_neg (by rw [g5];simp;omega)];exact .rfl
def BGd9 (args:List AV) (K:AV→Prop):Prop:=∃(s:StT) (l:List NearT) (f:Int) (z:StT) (x:BlkT) (e:Bool),args= [stV s, .d (.sl 31 (nearR l)), .d (i64 f)]∧((AAt9 s∧l.length≤1000000)∧(z,x,e)=ACb9 s l f)∧K (.tup [stV z,bkV x, .d (bo e)])
theorem ASu9:∀args K,BGd9 args K→∃x,PCall prog 17 args x∧K x:=by
 rintro _ K ⟨s,l,f,z,x,e,rfl,⟨⟨h1,h2⟩,he⟩,h⟩
 have:=BSv9 s l f h1 h2
 rw [←he] at this
 exact ⟨_,this,h⟩
def TEm:List (Nat×(List AV→(AV→Prop)→Prop)):= [(104,cSeed)]
theorem CLn9:AAf9 prog TEm:=Zaf AKr9 Zah
theorem BJd9 (s:StT):wpFn prog ⟨TEm, [],wl,y,false⟩ 100 f35 [stV s] b R=(BIf (Zba (StT.no s)==(0:Int)&&(Zbi (StT.no s)==(0:Int)&&(Zbl (StT.no s)==(0:Int)&&(Zbj (StT.no s)==(0:Int)&&true)))) (BIf (Zaa .i64 (Zaa .i64 (Zaa .i64 (((Zab (AAc9 (StT.ps s)):Nat):Int)+((Zab (AAe9 (StT.qs s)):Nat):Int))+((Zab (rowsR (StT.rows s)):Nat):Int))+((Zab (digR (StT.pf s)):Nat):Int))==(0:Int)) (BIf (Zda (StT.tr s)==(0:Int)&&(Zdc (StT.tr s)==(0:Int)&&(Zdd (StT.tr s)==(0:Int)&&(Zde (StT.tr s)==(0:Int)&&(Zcp (StT.tr s)==Zcp (StT.tr s)&&true))))) (∃(x0:Int), [Zae (i64 (Zcp (StT.tr s)))]= [Zae (i64 x0)]∧R (.d (bo (seedS x0))) b) (R (.d (bo false)) b)) (R (.d (bo false)) b)) (R (.d (bo false)) b)):=by kernel_rfl
theorem BTd9 (s:StT) (hs:AAt9 s):PCall prog 35 [stV s] (.d (bo (AEz9 s))):=by
 refine Zaz (n:=100) (u:=false) mixed CLn9 Zac func35 (by rfl) (by rfl) fun Ev bb=> ?_
 rw [BJd9,AAd9,AAs9,ABs9,AAn9,sum4 ⟨by have:=hs.1.1;omega,by have:=hs.2.1.1;omega,by have:=hs.2.2.1.1;omega,hs.2.2.2⟩]
 rw [←ADb9,←ADb9,←ADb9,←ADb9]
 have e:ADm9 s.tr.sd=seedS s.tr.sd:=rfl
 have e1:∀x:Int,(x==x)=true:=fun x=>by simp
 rw [AEz9,zeroN,e]
 simp only [Bool.and_true,e1]
 refine Zaj (fun h1=>Zaj (fun h2=>Zaj (fun h3=>⟨_,rfl, ?_⟩) fun h3=> ?_) fun h2=> ?_) fun h1=> ?_
 · rw [h1,h2,h3];rfl
 · rw [h3,Zdk];rfl
 · rw [h2,Zdk];rfl
 · rw [h1];rfl
def AXu9 (args:List AV) (K:AV→Prop):Prop:=∃(s:StT) (z:Bool),args= [stV s]∧(AAt9 s∧z=AEz9 s)∧K (.d (bo z))
theorem AMk9:∀args K,AXu9 args K→∃x,PCall prog 35 args x∧K x:=by
 rintro _ K ⟨s,_,rfl,⟨hs,rfl⟩,h⟩;exact ⟨_,BTd9 s hs,h⟩
def TAl:List (Nat×(List AV→(AV→Prop)→Prop)):= [(75,ATb9)]
theorem CLq9:AAf9 prog TAl:=Zaf AIv9 Zah
theorem BZz9 (s:StT):wpFn prog ⟨TAl, [],wl,y,false⟩ 100 f55 [stV s] b R=(∃(n0:Int),∃(z1:Int), [Zae (i64 (Zbi (StT.no s)))]= [Zae (i64 n0)]∧z1=ABj9 n0∧R (Zae (bo (((Zab (AAc9 (StT.ps s)):Nat):Int)==z1))) b):=by kernel_rfl
theorem CGk9 (s:StT):PCall prog 55 [stV s] (.d (bo (fullP s))):=by
 refine Zaz (n:=100) (u:=false) mixed CLq9 Zac func55 (by rfl) (by rfl) fun Ev bb=> ?_
 rw [BZz9,AAd9]
 exact ⟨_,_,rfl,rfl,rfl⟩
def cRAll (args:List AV) (K:AV→Prop):Prop:=∃(s:StT) (z:Bool),args= [stV s]∧z=fullP s∧K (.d (bo z))
theorem BGq9:∀args K,cRAll args K→∃x,PCall prog 55 args x∧K x:=by
 rintro _ K ⟨s,_,rfl,rfl,h⟩;exact ⟨_,CGk9 s,h⟩
def BGh9 (args:List AV) (K:AV→Prop):Prop:=∃(s:StT) (z:Bool),args= [stV s]∧(AAt9 s∧z=AJb9 s)∧K (.d (bo z))
theorem AZu9:∀args K,BGh9 args K→∃x,PCall prog 80 args x∧K x:=by
 rintro _ K ⟨s,_,rfl,⟨hs,rfl⟩,h⟩;exact ASv9 _ K ⟨s.sp,_,rfl,⟨by have:=hs.1.1;show s.ps.length≤_;omega,rfl⟩,h⟩
def TRva:List (Nat×(List AV→(AV→Prop)→Prop)):= [(35,AXu9),(80,BGh9),(81,c21),(55,cRAll),(82,AUr9)]
theorem CEt9:AAf9 prog TRva:=Zaf AMk9 (Zaf AZu9 (Zaf BWj9 (Zaf BGq9 (Zaf AOe9 Zah))))
theorem BBp9 (s:StT):wpFn prog ⟨TRva, [],wl,y,false⟩ 100 f23 [stV s] b R=(∃(s0:StT) (z1:Bool), [stV s]= [stV s0]∧((AAt9 s0)∧z1=AEz9 s0)∧BIf z1 (R (.d (bo true)) b) (∃(s2:StT) (z3:Bool), [stV s]= [stV s2]∧((AAt9 s2)∧z3=AJb9 s2)∧BIf z3 (∃(l4:List Row), [Zae (Zai 2 (rowsR (StT.rows s)))]= [Zae (Zai 2 (rowsR l4))]∧Zab l4≤9223372036854775807∧BIf (AHh9 l4) (BIf (decide (((Zab (rowsR (StT.rows s)):Nat):Int)<(16:Int))) (BIf (((Zab (rowsR (StT.rows s)):Nat):Int)==(0:Int)) (BIf (decide (((Zab (rowsR (StT.rows s)):Nat):Int)>(0:Int))) (∃(t5:TrT) (z6:Bool), [Zbc (trL (StT.tr s))]= [trV t5]∧z6=ABf9 t5∧R (.d (bo z6)) b) (BIf (((Zab (digR (StT.pf s)):Nat):Int)==(0:Int)) (∃(t7:TrT) (z8:Bool), [Zbc (trL (StT.tr s))]= [trV t7]∧z8=ABf9 t7∧R (.d (bo z8)) b) (R (.d (bo false)) b))) (∃(s9:StT) (z10:Bool), [stV s]= [stV s9]∧z10=fullP s9∧BIf (!z10) (BIf (decide (((Zab (rowsR (StT.rows s)):Nat):Int)>(0:Int))) (∃(t11:TrT) (z12:Bool), [Zbc (trL (StT.tr s))]= [trV t11]∧z12=ABf9 t11∧R (.d (bo z12)) b) (BIf (((Zab (digR (StT.pf s)):Nat):Int)==(0:Int)) (∃(t13:TrT) (z14:Bool), [Zbc (trL (StT.tr s))]= [trV t13]∧z14=ABf9 t13∧R (.d (bo z14)) b) (R (.d (bo false)) b))) (R (.d (bo false)) b))) (R (.d (bo false)) b)) (R (.d (bo false)) b)) (R (.d (bo false)) b))):=by kernel_rfl
theorem BSf9 (s:StT):wpFn prog ⟨[], [],wl,y,false⟩ 100 f58 [stV s] b R=(R (.agg (Qz4 s)) b):=by kernel_rfl
theorem BJq9 (s:StT) (hs:AAt9 s):PCall prog 23 [stV s] (.d (bo (ABp9 s))):=by
 refine Zaz (n:=100) (u:=false) mixed CEt9 Zac func23 (by rfl) (by rfl) fun Ev bb=> ?_
 rw [BBp9,ABs9,AAn9,AWm9,AWm9,AWl9]
 refine ⟨s,_,rfl,⟨hs,rfl⟩,Zaj (fun h=>by rw [ABp9,h];rfl) fun h1=>⟨s,_,rfl,⟨hs,rfl⟩,Zaj (fun h2=>⟨s.rows,rfl,by have:=hs.2.2.1.1;omega, ?_⟩) fun h2=> ?_⟩⟩
 · rw [AKg9]
   refine Zaj (fun h3=>Zaj (fun h4=>Zaj (fun h5=>Zaj (fun h6=> ?_) fun h6=>Zaj (fun h7=> ?_) fun h7=> ?_) fun h5=>⟨s,_,rfl,rfl,Zaj (fun h8=>Zaj (fun h6=> ?_) fun h6=>Zaj (fun h7=> ?_) fun h7=> ?_) fun h8=> ?_⟩) fun h4=> ?_) fun h3=> ?_
   · rw [h5] at h6;cases h6
   · exact ⟨s.tr,_,rfl,rfl,by rw [ABp9,h1,h2,h3,h4,h5,h7];rfl⟩
   · rw [ABp9,h1,h2,h3,h4,h5,h7];rfl
   · exact ⟨s.tr,_,rfl,rfl,by rw [ABp9,h1,h2,h3,h4,h5,nbt h8];rfl⟩
   · rw [h5] at h6;cases h6
   · rw [h5] at h6;cases h6
   · rw [ABp9,h1,h2,h3,h4,h5,nbf h8];rfl
   · rw [ABp9,h1,h2,h3,h4];rfl
   · rw [ABp9,h1,h2,h3];rfl
 · rw [ABp9,h1,h2];rfl
def APu9 (args:List AV) (K:AV→Prop):Prop:=∃(s:StT) (z:Bool),args= [stV s]∧(AAt9 s∧z=ABp9 s)∧K (.d (bo z))
theorem AJm9:∀args K,APu9 args K→∃x,PCall prog 23 args x∧K x:=by
 rintro _ K ⟨s,_,rfl,⟨hs,rfl⟩,h⟩;exact ⟨_,BJq9 s hs,h⟩
theorem anLe1 (s:StT):LeV (.agg (anL s)) (stV (anewS s)):=
 LeV.aggs (.cons .rfl (.cons .rfl (.cons .rfl (.cons .rfl (.cons .rfl (.cons .rfl (.cons (.nil rfl) (.cons (.nil rfl) (Zen _)))))))))
theorem CAx9 (s:StT):PCall prog 58 [stV s] (stV (anewS s)):=by
 refine Zck (n:=100) (u:=false) (fun _=>wlNo _) mixed Zah Zac (fun Ev=>AEr9 Ev) func58 (by rfl) (by rfl) fun Ev bb=> ?_
 rw [BSf9]
 exact anLe1 s
def CDs9 (args:List AV) (K:AV→Prop):Prop:=∃(s z:StT),args= [stV s]∧z=anewS s∧K (stV z)
theorem BMi9:∀args K,CDs9 args K→∃x,PCall prog 58 args x∧K x:=by
 rintro _ K ⟨s,_,rfl,rfl,h⟩;exact ⟨_,CAx9 s,h⟩
noncomputable def lp56:Code:=sub [1,1,0,1,2,3] (code f56)
theorem r56 (a c:List (List Dv)) (i:Int):wpc prog ⟨[], [],wl,y,false⟩ 100 lp56 (tmCmp 20 [] a c i) [] b (maskT [0,1,4,5] K)=(BIf (decide (i<((Zab a:Nat):Int))) (BIf (true&&decide (0≤i)) (∃(x0:Int),a[Zam i]? =some [u64 x0]∧BIf (true&&decide (0≤i)) (∃(x3:Int),c[Zam i]? =some [u64 x3]∧BIf (x0 !=x3) (K .ret (Qz33 a c i) [] b) (K .normal (Zae (Zai 1 a)::Zae (Zai 1 c)::bds 3 (Zae (i64 (Zaa .i64 (i+1)))::bds 20 [])) [] b)) False) False) (K (Zcy 0) (Zae (Zai 1 a)::Zae (Zai 1 c)::bds 3 (Zae (i64 i)::bds 20 [])) [] b)):=by kernel_rfl
theorem wr56 {Ev:Env prog} {b:Ev.β} {Q:Exit→St Ev.β→Prop} (a c:List Int) (hl:a.length=c.length) (hb:a.length≤9223372036854775807) (h1:a=c→∀i:Int,Q (.exit 0) ⟨tmCmp 20 [] (digR a) (digR c) i, [],b⟩) (h2:a≠c→∀i:Int,Q .ret ⟨(tmCmp 20 [] (digR a) (digR c) i).set 4 (.d (bo false)), [],b⟩):
   WR Ev lp56 (a.length+1) ⟨tmCmp 20 [] (digR a) (digR c) (0:Nat), [],b⟩ Q:=by
 refine WR.scan (X:=⟨[], [],wlW Ev,Ev.Y,false⟩) (k:=100) [0,1,4,5] mixed (CX.Ok.of Zah Zac) a.length (fun i=>nth a i !=nth c i) (fun i=>tmCmp 20 [] (digR a) (digR c) (i:Nat)) (fun i=>(tmCmp 20 [] (digR a) (digR c) (i:Nat)).set 4 (.d (bo false))) [] 0 (fun i hi K k1 k2=> ?_) (fun K k1=> ?_) (fun h=>h1 ?_ _) fun h i=>h2 ?_ _
 · rw [r56,AAn9]
   refine Zbf (by simp<;>omega) (Zbf (by simp) ⟨nth a i,by rw [Zas];exact AHo9 hi,Zbf (by simp) ⟨nth c i,by rw [Zas];exact AHo9 (by omega),Zaj (fun g=>k1 g) fun g=> ?_⟩⟩)
   rw [AAu9 hi hb];exact k2 g
 · rw [r56,AAn9]
   exact Zct (by simp) k1
 · rw [ANb9 hl] at h;simpa using h
 · rw [ANb9 hl] at h;simpa using h
def wl56 {β:Type}:WLT β:=fun t tm hp b K=>∃(a c:List Int) (z:Bool),t= .loop lp56∧ABb9 [0,1,5] 0 tm=tmCmp 20 [] (digR a) (digR c) 0∧hp= []∧((a.length=c.length∧a.length≤9223372036854775807)∧z=decide (a=c))∧
 BIf z (∀i:Int,K (.exit 0) (tmCmp 20 [] (digR a) (digR c) i) [] b) (∀i:Int,K .ret ((tmCmp 20 [] (digR a) (digR c) i).set 4 (.d (bo false))) [] b)
theorem BYh9 {Ev:Env prog} (c:Code) (tm:List AV) (hp:List Blk) (b:Ev.β) (K:Exit→List AV→List Blk→Ev.β→Prop) (h:wl56 c tm hp b K):W Ev c ⟨tm,hp,b⟩ (fun e s=>K e s.tm s.hp s.b):=by
 obtain ⟨a,d,z,rfl,htm,rfl,⟨⟨hl,hb⟩,hz⟩,hK⟩:=h
 refine W.cast (htm▸AAg9 _ tm 0) (Zbt _) ?_
 exact W.rounds (wr56 (Q:=fun e s=>K e s.tm s.hp s.b) a d hl hb (fun h=>by rw [hz,decide_eq_true h] at hK;exact hK) fun h=>by rw [hz,decide_eq_false h] at hK;exact hK)
theorem CIz9 (a c:List (List Dv)):wpFn prog ⟨[], [],wl56,y,false⟩ 100 f56 [.d (.sl 1 a), .d (.sl 1 c)] b R=(BIf (((Zab a:Nat):Int) !=((Zab c:Nat):Int)) (R (.d (bo false)) b) (∃(a0:List Int) (c1:List Int) (z2:Bool),Zax lp56=Zax lp56∧(Qz44 a c)=(Zae (Zai 1 (digR a0))::Zae (Zai 1 (digR c1))::bds 3 (Zae (i64 0)::bds 20 []))∧([]:List Blk)= []∧((Zab a0=Zab c1∧Zab a0≤9223372036854775807)∧z2=decide (a0=c1))∧BIf z2 (∀(i:Int),R (.d (bo true)) b) (∀(i:Int),R (.d (bo false)) b))):=by kernel_rfl
theorem pcRSm (a c:List Int) (ha:a.length≤9223372036854775807):PCall prog 56 [.d (.sl 1 (digR a)), .d (.sl 1 (digR c))] (.d (bo (decide (a=c)))):=by
 refine Zcd (n:=100) (u:=false) (fun _=>wl56) mixed Zah Zac (fun Ev=>BYh9) func56 (by rfl) (by rfl) fun Ev bb=> ?_
 rw [CIz9,AAn9,AAn9]
 refine Zaj (fun g=> ?_) fun g=>⟨a,c,_,rfl,rfl,rfl,⟨⟨by simp at g;omega,ha⟩,rfl⟩,Zaj (fun h i=>by rw [h]) fun h i=>by rw [h]⟩
 rw [decide_eq_false fun h=>by rw [h] at g;simp at g]
def cRSm (args:List AV) (K:AV→Prop):Prop:=∃(a c:List Int) (z:Bool),args= [.d (.sl 1 (digR a)), .d (.sl 1 (digR c))]∧(a.length≤9223372036854775807∧z=decide (a=c))∧K (.d (bo z))
theorem CDl9:∀args K,cRSm args K→∃x,PCall prog 56 args x∧K x:=by
 rintro _ K ⟨a,c,_,rfl,⟨hl,rfl⟩,h⟩;exact ⟨_,pcRSm a c hl,h⟩
def cRNoN (args:List AV) (K:AV→Prop):Prop:=∃(n:NotT) (z:Bool),args= [noV n]∧z=AAi9 n.v n.n n.t∧K (.d (bo z))
theorem BVr9:∀args K,cRNoN args K→∃x,PCall prog 76 args x∧K x:=by
 rintro _ K ⟨n,_,rfl,rfl,h⟩;exact AOf9 _ K ⟨n.v,n.n,n.r,n.t,_,rfl,rfl,h⟩
def TRh:List (Nat×(List AV→(AV→Prop)→Prop)):= [(75,ATb9),(23,APu9),(76,cRNoN),(26,ATa9),(77,cRNew),(78,BPh9),(79,CDq9)]
theorem CLc9:AAf9 prog TRh:=Zaf AIv9 (Zaf AJm9 (Zaf BVr9 (Zaf AIu9 (Zaf BVs9 (Zaf BGk9 (Zaf BMg9 Zah))))))
theorem BIw9 (s:StT) (n:NotT) (p f:Int):wpFn prog ⟨TRh, [],wl,y,false⟩ 100 f22 [stV s,noV n, .d (i64 p), .d (i64 f)] b R=(BIf (!(Zba n==(0:Int)&&(Zbi n==(0:Int)&&(Zbl n==(0:Int)&&(Zbj n==(0:Int)&&true))))) (∃(n0:Int) (z1:Int), [Zae (i64 (Zbi n))]= [Zae (i64 n0)]∧z1=ABj9 n0∧∃(s2:StT) (z3:Bool), [stV s]= [stV s2]∧((AAt9 s2)∧z3=ABp9 s2)∧BIf (!z3) (R (stV s) b) (BIf (!(Zba n==(0:Int)&&(Zbi n==(0:Int)&&(Zbl n==(0:Int)&&(Zbj n==(0:Int)&&true))))) (∃(n4:NotT) (z5:Bool), [noV n]= [noV n4]∧z5=AAi9 (Zba n4) (Zbi n4) (Zbj n4)∧BIf (!z5) (R (stV s) b) (BIf (decide (p<(0:Int))) (R (stV s) b) (BIf (decide (p>z1)) (R (stV s) b) (∃(n6:Int) (z7:Bool), [Zae (i64 f)]= [Zae (i64 n6)]∧z7=ABn9 n6∧BIf (!z7) (R (stV s) b) (BIf (decide (Zba n>Zba (StT.no s))) (∃(s8:Int) (f9:Int) (z10:TrT) (e11:Int),(Qz20 s f)= [Zae (i64 s8),Zae (i64 f9)]∧(z10,e11)=newT s8 f9∧R (.agg (Qz5 n z10)) b) (BIf (decide (Zba n<Zba (StT.no s))) (∃(t12:TrT) (f13:Int) (z14:TrT), [Zbc (trL (StT.tr s)),Zae (i64 f)]= [trV t12,Zae (i64 f13)]∧z14=ACs9 t12 f13∧R (.agg (Qz2 s z14)) b) (BIf (!(Zba n==(0:Int)&&(Zbi n==(0:Int)&&(Zbl n==(0:Int)&&(Zbj n==(0:Int)&&true))))) (BIf (Zba n==Zba (StT.no s)&&(Zbi n==Zbi (StT.no s)&&(Zbl n==Zbl (StT.no s)&&(Zbj n==Zbj (StT.no s)&&true)))) (BIf (p !=((Zab (AAc9 (StT.ps s)):Nat):Int)) (∃(t15:TrT) (f16:Int) (z17:TrT), [Zbc (trL (StT.tr s)),Zae (i64 f)]= [trV t15,Zae (i64 f16)]∧z17=ACs9 t15 f16∧R (.agg (Qz2 s z17)) b) (BIf (!(Zba n==(0:Int)&&(Zbi n==(0:Int)&&(Zbl n==(0:Int)&&(Zbj n==(0:Int)&&true))))) (BIf (Zba n==Zba (StT.no s)&&(Zbi n==Zbi (StT.no s)&&(Zbl n==Zbl (StT.no s)&&(Zbj n==Zbj (StT.no s)&&true)))) (∃(t18:TrT) (z19:TrT), [Zbc (trL (StT.tr s))]= [trV t18]∧z19=hearT t18∧R (.agg (Qz2 s z19)) b) (R (stV s) b)) (R (stV s) b))) (BIf (!(Zba n==(0:Int)&&(Zbi n==(0:Int)&&(Zbl n==(0:Int)&&(Zbj n==(0:Int)&&true))))) (BIf (Zba n==Zba (StT.no s)&&(Zbi n==Zbi (StT.no s)&&(Zbl n==Zbl (StT.no s)&&(Zbj n==Zbj (StT.no s)&&true)))) (∃(t20:TrT) (z21:TrT), [Zbc (trL (StT.tr s))]= [trV t20]∧z21=hearT t20∧R (.agg (Qz2 s z21)) b) (R (stV s) b)) (R (stV s) b))) (BIf (!(Zba n==(0:Int)&&(Zbi n==(0:Int)&&(Zbl n==(0:Int)&&(Zbj n==(0:Int)&&true))))) (BIf (Zba n==Zba (StT.no s)&&(Zbi n==Zbi (StT.no s)&&(Zbl n==Zbl (StT.no s)&&(Zbj n==Zbj (StT.no s)&&true)))) (∃(t22:TrT) (z23:TrT), [Zbc (trL (StT.tr s))]= [trV t22]∧z23=hearT t22∧R (.agg (Qz2 s z23)) b) (R (stV s) b)) (R (stV s) b))))))))) (BIf (decide (p<(0:Int))) (R (stV s) b) (BIf (decide (p>z1)) (R (stV s) b) (∃(n24:Int) (z25:Bool), [Zae (i64 f)]= [Zae (i64 n24)]∧z25=ABn9 n24∧BIf (!z25) (R (stV s) b) (BIf (decide (Zba n>Zba (StT.no s))) (∃(s26:Int) (f27:Int) (z28:TrT) (e29:Int),(Qz20 s f)= [Zae (i64 s26),Zae (i64 f27)]∧(z28,e29)=newT s26 f27∧R (.agg (Qz5 n z28)) b) (BIf (decide (Zba n<Zba (StT.no s))) (∃(t30:TrT) (f31:Int) (z32:TrT), [Zbc (trL (StT.tr s)),Zae (i64 f)]= [trV t30,Zae (i64 f31)]∧z32=ACs9 t30 f31∧R (.agg (Qz2 s z32)) b) (BIf (!(Zba n==(0:Int)&&(Zbi n==(0:Int)&&(Zbl n==(0:Int)&&(Zbj n==(0:Int)&&true))))) (BIf (Zba n==Zba (StT.no s)&&(Zbi n==Zbi (StT.no s)&&(Zbl n==Zbl (StT.no s)&&(Zbj n==Zbj (StT.no s)&&true)))) (BIf (p !=((Zab (AAc9 (StT.ps s)):Nat):Int)) (∃(t33:TrT) (f34:Int) (z35:TrT), [Zbc (trL (StT.tr s)),Zae (i64 f)]= [trV t33,Zae (i64 f34)]∧z35=ACs9 t33 f34∧R (.agg (Qz2 s z35)) b) (BIf (!(Zba n==(0:Int)&&(Zbi n==(0:Int)&&(Zbl n==(0:Int)&&(Zbj n==(0:Int)&&true))))) (BIf (Zba n==Zba (StT.no s)&&(Zbi n==Zbi (StT.no s)&&(Zbl n==Zbl (StT.no s)&&(Zbj n==Zbj (StT.no s)&&true)))) (∃(t36:TrT) (z37:TrT), [Zbc (trL (StT.tr s))]= [trV t36]∧z37=hearT t36∧R (.agg (Qz2 s z37)) b) (R (stV s) b)) (R (stV s) b))) (BIf (!(Zba n==(0:Int)&&(Zbi n==(0:Int)&&(Zbl n==(0:Int)&&(Zbj n==(0:Int)&&true))))) (BIf (Zba n==Zba (StT.no s)&&(Zbi n==Zbi (StT.no s)&&(Zbl n==Zbl (StT.no s)&&(Zbj n==Zbj (StT.no s)&&true)))) (∃(t38:TrT) (z39:TrT), [Zbc (trL (StT.tr s))]= [trV t38]∧z39=hearT t38∧R (.agg (Qz2 s z39)) b) (R (stV s) b)) (R (stV s) b))) (BIf (!(Zba n==(0:Int)&&(Zbi n==(0:Int)&&(Zbl n==(0:Int)&&(Zbj n==(0:Int)&&true))))) (BIf (Zba n==Zba (StT.no s)&&(Zbi n==Zbi (StT.no s)&&(Zbl n==Zbl (StT.no s)&&(Zbj n==Zbj (StT.no s)&&true)))) (∃(t40:TrT) (z41:TrT), [Zbc (trL (StT.tr s))]= [trV t40]∧z41=hearT t40∧R (.agg (Qz2 s z41)) b) (R (stV s) b)) (R (stV s) b)))))))))) (∃(s42:StT) (z43:Bool), [stV s]= [stV s42]∧((AAt9 s42)∧z43=ABp9 s42)∧BIf (!z43) (R (stV s) b) (BIf (!(Zba n==(0:Int)&&(Zbi n==(0:Int)&&(Zbl n==(0:Int)&&(Zbj n==(0:Int)&&true))))) (∃(n44:NotT) (z45:Bool), [noV n]= [noV n44]∧z45=AAi9 (Zba n44) (Zbi n44) (Zbj n44)∧BIf (!z45) (R (stV s) b) (BIf (decide (p<(0:Int))) (R (stV s) b) (BIf (decide (p>(0:Int))) (R (stV s) b) (∃(n46:Int) (z47:Bool), [Zae (i64 f)]= [Zae (i64 n46)]∧z47=ABn9 n46∧BIf (!z47) (R (stV s) b) (BIf (decide (Zba n>Zba (StT.no s))) (∃(s48:Int) (f49:Int) (z50:TrT) (e51:Int),(Qz20 s f)= [Zae (i64 s48),Zae (i64 f49)]∧(z50,e51)=newT s48 f49∧R (.agg (Qz5 n z50)) b) (BIf (decide (Zba n<Zba (StT.no s))) (∃(t52:TrT) (f53:Int) (z54:TrT), [Zbc (trL (StT.tr s)),Zae (i64 f)]= [trV t52,Zae (i64 f53)]∧z54=ACs9 t52 f53∧R (.agg (Qz2 s z54)) b) (BIf (!(Zba n==(0:Int)&&(Zbi n==(0:Int)&&(Zbl n==(0:Int)&&(Zbj n==(0:Int)&&true))))) (BIf (Zba n==Zba (StT.no s)&&(Zbi n==Zbi (StT.no s)&&(Zbl n==Zbl (StT.no s)&&(Zbj n==Zbj (StT.no s)&&true)))) (BIf (p !=((Zab (AAc9 (StT.ps s)):Nat):Int)) (∃(t55:TrT) (f56:Int) (z57:TrT), [Zbc (trL (StT.tr s)),Zae (i64 f)]= [trV t55,Zae (i64 f56)]∧z57=ACs9 t55 f56∧R (.agg (Qz2 s z57)) b) (BIf (!(Zba n==(0:Int)&&(Zbi n==(0:Int)&&(Zbl n==(0:Int)&&(Zbj n==(0:Int)&&true))))) (BIf (Zba n==Zba (StT.no s)&&(Zbi n==Zbi (StT.no s)&&(Zbl n==Zbl (StT.no s)&&(Zbj n==Zbj (StT.no s)&&true)))) (∃(t58:TrT) (z59:TrT), [Zbc (trL (StT.tr s))]= [trV t58]∧z59=hearT t58∧R (.agg (Qz2 s z59)) b) (R (stV s) b)) (R (stV s) b))) (BIf (!(Zba n==(0:Int)&&(Zbi n==(0:Int)&&(Zbl n==(0:Int)&&(Zbj n==(0:Int)&&true))))) (BIf (Zba n==Zba (StT.no s)&&(Zbi n==Zbi (StT.no s)&&(Zbl n==Zbl (StT.no s)&&(Zbj n==Zbj (StT.no s)&&true)))) (∃(t60:TrT) (z61:TrT), [Zbc (trL (StT.tr s))]= [trV t60]∧z61=hearT t60∧R (.agg (Qz2 s z61)) b) (R (stV s) b)) (R (stV s) b))) (BIf (!(Zba n==(0:Int)&&(Zbi n==(0:Int)&&(Zbl n==(0:Int)&&(Zbj n==(0:Int)&&true))))) (BIf (Zba n==Zba (StT.no s)&&(Zbi n==Zbi (StT.no s)&&(Zbl n==Zbl (StT.no s)&&(Zbj n==Zbj (StT.no s)&&true)))) (∃(t62:TrT) (z63:TrT), [Zbc (trL (StT.tr s))]= [trV t62]∧z63=hearT t62∧R (.agg (Qz2 s z63)) b) (R (stV s) b)) (R (stV s) b))))))))) (BIf (decide (p<(0:Int))) (R (stV s) b) (BIf (decide (p>(0:Int))) (R (stV s) b) (∃(n64:Int) (z65:Bool), [Zae (i64 f)]= [Zae (i64 n64)]∧z65=ABn9 n64∧BIf (!z65) (R (stV s) b) (BIf (decide (Zba n>Zba (StT.no s))) (∃(s66:Int) (f67:Int) (z68:TrT) (e69:Int),(Qz20 s f)= [Zae (i64 s66),Zae (i64 f67)]∧(z68,e69)=newT s66 f67∧R (.agg (Qz5 n z68)) b) (BIf (decide (Zba n<Zba (StT.no s))) (∃(t70:TrT) (f71:Int) (z72:TrT), [Zbc (trL (StT.tr s)),Zae (i64 f)]= [trV t70,Zae (i64 f71)]∧z72=ACs9 t70 f71∧R (.agg (Qz2 s z72)) b) (BIf (!(Zba n==(0:Int)&&(Zbi n==(0:Int)&&(Zbl n==(0:Int)&&(Zbj n==(0:Int)&&true))))) (BIf (Zba n==Zba (StT.no s)&&(Zbi n==Zbi (StT.no s)&&(Zbl n==Zbl (StT.no s)&&(Zbj n==Zbj (StT.no s)&&true)))) (BIf (p !=((Zab (AAc9 (StT.ps s)):Nat):Int)) (∃(t73:TrT) (f74:Int) (z75:TrT), [Zbc (trL (StT.tr s)),Zae (i64 f)]= [trV t73,Zae (i64 f74)]∧z75=ACs9 t73 f74∧R (.agg (Qz2 s z75)) b) (BIf (!(Zba n==(0:Int)&&(Zbi n==(0:Int)&&(Zbl n==(0:Int)&&(Zbj n==(0:Int)&&true))))) (BIf (Zba n==Zba (StT.no s)&&(Zbi n==Zbi (StT.no s)&&(Zbl n==Zbl (StT.no s)&&(Zbj n==Zbj (StT.no s)&&true)))) (∃(t76:TrT) (z77:TrT), [Zbc (trL (StT.tr s))]= [trV t76]∧z77=hearT t76∧R (.agg (Qz2 s z77)) b) (R (stV s) b)) (R (stV s) b))) (BIf (!(Zba n==(0:Int)&&(Zbi n==(0:Int)&&(Zbl n==(0:Int)&&(Zbj n==(0:Int)&&true))))) (BIf (Zba n==Zba (StT.no s)&&(Zbi n==Zbi (StT.no s)&&(Zbl n==Zbl (StT.no s)&&(Zbj n==Zbj (StT.no s)&&true)))) (∃(t78:TrT) (z79:TrT), [Zbc (trL (StT.tr s))]= [trV t78]∧z79=hearT t78∧R (.agg (Qz2 s z79)) b) (R (stV s) b)) (R (stV s) b))) (BIf (!(Zba n==(0:Int)&&(Zbi n==(0:Int)&&(Zbl n==(0:Int)&&(Zbj n==(0:Int)&&true))))) (BIf (Zba n==Zba (StT.no s)&&(Zbi n==Zbi (StT.no s)&&(Zbl n==Zbl (StT.no s)&&(Zbj n==Zbj (StT.no s)&&true)))) (∃(t80:TrT) (z81:TrT), [Zbc (trL (StT.tr s))]= [trV t80]∧z81=hearT t80∧R (.agg (Qz2 s z81)) b) (R (stV s) b)) (R (stV s) b))))))))))):=by kernel_rfl
theorem BXg9 {n:NotT} (h:zeroN n=true):n.n=0:=by
 simp only [zeroN,Zan,beq_iff_eq] at h;exact h.2.1
theorem CJs9:ABj9 0=0:=by decide
theorem BSz9 (s:StT) (n:NotT) (p f:Int) (hs:AAt9 s):PCall prog 22 [stV s,noV n, .d (i64 p), .d (i64 f)] (stV (hearS s n p f)):=by
 refine Zck (n:=100) (u:=false) (fun _=>wlNo _) mixed CLc9 Zac (fun Ev=>AEr9 Ev) func22 (by rfl) (by rfl) fun Ev bb=> ?_
 rw [BIw9]
 have hz:(Zba n==(0:Int)&&(Zbi n==(0:Int)&&(Zbl n==(0:Int)&&(Zbj n==(0:Int)&&true))))=zeroN n:=by simp only [zeroN,Bool.and_true]
 have he:(Zba n==Zba (StT.no s)&&(Zbi n==Zbi (StT.no s)&&(Zbl n==Zbl (StT.no s)&&(Zbj n==Zbj (StT.no s)&&true))))=eqN n s.no:=by simp only [eqN,Bool.and_true]
 rw [hz,he,AAd9]
 have bad:ADo9 s n p f=false→LeV (stV s) (stV (hearS s n p f)):=fun h=>by rw [hearS,if_pos h];exact .rfl
 have bV:(!ABp9 s)=true→LeV (stV s) (stV (hearS s n p f)):=fun h=>bad (by rw [ADo9,nbt h];rfl)
 have bP:decide (p<0)=true→LeV (stV s) (stV (hearS s n p f)):=fun h=>bad (by rw [ADo9,decide_eq_false (p:=0≤p) (by have:=of_decide_eq_true h;omega)];simp)
 have bC:decide (p>ABj9 n.n)=true→LeV (stV s) (stV (hearS s n p f)):=fun h=>bad (by rw [ADo9,decide_eq_false (p:=p≤ABj9 n.n) (by have:=of_decide_eq_true h;omega)];simp)
 have bF:(!ABn9 f)=true→LeV (stV s) (stV (hearS s n p f)):=fun h=>bad (by rw [ADo9,nbt h,Zdk])
 have good:(!ABp9 s)=false→(zeroN n||AAi9 n.v n.n n.t)=true→decide (p<0)=false→decide (p>ABj9 n.n)=false→(!ABn9 f)=false→¬ADo9 s n p f=false:=by
   intro h1 h2 h3 h4 h5
   have h3:=of_decide_eq_false h3
   have h4:=of_decide_eq_false h4
   rw [ADo9,nbf h1,h2,decide_eq_true (p:=0≤p) (by omega),decide_eq_true (p:=p≤ABj9 n.n) (by omega),nbf h5]
   decide
 have newer:¬ADo9 s n p f=false→decide (n.v>s.no.v)=true→LeV (Zbc [Zae (i64 n.v),Zae (i64 n.n),Zae (u64 n.r),Zae (i64 n.t),Zae (Zfa (Zbp none 0 0)),Zae (Zfa (Zbp none 0 0)),Zae (Zfa (Zbp none 0 0)),Zae (Zfa (Zbp none 0 0)),Zae (i64 (newT s.tr.sd f).1.iv),Zae (i64 (newT s.tr.sd f).1.bg),Zae (i64 (newT s.tr.sd f).1.fi),Zae (i64 (newT s.tr.sd f).1.ct),Zae (i64 (newT s.tr.sd f).1.sd)]) (stV (hearS s n p f)):=by
   intro h1 h2
   rw [hearS,if_neg h1,if_pos (of_decide_eq_true h2)]
   exact LeV.aggs (.cons .rfl (.cons .rfl (.cons .rfl (.cons .rfl (.cons (.nil rfl) (.cons (.nil rfl) (.cons (.nil rfl) (.cons (.nil rfl) (Zen _)))))))))
 have older:¬ADo9 s n p f=false→decide (n.v>s.no.v)=false→decide (n.v<s.no.v)=true→hearS s n p f=ADc9 s (ACs9 s.tr f):=by
   intro h1 h2 h3
   rw [hearS,if_neg h1,if_neg (of_decide_eq_false h2),if_pos (of_decide_eq_true h3)]
 have rest:¬ADo9 s n p f=false→decide (n.v>s.no.v)=false→decide (n.v<s.no.v)=false→hearS s n p f=if (!zeroN n&&eqN n s.no)=true then (if p≠s.ps.length then ADc9 s (ACs9 s.tr f) else ADc9 s (hearT s.tr)) else s:=by
   intro h1 h2 h3
   rw [hearS,if_neg h1,if_neg (of_decide_eq_false h2),if_neg (of_decide_eq_false h3)]
 cases hzz:zeroN n<;>cases hee:eqN n s.no<;>simp only [Bool.not_true,Bool.not_false,AVd9,APx9]<;>simp only [hzz,hee] at good rest
 · refine ⟨_,_,rfl,rfl,s,_,rfl,⟨hs,rfl⟩,Zaj bV fun g1=>⟨n,_,rfl,rfl,Zaj (fun h=>bad (by rw [ADo9,hzz,nbt h];simp)) fun g2=>Zaj bP fun g3=>Zaj bC fun g4=>⟨_,_,rfl,rfl,Zaj bF fun g5=> ?_⟩⟩⟩
   have g:=good g1 (by rw [nbf g2];rfl) g3 g4 g5
   refine Zaj (fun h=>⟨_,_,_,_,rfl,rfl,newer g h⟩) fun g7=>Zaj (fun h=>⟨s.tr,_,_,rfl,rfl, ?_⟩) fun g8=> ?_
   · rw [older g g7 h];exact .rfl
   · rw [rest g g7 g8];exact .rfl
 · refine ⟨_,_,rfl,rfl,s,_,rfl,⟨hs,rfl⟩,Zaj bV fun g1=>⟨n,_,rfl,rfl,Zaj (fun h=>bad (by rw [ADo9,hzz,nbt h];simp)) fun g2=>Zaj bP fun g3=>Zaj bC fun g4=>⟨_,_,rfl,rfl,Zaj bF fun g5=> ?_⟩⟩⟩
   have g:=good g1 (by rw [nbf g2];rfl) g3 g4 g5
   refine Zaj (fun h=>⟨_,_,_,_,rfl,rfl,newer g h⟩) fun g7=>Zaj (fun h=>⟨s.tr,_,_,rfl,rfl, ?_⟩) fun g8=>Zaj (fun h=>⟨s.tr,_,_,rfl,rfl, ?_⟩) fun h=>⟨s.tr,_,rfl,rfl, ?_⟩
   · rw [older g g7 h];exact .rfl
   · rw [rest g g7 g8,if_pos (c:=(!false&&true)=true) rfl,if_pos (by simpa using h)];exact .rfl
   · rw [rest g g7 g8,if_pos (c:=(!false&&true)=true) rfl,if_neg (by simpa using h)];exact .rfl
 all_goals
   have e0:ABj9 n.n=0:=by rw [BXg9 hzz,CJs9]
   rw [e0] at bC good
   refine ⟨s,_,rfl,⟨hs,rfl⟩,Zaj bV fun g1=>Zaj bP fun g3=>Zaj bC fun g4=>⟨_,_,rfl,rfl,Zaj bF fun g5=> ?_⟩⟩
   have g:=good g1 rfl g3 g4 g5
   refine Zaj (fun h=>⟨_,_,_,_,rfl,rfl,newer g h⟩) fun g7=>Zaj (fun h=>⟨s.tr,_,_,rfl,rfl, ?_⟩) fun g8=> ?_
   · rw [older g g7 h];exact .rfl
   · rw [rest g g7 g8];exact .rfl
def BPg9 (args:List AV) (K:AV→Prop):Prop:=∃(s:StT) (n:NotT) (p f:Int) (z:StT),args= [stV s,noV n, .d (i64 p), .d (i64 f)]∧(AAt9 s∧z=hearS s n p f)∧K (stV z)
theorem BGj9:∀args K,BPg9 args K→∃x,PCall prog 22 args x∧K x:=by
 rintro _ K ⟨s,n,p,f,_,rfl,⟨h1,rfl⟩,h⟩;exact ⟨_,BSz9 s n p f h1,h⟩
def BPe9 (args:List AV) (K:AV→Prop):Prop:=∃(x:BlkT) (z:Bool),args= [bkV x]∧z= !badB x∧K (.d (bo z))
theorem BZc9 (x:BlkT):valS x.n x.s x.d.length= !badB x:=by
 rw [Bool.eq_iff_iff]
 simp only [valS,pageS,seedS,badB,Zan,decide_eq_true_eq,Bool.not_eq_true',Bool.or_eq_false_iff,decide_eq_false_iff_not,bne_eq_false_iff_eq]
 omega
theorem BGg9:∀args K,BPe9 args K→∃x,PCall prog 54 args x∧K x:=by
 rintro _ K ⟨x,_,rfl,rfl,h⟩
 have:=BDd9 x.n x.s (AAa9 x.d) (digR x.pf)
 rw [AAh9,BZc9] at this
 exact ⟨_,this,h⟩
def CDn9 (args:List AV) (K:AV→Prop):Prop:=∃(l:List Row) (x:BlkT) (z:List Row) (n:Bool) (e:Int),args= [.d (.sl 2 (rowsR l)),bkV x]∧(ACf9 l∧(z,n,e)=recS l x.n x.s x.d)∧K (.tup [.d (.sl 2 (rowsR z)), .d (bo n), .d (i64 e)])
theorem BMd9:∀args K,CDn9 args K→∃x,PCall prog 57 args x∧K x:=by
 rintro _ K ⟨l,x,z,n,e,rfl,⟨h1,he⟩,h⟩
 have:=BDg9 l x.n x.s x.d (digR x.pf) h1
 rw [←he] at this
 exact ⟨_,this,h⟩
def BPj9 (args:List AV) (K:AV→Prop):Prop:=∃(l:List Row) (z:List Int) (e:Bool),args= [.d (.sl 2 (rowsR l))]∧(l.length≤9223372036854775807∧(z,e)=ACi9 l)∧K (.tup [.d (.sl 1 (AAa9 z)), .d (bo e)])
theorem BGn9:∀args K,BPj9 args K→∃x,PCall prog 59 args x∧K x:=by
 rintro _ K ⟨l,z,e,rfl,⟨h1,he⟩,h⟩
 have:=CBa9 l h1
 rw [←he] at this
 exact ⟨_,this,h⟩
def CDo9 (args:List AV) (K:AV→Prop):Prop:=∃(s:StT) (p q:List Int) (z:StT) (e:Int),args= [stV s, .d (.sl 1 (AAa9 p)), .d (.sl 1 (digR q))]∧(okPut s q∧(z,e)=putT s p q)∧K (.tup [stV z, .d (i64 e)])
theorem BMe9:∀args K,CDo9 args K→∃x,PCall prog 60 args x∧K x:=by
 rintro _ K ⟨s,p,q,z,e,rfl,⟨h1,he⟩,h⟩
 have:=CGi9 s.sp p q h1.1 h1.2.1 h1.2.2
 rw [(AWa9 s p q).1,(AWa9 s p q).2,←he] at this
 exact ⟨_,this,h⟩
def TRr2:List (Nat×(List AV→(AV→Prop)→Prop)):= [(23,APu9),(54,BPe9),(35,AXu9),(55,cRAll),(56,cRSm),(57,CDn9),(58,CDs9),(59,BPj9),(60,CDo9)]
theorem CEx9:AAf9 prog TRr2:=Zaf AJm9 (Zaf BGg9 (Zaf AMk9 (Zaf BGq9 (Zaf CDl9 (Zaf BMd9 (Zaf BMi9 (Zaf BGn9 (Zaf BMe9 Zah))))))))
theorem BSa9 (s:StT) (x:BlkT):wpFn prog ⟨TRr2, [],wl,y,false⟩ 100 f16 [stV s,bkV x] b R=(∃(s0:StT) (z1:Bool), [stV s]= [stV s0]∧((AAt9 s0)∧z1=ABp9 s0)∧BIf (!z1) (R (.tup [stV s,Zae (i64 1)]) b) (∃(x2:BlkT) (z3:Bool), [bkV x]= [bkV x2]∧z3= !badB x2∧BIf (!z3) (R (.tup [stV s,Zae (i64 1)]) b) (∃(s4:StT) (z5:Bool), [stV s]= [stV s4]∧((AAt9 s4)∧z5=AEz9 s4)∧BIf z5 (R (.tup [stV s,Zae (i64 4)]) b) (∃(s6:StT) (z7:Bool), [stV s]= [stV s6]∧z7=fullP s6∧BIf z7 (R (.tup [stV s,Zae (i64 10)]) b) (BIf (decide (BlkT.n x<((Zab (AAc9 (StT.ps s)):Nat):Int))) (R (.tup [stV s,Zae (i64 14)]) b) (BIf (decide (BlkT.n x>((Zab (AAc9 (StT.ps s)):Nat):Int))) (R (.tup [stV s,Zae (i64 6)]) b) (BIf (decide (((Zab (rowsR (StT.rows s)):Nat):Int)>(0:Int))) (∃(a8:List Int) (c9:List Int) (z10:Bool), [Zae (Zai 1 (digR (BlkT.pf x))),Zae (Zai 1 (digR (StT.pf s)))]=(Qz45 a8 c9)∧(Zab a8≤9223372036854775807∧z10=decide (a8=c9))∧BIf (!z10) (R (.tup [stV s,Zae (i64 12)]) b) (∃(l11:List Row) (x12:BlkT) (z13:List Row) (n14:Bool) (e15:Int), [Zae (Zai 2 (rowsR (StT.rows s))),bkV x]= [Zae (Zai 2 (rowsR l11)),bkV x12]∧((Zab l11≤1000∧∀(r:Row),r∈l11→Zab (Prod.snd r)≤1000)∧(z13,n14,e15)=recS l11 (BlkT.n x12) (BlkT.s x12) (BlkT.d x12))∧BIf (e15 !=(0:Int)) (∃(s16:StT) (z17:StT), [stV s]= [stV s16]∧z17=anewS s16∧R (.tup [stV z17,Zae (i64 e15)]) b) (BIf (decide (Zab (digR (BlkT.pf x))*8≤140737488355328)) (∃(l18:List Row) (z19:List Int) (e20:Bool), [Zae (Zai 2 (rowsR z13))]= [Zae (Zai 2 (rowsR l18))]∧(Zab l18≤9223372036854775807∧(z19,e20)=ACi9 l18)∧BIf (!e20) (R (.tup [Zbc [Zae (i64 (Zba (StT.no s))),Zae (i64 (Zbi (StT.no s))),Zae (u64 (Zbl (StT.no s))),Zae (i64 (Zbj (StT.no s))),Zae (Zai 1 (AAc9 (StT.ps s))),Zae (Zai 1 (AAe9 (StT.qs s))),Zae (Zai 2 (rowsR z13)),Zae (Zai 1 (digR (BlkT.pf x))),Zae (i64 (Zda (StT.tr s))),Zae (i64 (Zdc (StT.tr s))),Zae (i64 (Zdd (StT.tr s))),Zae (i64 (Zde (StT.tr s))),Zae (i64 (Zcp (StT.tr s)))],Zae (i64 0)]) b) (∃(s21:StT) (p22:List Int) (q23:List Int) (z24:StT) (e25:Int), [Zbc [Zae (i64 (Zba (StT.no s))),Zae (i64 (Zbi (StT.no s))),Zae (u64 (Zbl (StT.no s))),Zae (i64 (Zbj (StT.no s))),Zae (Zai 1 (AAc9 (StT.ps s))),Zae (Zai 1 (AAe9 (StT.qs s))),Zae (Zai 2 (rowsR z13)),Zae (Zai 1 (digR (BlkT.pf x))),Zae (i64 (Zda (StT.tr s))),Zae (i64 (Zdc (StT.tr s))),Zae (i64 (Zdd (StT.tr s))),Zae (i64 (Zde (StT.tr s))),Zae (i64 (Zcp (StT.tr s)))],Zae (Zai 1 (AAa9 z19)),Zae (Zai 1 (digR (BlkT.pf x)))]= [stV s21,Zae (Zai 1 (AAa9 p22)),Zae (Zai 1 (digR q23))]∧((Zab (StT.ps s21)≤9223372036854775807∧Zab q23≤1000000∧∀(x:List Int),x∈StT.qs s21→Zab x≤1000000)∧(z24,e25)=putT s21 p22 q23)∧BIf (e25 !=(0:Int)) (∃(s26:StT) (z27:StT), [Zbc [Zae (i64 (Zba (StT.no s))),Zae (i64 (Zbi (StT.no s))),Zae (u64 (Zbl (StT.no s))),Zae (i64 (Zbj (StT.no s))),Zae (Zai 1 (AAc9 (StT.ps s))),Zae (Zai 1 (AAe9 (StT.qs s))),Zae (Zai 2 (rowsR z13)),Zae (Zai 1 (digR (BlkT.pf x))),Zae (i64 (Zda (StT.tr s))),Zae (i64 (Zdc (StT.tr s))),Zae (i64 (Zdd (StT.tr s))),Zae (i64 (Zde (StT.tr s))),Zae (i64 (Zcp (StT.tr s)))]]= [stV s26]∧z27=anewS s26∧R (.tup [stV z27,Zae (i64 12)]) b) (R (.tup [stV z24,Zae (i64 0)]) b))) False))) (∃(l28:List Row) (x29:BlkT) (z30:List Row) (n31:Bool) (e32:Int), [Zae (Zai 2 (rowsR (StT.rows s))),bkV x]= [Zae (Zai 2 (rowsR l28)),bkV x29]∧((Zab l28≤1000∧∀(r:Row),r∈l28→Zab (Prod.snd r)≤1000)∧(z30,n31,e32)=recS l28 (BlkT.n x29) (BlkT.s x29) (BlkT.d x29))∧BIf (e32 !=(0:Int)) (∃(s33:StT) (z34:StT), [stV s]= [stV s33]∧z34=anewS s33∧R (.tup [stV z34,Zae (i64 e32)]) b) (BIf (decide (Zab (digR (BlkT.pf x))*8≤140737488355328)) (∃(l35:List Row) (z36:List Int) (e37:Bool), [Zae (Zai 2 (rowsR z30))]= [Zae (Zai 2 (rowsR l35))]∧(Zab l35≤9223372036854775807∧(z36,e37)=ACi9 l35)∧BIf (!e37) (R (.tup [Zbc [Zae (i64 (Zba (StT.no s))),Zae (i64 (Zbi (StT.no s))),Zae (u64 (Zbl (StT.no s))),Zae (i64 (Zbj (StT.no s))),Zae (Zai 1 (AAc9 (StT.ps s))),Zae (Zai 1 (AAe9 (StT.qs s))),Zae (Zai 2 (rowsR z30)),Zae (Zai 1 (digR (BlkT.pf x))),Zae (i64 (Zda (StT.tr s))),Zae (i64 (Zdc (StT.tr s))),Zae (i64 (Zdd (StT.tr s))),Zae (i64 (Zde (StT.tr s))),Zae (i64 (Zcp (StT.tr s)))],Zae (i64 0)]) b) (∃(s38:StT) (p39:List Int) (q40:List Int) (z41:StT) (e42:Int), [Zbc [Zae (i64 (Zba (StT.no s))),Zae (i64 (Zbi (StT.no s))),Zae (u64 (Zbl (StT.no s))),Zae (i64 (Zbj (StT.no s))),Zae (Zai 1 (AAc9 (StT.ps s))),Zae (Zai 1 (AAe9 (StT.qs s))),Zae (Zai 2 (rowsR z30)),Zae (Zai 1 (digR (BlkT.pf x))),Zae (i64 (Zda (StT.tr s))),Zae (i64 (Zdc (StT.tr s))),Zae (i64 (Zdd (StT.tr s))),Zae (i64 (Zde (StT.tr s))),Zae (i64 (Zcp (StT.tr s)))],Zae (Zai 1 (AAa9 z36)),Zae (Zai 1 (digR (BlkT.pf x)))]= [stV s38,Zae (Zai 1 (AAa9 p39)),Zae (Zai 1 (digR q40))]∧((Zab (StT.ps s38)≤9223372036854775807∧Zab q40≤1000000∧∀(x:List Int),x∈StT.qs s38→Zab x≤1000000)∧(z41,e42)=putT s38 p39 q40)∧BIf (e42 !=(0:Int)) (∃(s43:StT) (z44:StT), [Zbc [Zae (i64 (Zba (StT.no s))),Zae (i64 (Zbi (StT.no s))),Zae (u64 (Zbl (StT.no s))),Zae (i64 (Zbj (StT.no s))),Zae (Zai 1 (AAc9 (StT.ps s))),Zae (Zai 1 (AAe9 (StT.qs s))),Zae (Zai 2 (rowsR z30)),Zae (Zai 1 (digR (BlkT.pf x))),Zae (i64 (Zda (StT.tr s))),Zae (i64 (Zdc (StT.tr s))),Zae (i64 (Zdd (StT.tr s))),Zae (i64 (Zde (StT.tr s))),Zae (i64 (Zcp (StT.tr s)))]]= [stV s43]∧z44=anewS s43∧R (.tup [stV z44,Zae (i64 12)]) b) (R (.tup [stV z41,Zae (i64 0)]) b))) False))))))))):=by kernel_rfl
noncomputable def lpLe:Code:=sub [1,1,0,1,2,3] (code f66)
def tmLe (near:List (List Dv)) (p i:Int):List AV:= [.d (.sl 31 near), .bad, .bad, .ptr 0 0, .bad, .d (i64 p), .d (i64 i)]++Zag 38 .bad
abbrev Qz18 (v0:List (List Dv)) (v1:Int) (v2:Int):=Zae (Zai 31 v0)::Zaq::Zaq::Zbe 0 0::Zae (i64 (-1))::Zae (i64 v1)::Zae (i64 v2)::bds 38 []
theorem rLe (n:NotT) (near:List (List Dv)) (p i:Int):wpc prog ⟨[], [],wl,y,false⟩ 100 lpLe (tmLe near p i) [⟨noL n,false,false,0⟩] b (maskK 1 [0,3,4,5,6] K)=(BIf (decide (i<((Zab near:Nat):Int))) (BIf (true&&decide (0≤i)) (∃(x0:Int) (x1:Int) (x2:Int) (x3:Int) (x4:Int) (x5:Int) (x6:Int) (x7:Int) (x8:Int) (x9:Int) (x10:Int) (x11:Int) (xs12:List (List Dv)) (xs13:List (List Dv)) (xs14:List (List Dv)) (xs15:List (List Dv)) (b16:Bool) (xs17:List (List Dv)) (xs18:List (List Dv)) (xs19:List (List Dv)) (x20:Int) (x21:Int) (x22:Int) (x23:Int) (x24:Int) (x25:Int) (x26:Int) (x27:Int) (xs28:List (List Dv)) (xs29:List (List Dv)) (b30:Bool),near[Zam i]? =some [i64 x0,i64 x1,i64 x2,i64 x3,i64 x4,i64 x5,i64 x6,i64 x7,i64 x8,i64 x9,i64 x10,i64 x11,Zai 4 xs12,Zai 5 xs13,Zai 3 xs14,Zai 4 xs15,bo b16,Zai 8 xs17,Zai 8 xs18,Zai 1 xs19,i64 x20,i64 x21,u64 x22,i64 x23,i64 x24,i64 x25,i64 x26,i64 x27,Zai 1 xs28,Zai 1 xs29,bo b30]∧BIf (x20==Zba n&&(x21==Zbi n&&(x22==Zbl n&&(x23==Zbj n&&true)))) (BIf (decide (p<(0:Int))) (BIf (x20==Zba n&&(x21==Zbi n&&(x22==Zbl n&&(x23==Zbj n&&true)))) (BIf (decide (x24<(0:Int))) (K .ret (Qz18 near x24 i) [Blk.mk (noL n) false false 0] b) (K .normal (Zae (Zai 31 near)::Zaq::Zaq::Zbe 0 0::Zaq::Zae (i64 x24)::Zae (i64 (Zaa .i64 (i+1)))::bds 38 []) [Blk.mk (noL n) false false 0] b)) (K .normal (Zae (Zai 31 near)::Zaq::Zaq::Zbe 0 0::Zaq::Zae (i64 x24)::Zae (i64 (Zaa .i64 (i+1)))::bds 38 []) [Blk.mk (noL n) false false 0] b)) (BIf (decide (x24<p)) (BIf (x20==Zba n&&(x21==Zbi n&&(x22==Zbl n&&(x23==Zbj n&&true)))) (BIf (decide (x24<(0:Int))) (K .ret (Qz18 near x24 i) [Blk.mk (noL n) false false 0] b) (K .normal (Zae (Zai 31 near)::Zaq::Zaq::Zbe 0 0::Zaq::Zae (i64 x24)::Zae (i64 (Zaa .i64 (i+1)))::bds 38 []) [Blk.mk (noL n) false false 0] b)) (K .normal (Zae (Zai 31 near)::Zaq::Zaq::Zbe 0 0::Zaq::Zae (i64 x24)::Zae (i64 (Zaa .i64 (i+1)))::bds 38 []) [Blk.mk (noL n) false false 0] b)) (BIf (x20==Zba n&&(x21==Zbi n&&(x22==Zbl n&&(x23==Zbj n&&true)))) (BIf (decide (x24<(0:Int))) (K .ret (Qz18 near p i) [Blk.mk (noL n) false false 0] b) (K .normal (Zae (Zai 31 near)::Zaq::Zaq::Zbe 0 0::Zaq::Zae (i64 p)::Zae (i64 (Zaa .i64 (i+1)))::bds 38 []) [Blk.mk (noL n) false false 0] b)) (K .normal (Zae (Zai 31 near)::Zaq::Zaq::Zbe 0 0::Zaq::Zae (i64 p)::Zae (i64 (Zaa .i64 (i+1)))::bds 38 []) [Blk.mk (noL n) false false 0] b)))) (BIf (x20==Zba n&&(x21==Zbi n&&(x22==Zbl n&&(x23==Zbj n&&true)))) (BIf (decide (x24<(0:Int))) (K .ret (Qz18 near p i) [Blk.mk (noL n) false false 0] b) (K .normal (Zae (Zai 31 near)::Zaq::Zaq::Zbe 0 0::Zaq::Zae (i64 p)::Zae (i64 (Zaa .i64 (i+1)))::bds 38 []) [Blk.mk (noL n) false false 0] b)) (K .normal (Zae (Zai 31 near)::Zaq::Zaq::Zbe 0 0::Zaq::Zae (i64 p)::Zae (i64 (Zaa .i64 (i+1)))::bds 38 []) [Blk.mk (noL n) false false 0] b))) False) (K (Zcy 0) (Zae (Zai 31 near)::Zaq::Zaq::Zbe 0 0::Zaq::Zae (i64 p)::Zae (i64 i)::bds 38 []) [Blk.mk (noL n) false false 0] b)):=by kernel_rfl
theorem AZg9 (s:StT) (x:BlkT) (hs:AAt9 s) (hx:x.pf.length≤1000000):PCall prog 16 [stV s,bkV x] (.tup [stV (recvT s x).1, .d (i64 (recvT s x).2)]):=by
 refine Zck (n:=100) (u:=false) (fun _=>wlNo _) mixed CEx9 Zac (fun Ev=>AEr9 Ev) func16 (by rfl) (by rfl) fun Ev bb=> ?_
 rw [BSa9,AAd9,ABs9,AWl9]
 have hr:=BNz9 s.rows x.n x.s x.d
 have hl:=hs.2.2.1.1
 have ref:∀e:Int,e≠0→AAp9 s x=e→LeV (.tup [stV s, .d (i64 e)]) (.tup [stV (recvT s x).1, .d (i64 (recvT s x).2)]):=fun e he h=>by
   rw [recvT,if_pos (by rw [h];exact he),h];exact .rfl
 refine ⟨s,_,rfl,⟨hs,rfl⟩,Zaj (fun h=>ref 1 (by decide) (by rw [AAp9,if_pos (by rw [h];rfl)])) fun h1=>⟨x,_,rfl,rfl,Zaj (fun h=>ref 1 (by decide) (by rw [AAp9,if_pos (by rw [nbf (nbt h)];simp)])) fun h2=> ?_⟩⟩
 have h2:badB x=false:=nbt (nbf h2)
 have hb:¬(!ABp9 s||badB x)=true:=by rw [h1,h2];decide
 refine ⟨s,_,rfl,⟨hs,rfl⟩,Zaj (fun h=>ref 4 (by decide) (by rw [AAp9,if_neg hb,if_pos h])) fun k1=>⟨s,_,rfl,rfl,Zaj (fun h=>ref 10 (by decide) (by rw [AAp9,if_neg hb,if_neg (by rw [k1];decide),if_pos h])) fun k2=>Zaj (fun h=>ref 14 (by decide) ?_) fun k3=>Zaj (fun h=>ref 6 (by decide) ?_) fun k4=>Zaj (fun k5=>⟨_,_,_,rfl,⟨by omega,rfl⟩,Zaj (fun h=>ref 12 (by decide) ?_) fun k6=> ?_⟩) fun k5=> ?_⟩⟩
 · rw [AAp9,if_neg hb,if_neg (by rw [k1];decide),if_neg (by rw [k2];decide),if_pos (of_decide_eq_true h)]
 · rw [AAp9,if_neg hb,if_neg (by rw [k1];decide),if_neg (by rw [k2];decide),if_neg (of_decide_eq_false k3),if_pos (of_decide_eq_true h)]
 · rw [AAp9,if_neg hb,if_neg (by rw [k1];decide),if_neg (by rw [k2];decide),if_neg (of_decide_eq_false k3),if_neg (of_decide_eq_false k4),if_pos (by rw [k5,h];rfl)]
 · have gr:AAp9 s x=0:=by rw [AAp9,if_neg hb,if_neg (by rw [k1];decide),if_neg (by rw [k2];decide),if_neg (of_decide_eq_false k3),if_neg (of_decide_eq_false k4),if_neg (by rw [k6,Zdk];decide)]
   refine ⟨s.rows,x,(recS s.rows x.n x.s x.d).1,(recS s.rows x.n x.s x.d).2.1,(recS s.rows x.n x.s x.d).2.2,rfl,⟨hs.2.2.1,rfl⟩,Zaj (fun h=>⟨s,_,rfl,rfl, ?_⟩) fun g2=>Zbf (by rw [decide_eq_true_eq,AAn9];omega) ⟨(recS s.rows x.n x.s x.d).1,(ACi9 (recS s.rows x.n x.s x.d).1).1,(ACi9 (recS s.rows x.n x.s x.d).1).2,rfl,⟨by omega,rfl⟩,Zaj (fun h=> ?_) fun g3=>⟨AEx9 s x,_,x.pf,(putT (AEx9 s x) (ACi9 (recS s.rows x.n x.s x.d).1).1 x.pf).1,(putT (AEx9 s x) (ACi9 (recS s.rows x.n x.s x.d).1).1 x.pf).2,rfl,⟨⟨by have:=hs.1.1;show s.ps.length≤_;omega,hx,hs.2.1.2⟩,rfl⟩,Zaj (fun h=>⟨AEx9 s x,_,rfl,rfl, ?_⟩) fun g4=> ?_⟩⟩⟩
   · rw [recvT,if_neg (by rw [gr];simp),if_pos (by simpa using h)];exact .rfl
   all_goals have g2:(recS s.rows x.n x.s x.d).2.2=0:=by simpa using g2
   · rw [recvT,if_neg (by rw [gr];simp),if_neg (by rw [g2];simp),if_pos (nbt h)];exact .rfl
   all_goals have g3:=nbf g3
   · rw [recvT,if_neg (by rw [gr];simp),if_neg (by rw [g2];simp),if_neg (by rw [g3];simp),if_pos (by simpa using h)];exact .rfl
   · rw [recvT,if_neg (by rw [gr];simp),if_neg (by rw [g2];simp),if_neg (by rw [g3];simp),if_neg (by simpa using g4)];exact .rfl
 · have gr:AAp9 s x=0:=by rw [AAp9,if_neg hb,if_neg (by rw [k1];decide),if_neg (by rw [k2];decide),if_neg (of_decide_eq_false k3),if_neg (of_decide_eq_false k4),if_neg (by rw [k5,Bool.false_and];decide)]
   refine ⟨s.rows,x,(recS s.rows x.n x.s x.d).1,(recS s.rows x.n x.s x.d).2.1,(recS s.rows x.n x.s x.d).2.2,rfl,⟨hs.2.2.1,rfl⟩,Zaj (fun h=>⟨s,_,rfl,rfl, ?_⟩) fun g2=>Zbf (by rw [decide_eq_true_eq,AAn9];omega) ⟨(recS s.rows x.n x.s x.d).1,(ACi9 (recS s.rows x.n x.s x.d).1).1,(ACi9 (recS s.rows x.n x.s x.d).1).2,rfl,⟨by omega,rfl⟩,Zaj (fun h=> ?_) fun g3=>⟨AEx9 s x,_,x.pf,(putT (AEx9 s x) (ACi9 (recS s.rows x.n x.s x.d).1).1 x.pf).1,(putT (AEx9 s x) (ACi9 (recS s.rows x.n x.s x.d).1).1 x.pf).2,rfl,⟨⟨by have:=hs.1.1;show s.ps.length≤_;omega,hx,hs.2.1.2⟩,rfl⟩,Zaj (fun h=>⟨AEx9 s x,_,rfl,rfl, ?_⟩) fun g4=> ?_⟩⟩⟩
   · rw [recvT,if_neg (by rw [gr];simp),if_pos (by simpa using h)];exact .rfl
   all_goals have g2:(recS s.rows x.n x.s x.d).2.2=0:=by simpa using g2
   · rw [recvT,if_neg (by rw [gr];simp),if_neg (by rw [g2];simp),if_pos (nbt h)];exact .rfl
   all_goals have g3:=nbf g3
   · rw [recvT,if_neg (by rw [gr];simp),if_neg (by rw [g2];simp),if_neg (by rw [g3];simp),if_pos (by simpa using h)];exact .rfl
   · rw [recvT,if_neg (by rw [gr];simp),if_neg (by rw [g2];simp),if_neg (by rw [g3];simp),if_neg (by simpa using g4)];exact .rfl
def ASx9 (args:List AV) (K:AV→Prop):Prop:=∃(s:StT) (x:BlkT) (z:StT) (e:Int),args= [stV s,bkV x]∧((AAt9 s∧x.pf.length≤1000000)∧(z,e)=recvT s x)∧K (.tup [stV z, .d (i64 e)])
theorem ASw9:∀args K,ASx9 args K→∃x,PCall prog 16 args x∧K x:=by
 rintro _ K ⟨s,x,z,e,rfl,⟨⟨h1,h2⟩,he⟩,h⟩
 have:=AZg9 s x h1 h2
 rw [←he] at this
 exact ⟨_,this,h⟩
def AFk9:List Int→Int→Int
 | [],p=>p
 |x::l,p=>if x<0 then -1 else AFk9 l (if p<0∨x<p then x else p)
def noB (n:NotT):Blk:=⟨noL n,false,false,0⟩
def lackN (n:NotT) (l:List NearT):List Int:=(l.filter fun x=>eqN x.no n).map (·.pg)
theorem wrLe {Ev:Env prog} {b:Ev.β} {Q:Exit→St Ev.β→Prop} (n:NotT) (l:List NearT) (hl:l.length≤1000000):∀(rest:List NearT) (k:Nat) (p:Int),l.drop k=rest→
   (∀i:Int,Q (.exit 0) ⟨tmLe (nearR l) (AFk9 (lackN n rest) p) i, [noB n],b⟩)→(AFk9 (lackN n rest) p= -1→∀q i:Int,Q .ret ⟨(tmLe (nearR l) q i).set 4 (.d (i64 (-1))), [noB n],b⟩)→WR Ev lpLe (rest.length+1) ⟨tmLe (nearR l) p k, [noB n],b⟩ Q
 | [],k,p,hd,h,h'=>by
   have hk:=ABm9 hd
   refine WR.ofMask [0,3,4,5,6] mixed (CX.Ok.of (u:=false) Zah Zac) (k:=100) ?_
   refine Eq.mpr (rLe _ _ _ _ n (nearR l) p k) ?_
   rw [AKm9]
   exact Zct (by simp;omega) (h k)
 | x::rest,k,p,hd,h,h'=>by
   obtain ⟨hk,h2,hd'⟩:=AAw9 hd
   refine WR.ofMask [0,3,4,5,6] mixed (CX.Ok.of (u:=false) Zah Zac) (k:=100) ?_
   refine Eq.mpr (rLe _ _ _ _ n (nearR l) p k) ?_
   have e1:Zaa Zap ((k:Int)+1)=((k+1:Nat):Int):=wrapN (by omega)
   rw [e1,Zas,AKm9]
   refine Zbf (by simp;omega) (Zbf (by simp) ⟨x.x0,x.x1,x.x2,x.x3,x.x4,x.x5,x.x6,x.x7,x.x8,x.x9,x.x10,x.x11,x.s12,x.s13,x.s14,x.s15,x.b16,x.s17,x.s18,x.s19,x.no.v,x.no.n,x.no.r,x.no.t,x.pg,x.x25,x.x26,x.x27,x.s28,x.s29,x.b30,BOj9 hd, ?_⟩)
   have he:(x.no.v==n.v&&(x.no.n==n.n&&(x.no.r==n.r&&(x.no.t==n.t&&true))))=eqN x.no n:=by simp only [eqN,Bool.and_true]
   rw [he]
   cases hee:eqN x.no n<;>simp only [AVd9,APx9]
   · have hL:lackN n (x::rest)=lackN n rest:=by simp [lackN,hee]
     rw [hL] at h h'
     exact wrLe n l hl rest (k+1) p hd' h h'
   · have hL:lackN n (x::rest)=x.pg::lackN n rest:=by simp [lackN,hee]
     rw [hL] at h h'
     have neg:x.pg<0→AFk9 (x.pg::lackN n rest) p= -1:=fun g=>by rw [AFk9,if_pos g]
     have pos:¬x.pg<0→AFk9 (x.pg::lackN n rest) p=AFk9 (lackN n rest) (if p<0∨x.pg<p then x.pg else p):=fun g=>by rw [AFk9,if_neg g]
     refine Zaj (fun g1=>Zaj (fun g=>h' (neg (of_decide_eq_true g)) _ _) fun g=> ?_) fun g1=>Zaj (fun g2=>Zaj (fun g=>h' (neg (of_decide_eq_true g)) _ _) fun g=> ?_) fun g2=>Zaj (fun g=>h' (neg (of_decide_eq_true g)) _ _) fun g=> ?_
     all_goals
       have g:=of_decide_eq_false g
       rw [pos g] at h h'
     · rw [if_pos (.inl (of_decide_eq_true g1))] at h h'
       exact wrLe n l hl rest (k+1) x.pg hd' h h'
     · rw [if_pos (.inr (of_decide_eq_true g2))] at h h'
       exact wrLe n l hl rest (k+1) x.pg hd' h h'
     · rw [if_neg (by have:=of_decide_eq_false g1;have:=of_decide_eq_false g2;omega)] at h h'
       exact wrLe n l hl rest (k+1) p hd' h h'
def wlLe {β:Type}:WLT β:=fun c tm hp b K=>∃(n:NotT) (l:List NearT) (p z:Int),c= .loop lpLe∧ABb9 [0,3,5,6] 0 tm=tmLe (nearR l) p 0∧hp= [noB n]∧(l.length≤1000000∧z=AFk9 (lackN n l) p)∧(∀i:Int,K (.exit 0) (tmLe (nearR l) z i) [noB n] b)∧(z= -1→∀q i:Int,K .ret ((tmLe (nearR l) q i).set 4 (.d (i64 (-1)))) [noB n] b)
theorem BXw9 {Ev:Env prog} (c:Code) (tm:List AV) (hp:List Blk) (b:Ev.β) (K:Exit→List AV→List Blk→Ev.β→Prop) (h:wlLe c tm hp b K):W Ev c ⟨tm,hp,b⟩ (fun e s=>K e s.tm s.hp s.b):=by
 obtain ⟨n,l,p,z,rfl,htm,rfl,⟨hl,rfl⟩,hK,hK'⟩:=h
 refine W.cast (htm▸AAg9 _ tm 0) (Zbt _) ?_
 exact W.rounds (wrLe (Q:=fun e s=>K e s.tm s.hp s.b) n l hl l 0 p rfl hK hK')
theorem BUh9 (n:NotT) (near:List (List Dv)):wpFn prog ⟨[], [],wlLe,y,false⟩ 100 f66 [.d (.sl 31 near),noV n] b R=(∃(n0:NotT) (l1:List NearT) (p2:Int) (z3:Int),Zax lpLe=Zax lpLe∧(Zae (Zai 31 near)::Zaq::Zaq::Zbe 0 0::Zaq::Zae (i64 (-1))::Zae (i64 0)::bds 38 [])=(Zae (Zai 31 (nearR l1))::Zaq::Zaq::Zbe 0 0::Zaq::Zae (i64 p2)::Zae (i64 0)::bds 38 [])∧ [Blk.mk (noL n) false false 0]= [Blk.mk (noL n0) false false 0]∧(Zab l1≤1000000∧z3=AFk9 (lackN n0 l1) p2)∧(∀(i:Int),R (.d (i64 z3)) b)∧(z3=(-1:Int)→∀(q i:Int),R (.d (i64 (-1))) b)):=by kernel_rfl
theorem CBe9 (n:NotT) (l:List NearT) (hl:l.length≤1000000):PCall prog 66 [.d (.sl 31 (nearR l)),noV n] (.d (i64 (AFk9 (lackN n l) (-1)))):=by
 refine Zcd (n:=100) (u:=false) (fun _=>wlLe) mixed Zah Zac (fun Ev=>BXw9) func66 (by rfl) (by rfl) fun Ev bb=> ?_
 rw [BUh9]
 exact ⟨n,l, -1,_,rfl,rfl,rfl,⟨hl,rfl⟩,fun i=>rfl,fun h q i=>by rw [h]⟩
def CDy9 (args:List AV) (K:AV→Prop):Prop:=∃(n:NotT) (l:List NearT) (z:Int),args= [.d (.sl 31 (nearR l)),noV n]∧(l.length≤1000000∧z=AFk9 (lackN n l) (-1))∧K (.d (i64 z))
theorem BMn9:∀args K,CDy9 args K→∃x,PCall prog 66 args x∧K x:=by
 rintro _ K ⟨n,l,_,rfl,⟨hl,rfl⟩,h⟩;exact ⟨_,CBe9 n l hl,h⟩
theorem CAw9 (p:List Int) (n s:Int) (ho:encOk p n s=true):PCall prog 67 [.d (.sl 1 (AAa9 p)), .d (i64 n), .d (i64 s)] (.tup [.agg [.d (i64 n), .d (i64 s), .d (.sl 1 (AAa9 (encS p s))),nilV], .d (i64 0)]):=by
 refine Zck (n:=100) (u:=false) (fun _=>wlEr) mixed BNf9 Zac (fun Ev=>BXy9) func67 (by rfl) (by rfl) fun Ev bb=> ?_
 rw [CCz9,AAh9]
 simp only [encOk,pageS,Zan,decide_eq_true_eq] at ho
 obtain ⟨⟨h2,h3,h4⟩,h1⟩:=ho
 obtain ⟨s0,s1⟩:=ACq9 h1
 refine ⟨s,rfl,Zct (by rw [h1];rfl) (Zct (by simp [h2]) (Zct (by simp;omega) (Zct (by simp;omega) ⟨s,setS s,rfl,rfl,p,n,s,setS s,_,rfl,rfl,rfl,⟨h2,by omega,by omega,rfl⟩,fun v=> ?_⟩)))⟩
 rw [ASg9 h1]
 exact .rfl
def CDr9 (args:List AV) (K:AV→Prop):Prop:=∃(p:List Int) (n s:Int) (d:List Int),args= [.d (.sl 1 (AAa9 p)), .d (i64 n), .d (i64 s)]∧(encOk p n s=true∧d=encS p s)∧K (.tup [.agg [.d (i64 n), .d (i64 s), .d (.sl 1 (AAa9 d)),nilV], .d (i64 0)])
theorem BMh9:∀args K,CDr9 args K→∃x,PCall prog 67 args x∧K x:=by
 rintro _ K ⟨p,n,s,d,rfl,⟨h1,rfl⟩,h⟩;exact ⟨_,CAw9 p n s h1,h⟩
def TRs2:List (Nat×(List AV→(AV→Prop)→Prop)):= [(23,APu9),(35,AXu9),(26,ATa9),(65,CDk9),(66,CDy9),(67,CDr9)]
theorem CEw9:AAf9 prog TRs2:=Zaf AJm9 (Zaf AMk9 (Zaf AIu9 (Zaf BMb9 (Zaf BMn9 (Zaf BMh9 Zah)))))
theorem BBq9 (s:StT) (l:List NearT) (f:Int):wpFn prog ⟨TRs2, [],wl,y,false⟩ 100 f18 [stV s, .d (.sl 31 (nearR l)), .d (i64 f)] b R=(∃(s0:StT) (z1:Bool), [stV s]= [stV s0]∧((AAt9 s0)∧z1=ABp9 s0)∧BIf (!z1) (R (.tup [stV s,Zbc Qz7,Zae (bo false)]) b) (∃(s2:StT) (z3:Bool), [stV s]= [stV s2]∧((AAt9 s2)∧z3=AEz9 s2)∧BIf z3 (R (.tup [stV s,Zbc Qz7,Zae (bo false)]) b) (∃(n4:Int) (z5:Bool), [Zae (i64 f)]= [Zae (i64 n4)]∧z5=ABn9 n4∧BIf (!z5) (R (.tup [stV s,Zbc Qz7,Zae (bo false)]) b) (∃(t6:TrT) (f7:Int) (z8:TrT) (e9:Bool), [Zbc (trL (StT.tr s)),Zae (i64 f)]= [trV t6,Zae (i64 f7)]∧(z8,e9)=tickT t6 f7∧∃(n10:NotT) (l11:List NearT) (z12:Int), [Zae (Zai 31 (nearR l)),noV (StT.no s)]= [Zae (Zai 31 (nearR l11)),noV n10]∧(Zab l11≤1000000∧z12=AFk9 (lackN n10 l11) (-1:Int))∧BIf (!e9) (R (.tup [Zbc (Qz2 s z8),Zbc Qz7,Zae (bo false)]) b) (BIf (decide (z12<(0:Int))) (R (.tup [Zbc (Qz2 s z8),Zbc Qz7,Zae (bo false)]) b) (BIf (decide (z12≥((Zab (AAc9 (StT.ps s)):Nat):Int))) (R (.tup [Zbc (Qz2 s z8),Zbc Qz7,Zae (bo false)]) b) (BIf (true&&decide (0≤z12)) (∃(xs13:List (List Dv)),(AAc9 (StT.ps s))[Zam z12]? =some [Zai 1 xs13]∧∃(p16:List Int) (n17:Int) (s18:Int) (d19:List Int), [Zae (Zai 1 xs13),Zae (i64 z12),Zae (i64 (Zdv (Zaa .i64 (Zaa .i64 ((64:Int)*f)+Zdv (Zcp z8) (64:Int))) (1000000001:Int)))]=(Qz49 p16 n17 s18)∧(encOk p16 n17 s18=true∧d19=encS p16 s18)∧BIf (true&&decide (0≤z12)) (∃(xs20:List (List Dv)),(AAe9 (StT.qs s))[Zam z12]? =some [Zai 1 xs20]∧BIf (decide (Zab xs20*8≤140737488355328)) (R (.tup [Zbc (Qz2 s z8),Zbc [Zae (i64 n17),Zae (i64 s18),Zae (Zai 1 (AAa9 d19)),Zae (Zai 1 xs20)],Zae (bo true)]) b) False) False) False))))))):=by kernel_rfl
theorem BOl9 (p x:Int):minS p x≤p∧minS p x≤x∧(minS p x=p∨minS p x=x):=by unfold minS;split<;>omega
theorem AWo9:∀(l:List Int) (p:Int),AEy9 l p≤p
 | [],p=>Int.le_refl _
 |x::l,p=>Int.le_trans (AWo9 l (minS p x)) (BOl9 p x).1
theorem APl9 (n:Int) (hn:0≤n):∀(l:List Int) (p q:Int),(q= -1∧p=n)∨(0≤q∧p=min n q)→
   ((AEy9 l p<0∨AEy9 l p≥n)↔(AFk9 l q<0∨AFk9 l q≥n))∧(¬(AFk9 l q<0∨AFk9 l q≥n)→AEy9 l p=AFk9 l q)
 | [],p,q,h=>by simp only [AEy9,AFk9,List.foldl_nil];omega
 | x::l,p,q,h=>by
   have hm:=BOl9 p x
   have hle:=AWo9 l (minS p x)
   rw [show AEy9 (x::l) p=AEy9 l (minS p x) from rfl,AFk9]
   by_cases hx:x<0
   · rw [if_pos hx];omega
   · rw [if_neg hx]
     by_cases hq:q<0∨x<q
     · rw [if_pos hq]
       exact APl9 n hn l _ _ (.inr ⟨by omega,by omega⟩)
     · rw [if_neg hq]
       exact APl9 n hn l _ _ (.inr ⟨by omega,by omega⟩)
theorem BJr9 (s:StT) (l:List NearT) (f:Int) (hs:AAt9 s) (hl:l.length≤1000000):PCall prog 18 [stV s, .d (.sl 31 (nearR l)), .d (i64 f)] (.tup [stV (ACb9 s l f).1,bkV (ACb9 s l f).2.1, .d (bo (ACb9 s l f).2.2)]):=by
 refine Zck (n:=100) (u:=false) (fun _=>wlNo _) mixed CEw9 Zac (fun Ev=>AEr9 Ev) func18 (by rfl) (by rfl) fun Ev bb=> ?_
 rw [BBq9]
 have bad:AEc9 s f=false→LeV (.tup [stV s,Zbc [Zae (i64 0),Zae (i64 0),Zae (Zfa (Zbp none 0 0)),Zae (Zfa (Zbp none 0 0))], .d (bo false)]) (.tup [stV (ACb9 s l f).1,bkV (ACb9 s l f).2.1, .d (bo (ACb9 s l f).2.2)]):=fun h=>by
   rw [ACb9,if_pos h];exact zbLe _ _
 refine ⟨s,_,rfl,⟨hs,rfl⟩,Zaj (fun h=>bad (by rw [AEc9,nbt h];rfl)) fun g1=>⟨s,_,rfl,⟨hs,rfl⟩,Zaj (fun h=>bad (by rw [AEc9,h];simp)) fun g2=>⟨_,_,rfl,rfl,Zaj (fun h=>bad (by rw [AEc9,nbt h,Zdk])) fun g3=> ?_⟩⟩⟩
 have g3:=nbf g3
 have hf:=ACg9.1 g3
 have hv:=nbf g1
 have hok:¬AEc9 s f=false:=by rw [AEc9,hv,g2,g3];decide
 obtain ⟨a1,a2,a3,a4,a5,a6⟩:=AGy9 hv g2
 obtain ⟨b1,b2,b3,b4,b5,b6⟩:=AOw9 a1
 have hsd:=(ABh9.1 a6).2.2.1
 have hrel:=APl9 s.ps.length (by omega) (lackP s l) s.ps.length (-1) (.inl ⟨rfl,rfl⟩)
 refine ⟨s.tr,f,(tickT s.tr f).1,(tickT s.tr f).2,rfl,rfl,s.no,l,AFk9 (lackP s l) (-1),rfl,⟨hl,rfl⟩,Zaj (fun h=> ?_) fun g5=>Zaj (fun h=> ?_) fun g6=>Zaj (fun h=> ?_) fun g7=> ?_⟩
 · rw [ACb9,if_neg hok,if_pos (.inl (nbt h))];exact zbLe _ _
 · rw [ACb9,if_neg hok,if_pos (.inr (hrel.1.2 (.inl (of_decide_eq_true h))))];exact zbLe _ _
 · rw [ACb9,if_neg hok,if_pos (.inr (hrel.1.2 (.inr (by have:=of_decide_eq_true h;rw [AAd9] at this;exact this))))];exact zbLe _ _
 have g5:=nbf g5
 have g6:=of_decide_eq_false g6
 have g7:=of_decide_eq_false g7
 rw [AAd9] at g7
 have heq:=hrel.2 (by omega)
 rw [←heq] at g6 g7 ⊢
 generalize hp:AEy9 (lackP s l) (s.ps.length:Int)=p at g6 g7 ⊢
 have hpl:p.toNat<s.ps.length:=by omega
 have hpq:p.toNat<s.qs.length:=by omega
 have hseed:Zdv (Zaa Zap (Zaa Zap (64*f)+Zdv (tickT s.tr f).1.sd 64)) 1000000001=seedF f s.tr.sd:=by
   rw [BNv9,Int.tmod_eq_emod_of_nonneg (a:=s.tr.sd) hsd.1,wr64 (x:=64*f) (by omega) (by omega),wr64 (by omega) (by omega),Int.tmod_eq_emod_of_nonneg (by omega)];rfl
 have hsr:0≤seedF f s.tr.sd∧seedF f s.tr.sd≤1000000000:=by unfold seedF;omega
 refine Zbf (by simp;omega) ⟨AAa9 (nthL s.ps p.toNat),AHv9 hpl,nthL s.ps p.toNat,p,seedF f s.tr.sd,_,by rw [hseed],⟨?_,rfl⟩,Zbf (by simp;omega) ⟨digR (nthL s.qs p.toNat),AHc9 hpq,Zbf (by rw [decide_eq_true_eq,AAn9];have:=hs.2.1.2 _ (ACo9 hpq);omega) ?_⟩⟩
 · rw [encOk,b5 _ (ACo9 hpl),AEd9.2 hsr,Bool.and_true]
   simp [pageS];omega
 · rw [ACb9,if_neg hok,hp,if_neg (by rw [g5];simp;omega)];exact .rfl
def BGi9 (args:List AV) (K:AV→Prop):Prop:=∃(s:StT) (l:List NearT) (f:Int) (z:StT) (x:BlkT) (e:Bool),args= [stV s, .d (.sl 31 (nearR l)), .d (i64 f)]∧((AAt9 s∧l.length≤1000000)∧(z,x,e)=ACb9 s l f)∧K (.tup [stV z,bkV x, .d (bo e)])
theorem AZv9:∀args K,BGi9 args K→∃x,PCall prog 18 args x∧K x:=by
 rintro _ K ⟨s,l,f,z,x,e,rfl,⟨⟨h1,h2⟩,he⟩,h⟩
 have:=BJr9 s l f h1 h2
 rw [←he] at this
 exact ⟨_,this,h⟩
set_option maxHeartbeats 0
set_option maxRecDepth 100000
set_option maxRecDepth 20000
def hp0:List Int:=padS (smp.take 256)
def hp1:List Int:=padS (smp.drop 256)
def hR:Int:=(rootS [hp0,hp1]).1
def hN:NotT:=⟨3,300,hR,50⟩
def hs0:SprT:=⟨hN, [], [], [], [],0,0,0,0,0⟩
def hs1:SprT:=⟨hN, [hp0], [[leafS hp1]], [], [],0,0,0,0,0⟩
def hs2:SprT:=⟨hN, [hp0,hp1], [[leafS hp1], [leafS hp0]], [], [],0,0,0,0,0⟩
def hX:Int:=Zaa IntKind.u64 ((BitVec.toNat (Zar 64 (leafS hp0) ^^^ Zar 64 (1:Int)):Nat):Int)
set_option maxRecDepth 100000
set_option maxRecDepth 20000
theorem AQr9:∀(n:Nat) (p:List Int),p.length≤n→∃z,((ADd9 256 n p).map padS).flatten=p++Zag z 0
 | 0,p,h=>by
   have:p= []:=List.length_eq_zero_iff.1 (by omega)
   subst this;exact ⟨0,rfl⟩
 | n+1,p,h=>by
   rw [ADd9]
   cases hp:p with
   |nil=>exact ⟨0,rfl⟩
   | cons a l=>
     rw [if_neg (by simp),←hp,List.map_cons,List.flatten_cons]
     have hl:1≤p.length:=by rw [hp];simp
     obtain ⟨z,hz⟩:=AQr9 n (p.drop 256) (by simp;omega)
     rw [hz]
     by_cases h256:256≤p.length
     · refine ⟨z, ?_⟩
       have:padS (p.take 256)=p.take 256:=by
         have e:(p.take 256).length=256:=by simp;omega
         rw [padS,e];simp
       rw [this,←List.append_assoc,List.take_append_drop]
     · refine ⟨(256 - p.length)+z, ?_⟩
       rw [List.take_of_length_le (by omega),List.drop_of_length_le (by omega),List.nil_append,padS,List.append_assoc,List.replicate_append_replicate]
theorem BNa9 (z:Nat):(Zag z (0:Int)).all (· ==0)=true:=List.all_eq_true.2 fun x hx=>by rw [(List.mem_replicate.1 hx).2];rfl
theorem AVv9 {p:List Int}:AAx9 (ADn9 p)=false:=by
 rw [AAx9,List.any_eq_false]
 intro q hq
 rw [ADr9] at hq
 obtain ⟨i,_,rfl⟩:=Zbo.1 hq
 have:=APf9 (APc9 p i)
 simp;omega
theorem AKj9 (p:List Int):(ADn9 p).length=(p.length+255) / 256:=by rw [ADr9];simp
theorem BEj9 {p:List Int} {n:Nat} (hn:ACl9 (n:Int)=true) (hc:(n+255) / 256=(p.length+255) / 256):
   joinS (ADn9 p) n=if (p.drop n).all (· ==0) then ((p++Zag (n - p.length) 0).take n,0) else ([],12):=by
 obtain ⟨k,hk,h1,h2⟩:=AFe9 hn
 have hk:n=k:=by omega
 subst hk
 obtain ⟨z,hz⟩:=AQr9 p.length p (Nat.le_refl _)
 have hz:(ADn9 p).flatten=p++Zag z 0:=hz
 have hg:((!ACl9 (n:Int))||((((ADn9 p).length:Int) !=ABj9 n)||AAx9 (ADn9 p)))=false:=by
   rw [hn,AVv9,AKj9,AGi9 (by omega),hc];simp
 have hs:=AOu9 (ps:=ADn9 p) AVv9
 rw [hz,AKj9] at hs
 rw [joinS,if_neg (by rw [hg];simp),Zas,hz]
 simp only [List.length_append,List.length_replicate] at hs
 have hd:(p++Zag z 0).drop n=p.drop n++Zag (z - (n - p.length)) 0:=by
   rw [List.drop_append,List.drop_replicate]
 have hall:((p++Zag z 0).drop n).all (· ==0)=(p.drop n).all (· ==0):=by
   rw [hd,List.all_append,BNa9,Bool.and_true]
 have ht:(p++Zag z 0).take n=(p++Zag (n - p.length) 0).take n:=by
   rw [List.take_append,List.take_append,List.take_replicate,List.take_replicate]
   congr 2;omega
 by_cases h:(p.drop n).all (· ==0)=true
 · rw [if_neg (by rw [AVn9,hall,h];simp),if_pos h,ht]
 · rw [if_pos (by rw [AVn9,hall];simpa using h),if_neg h]
set_option maxRecDepth 100000
set_option maxRecDepth 20000
def rootF:Nat→List Int→Int
 |0,now=>nth now 0
 |n+1,now=>if 1<now.length then rootF n (nextL now) else nth now 0
theorem AWr9:∀(n:Nat) (now:List Int) (v:Int),lastS (ADa9 n now) v=rootF n now
 |0,now,v=>rfl
 | n+1,now,v=>by
   rw [ADa9,rootF]
   split
   · exact AWr9 n (nextL now) _
   · rfl
theorem ALv9 (a:Int) (l:List Int) (i:Nat):nth (a::l) (i+1)=nth l i:=by simp [nth]
theorem BDt9:∀l:List Int,(nextL l).length=(l.length+1) / 2
 | []=>rfl
 | [a]=>by simp [nextL]
 | a::c::l=>by
   have:=BDt9 l
   simp only [nextL,List.length_cons];omega
theorem BDs9:∀(l:List Int) (k:Nat),k<l.length→nth (nextL l) (k / 2)=if sibN k<l.length then (if k % 2=1 then pairS (nth l (sibN k)) (nth l k) else pairS (nth l k) (nth l (sibN k))) else nth l k
 | [],k,h=>by simp at h
 | [a],k,h=>by
   have:k=0:=by simp at h;omega
   subst this
   rfl
 | a::c::l,0,h=>by
   rw [show sibN 0=1 from rfl,if_pos (by simp),if_neg (by decide)];rfl
 | a::c::l,1,h=>by
   rw [show sibN 1=0 from rfl,if_pos (by simp),if_pos (by decide)];rfl
 | a::c::l,k+2,h=>by
   have ih:=BDs9 l k (by simp at h;omega)
   have e1:(k+2) / 2=k / 2+1:=by omega
   have e2:sibN (k+2)=sibN k+2:=by unfold sibN;split<;>split<;>omega
   have e3:(k+2) % 2=k % 2:=by omega
   rw [e1,e2,e3,nextL,ALv9,ih]
   have e4:nth (a::c::l) (sibN k+2)=nth l (sibN k):=by rw [show sibN k+2=(sibN k+1)+1 from rfl,ALv9,ALv9]
   have e5:nth (a::c::l) (k+2)=nth l k:=by rw [show k+2=(k+1)+1 from rfl,ALv9,ALv9]
   rw [e4,e5]
   by_cases hs:sibN k<l.length
   · rw [if_pos hs,if_pos (show sibN k+2<(a::c::l).length by simp only [List.length_cons];omega)]
   · rw [if_neg hs,if_neg (show ¬sibN k+2<(a::c::l).length by simp only [List.length_cons];omega)]
theorem AOd9:∀(n w k:Nat) (now:List Int),now.length=w→k<w→w≤n+1→AEa9 (walkP n w k) (AFc9 (ADa9 n now) k) (nth now k)=some ([],rootF n now)
 | 0,w,k,now,hw,hk,hn=>by
   have:k=0:=by omega
   subst this
   rw [walkP,ADa9,AFc9,show sibN 0=1 from rfl,if_neg (by omega),AFc9];rfl
 | n+1,w,k,now,hw,hk,hn=>by
   rw [walkP,ADa9,rootF,hw]
   by_cases h1:1<w
   · rw [if_pos h1,if_pos h1,if_pos h1,AFc9,hw]
     have hnx:=BDs9 now k (by omega)
     have hln:=BDt9 now
     have ih:=AOd9 n ((w+1) / 2) (k / 2) (nextL now) (by rw [hln,hw]) (by omega) (by omega)
     rw [hw] at hnx
     by_cases hs:sibN k<w
     · rw [if_pos hs] at hnx ⊢
       rw [decide_eq_true hs,List.singleton_append]
       by_cases hodd:k % 2=1
       · rw [if_pos hodd] at hnx
         rw [show (k % 2==1)=true by simp [hodd],APq9,←hnx];exact ih
       · rw [if_neg hodd] at hnx
         rw [show (k % 2==1)=false by simp;omega,APr9,←hnx];exact ih
     · rw [if_neg hs] at hnx ⊢
       rw [decide_eq_false hs,List.nil_append,APs9,←hnx];exact ih
   · rw [if_neg h1,if_neg h1,if_neg h1,AFc9,AFc9,List.append_nil]
     have:k=0:=by omega
     subst this
     rw [hw,show sibN 0=1 from rfl,if_neg (by omega)];rfl
theorem CBx9 {l:List (List Int)} {i:Nat} (h:i<l.length):nth (l.map leafS) i=leafS (nthL l i):=by simp [nth,nthL,h]
theorem ASl9 {ps:List (List Int)} (h:areS ps=true) {i:Nat} (hi:i<ps.length):AEa9 (walkS ps.length i) (AFc9 (ADj9 ps) i) (leafS (nthL ps i))=some ([],(rootS ps).1):=by
 rw [rootS,if_pos h,ADj9,AWr9,walkS,List.length_map,←CBx9 hi]
 exact AOd9 ps.length ps.length i (ps.map leafS) (by simp) hi (by omega)
theorem BFq9 {r:Int} {w i:Nat} {p q:List Int} (h1:1≤w) (h2:w≤16) (h3:i<w) (h4:p.length≤256):ACw9 r w i p q=topS r (AEa9 (walkS w i) q (leafS p)):=by
 rw [ACw9,Zas,Zas,decide_eq_false (by omega),decide_eq_false (by omega),decide_eq_false (by omega),decide_eq_false (by omega),decide_eq_false (by omega)];rfl
theorem AUf9 {ps:List (List Int)} {i:Nat} (h:areS ps=true) (hi:i<ps.length):(AFc9 (ADj9 ps) i).length≤16:=by
 have hl:ps.length≤16:=(ATh9 h).1
 have hF:=AFx9 ps.length ps.length i (AFc9 (ADj9 ps) i) (leafS (nthL ps i))
 have hc:=ASl9 h hi
 rw [walkS] at hc
 have:=BDz9 ps.length ps.length i
 rcases Nat.lt_or_ge (AFc9 (ADj9 ps) i).length (lenW ps.length ps.length i) with h1|h1
 · omega
 · obtain ⟨z,hz⟩:=hF.2 h1
   rw [hz] at hc
   simp only [Option.some.injEq,Prod.mk.injEq,List.drop_eq_nil_iff] at hc
   omega
def IsB (x:Int):Prop:=0≤x∧x<256
theorem AYs9 {p:List Int} (h:∀x∈p,IsB x):∀q∈ADn9 p,∀x∈q,IsB x:=by
 intro q hq x hx
 rw [ADr9] at hq
 obtain ⟨i,_,rfl⟩:=Zbo.1 hq
 rw [padS] at hx
 rcases List.mem_append.1 hx with hx|hx
 · exact h x (List.mem_of_mem_drop (List.mem_of_mem_take hx))
 · rw [(List.mem_replicate.1 hx).2];exact ⟨by decide,by decide⟩
section
set_option maxRecDepth 100000
end
set_option maxRecDepth 20000
section
set_option maxRecDepth 100000
end
set_option maxRecDepth 20000
theorem BPw9 (s z:SprT) (h:z.no=s.no):∀(ps qs:List (List Int)) (k:Nat),allP z k ps qs=allP s k ps qs
 | [],qs,k=>by rw [allP,allP]<;>(intros;simp_all)
 |p::ps, [],k=>by rw [allP,allP]<;>(intros;simp_all)
 |p::ps,q::qs,k=>by rw [allP,allP,BPw9 s z h ps qs,ABl9,ABl9,h]
theorem BHq9 (s:SprT) (p q:List Int):∀(ps qs:List (List Int)) (k:Nat),ps.length=qs.length→allP s k (ps++ [p]) (qs++ [q])=(allP s k ps qs&&ABl9 s ((k+ps.length:Nat):Int) p q)
 | [], [],k,h=>by
   show (ABl9 s k p q&&allP s (k+1) [] [])=_
   rw [show allP s (k+1) [] []=true from rfl,show allP s k [] []=true from rfl,Bool.and_true,Bool.true_and];rfl
 | [],q::qs,k,h=>by simp at h
 |p::ps, [],k,h=>by simp at h
 | a::ps,c::qs,k,h=>by
   show (ABl9 s k a c&&allP s (k+1) (ps++ [p]) (qs++ [q]))=((ABl9 s k a c&&allP s (k+1) ps qs)&&_)
   rw [BHq9 s p q ps qs (k+1) (by simpa using h),Bool.and_assoc]
   congr 3
   rw [List.length_cons];congr 1;omega
theorem BIl9 {s:SprT} {p q:List Int} (h:ABt9 s=true) (hp:p.length=256) (hc:(s.ps.length:Int)≠ABj9 s.no.n) (hq:ABl9 s s.ps.length p q=true) (z:SprT) (hn:z.no=s.no) (h1:z.ps=s.ps++ [p]) (h2:z.qs=s.qs++ [q]):ABt9 z=true:=by
 obtain ⟨f1,f2,f3,f4,f5⟩:=AHa9 h
 simp only [ABt9,Zan] at h
 obtain ⟨g1,g2,g3,g4,g5⟩:=h
 have g2:¬((s.ps.length:Int)>ABj9 s.no.n):=by simpa using g2
 have g4:AAx9 s.ps=false:=by simpa using g4
 have a1:AAx9 (s.ps++ [p])=false:=by
   rw [AAx9] at g4 ⊢
   rw [List.any_append,g4]
   simp [hp]
 have a2:allP z 0 (s.ps++ [p]) (s.qs++ [q])=true:=by
   rw [BPw9 s z hn,BHq9 s p q _ _ _ f2.symm,g5,Nat.zero_add,hq];rfl
 rw [ABt9,hn,h1,h2,g1,a1,a2]
 simp [f2];omega
section
set_option maxRecDepth 100000
end
set_option maxRecDepth 20000
structure Lays (no:NotT) (ps:List (List Int)):Prop where
 are:areS ps=true
 two:∀p∈ps,p.length=256
 ann:AAi9 no.v no.n no.t=true
 cnt:ABj9 no.n=ps.length
 rt:no.r=(rootS ps).1
def ACh9 (ps:List (List Int)) (i:Nat):List Int:=AFc9 (ADj9 ps) i
def layS (no:NotT) (ps:List (List Int)) (k:Nat):SprT:=⟨no,ps.take k,(Zbn k).map (ACh9 ps), [], [],0,0,0,0,0⟩
theorem BOo9 {no:NotT} {ps:List (List Int)} {k:Nat} (hk:k≤ps.length):(layS no ps k).ps.length=k:=by simp [layS];omega
theorem CCc9 {ps:List (List Int)} {i:Nat} (h:i<ps.length):ps.take (i+1)=ps.take i++ [nthL ps i]:=by
 rw [nthL,List.getD_eq_getElem?_getD,Zbk h,List.take_add_one,Zbk h];rfl
theorem ARs9 {no:NotT} {ps:List (List Int)} (h:Lays no ps) {k i:Nat} (hi:i<ps.length):ABl9 (layS no ps k) i (nthL ps i) (ACh9 ps i)=true:=by
 obtain ⟨a1,a2,a3⟩:=ATh9 h.are
 show ACw9 no.r (ABj9 no.n) i _ _=true
 rw [h.cnt,BFq9 (by omega) a1 hi (a3 _ (ACo9 hi)),ACh9,ASl9 h.are hi,h.rt]
 simp [topS]
theorem CGy9 {no:NotT} {ps:List (List Int)} (h:Lays no ps) {k:Nat} (hk:k≤ps.length):∀x∈(layS no ps k).qs,x.length≤1000000:=by
 intro x hx
 simp only [layS,Zbo,Zcr] at hx
 obtain ⟨i,hi,rfl⟩:=hx
 have:=AUf9 (i:=i) h.are (by omega)
 rw [ACh9];omega
theorem AWq9 {no:NotT} {ps:List (List Int)} (h:Lays no ps):∀k:Nat,k≤ps.length→ABt9 (layS no ps k)=true
 | 0,_=>by
   have e:layS no ps 0=⟨no, [], [], [], [],0,0,0,0,0⟩:=by simp [layS]
   obtain ⟨a1,a2,a3⟩:=ATh9 h.are
   rw [e,ABt9,h.ann,h.cnt]
   simp [AAx9,allP]
 | k+1,hk=>by
   refine BIl9 (s:=layS no ps k) (p:=nthL ps k) (q:=ACh9 ps k) (AWq9 h k (by omega)) (h.two _ (ACo9 (by omega))) ?_ (by rw [BOo9 (by omega)];exact ARs9 h (by omega)) _ rfl (CCc9 (by omega)) ?_
   · rw [BOo9 (by omega)]
     show (k:Int)≠ABj9 no.n
     rw [h.cnt];omega
   · show (Zbn (k+1)).map _=(Zbn k).map _++_
     rw [List.range_succ,List.map_append];rfl
theorem BKk9 {ps:List (List Int)} (h:areS ps=true) {k:Nat} (hk:k<ps.length):AMz9 ps k=(ACh9 ps k,0):=by
 rw [AMz9,h,if_pos (by simp;omega),Zas];rfl
theorem APm9 {v t:Int} {p:List Int} (h:ACl9 p.length=true) (ha:AAi9 v p.length t=true):annS v p t=(⟨v,p.length,(rootS (ADn9 p)).1,t⟩,0)∧Lays ⟨v,p.length,(rootS (ADn9 p)).1,t⟩ (ADn9 p):=by
 have ar:=BIj9 h
 obtain ⟨k,hk,k1,k2⟩:=AFe9 h
 refine ⟨?_,ar,fun x hx=> ?_,ha, ?_,rfl⟩
 · rw [annS,if_pos (by rw [h,ha];rfl),show (rootS (ADn9 p)).2=0 by rw [rootS,if_pos ar]]
 · rw [ADr9] at hx
   obtain ⟨i,_,rfl⟩:=Zbo.1 hx
   exact APf9 (APc9 p i)
 · show ABj9 p.length=_
   rw [AGi9 (by omega),AKj9]
set_option maxHeartbeats 1000000
def laySt (no:NotT) (ps:List (List Int)) (k:Nat) (l:List Row) (q:List Int) (t:TrT):StT:=⟨no,ps.take k,(Zbn k).map (ACh9 ps),l,q,t⟩
theorem ATj9 {s s':SprT} (h1:s.no=s'.no):∀(l q:List (List Int)) (i:Nat),allP s i l q=allP s' i l q
 | [],_,_=>rfl
 |_::_, [],_=>rfl
 | p::l,q::qs,i=>by
   show (ABl9 s i p q&&allP s (i+1) l qs)=(ABl9 s' i p q&&allP s' (i+1) l qs)
   rw [ATj9 h1 l qs (i+1),show ABl9 s i p q=ABl9 s' i p q by unfold ABl9;rw [h1]]
theorem AUa9 {s s':SprT} (h1:s.no=s'.no) (h2:s.ps=s'.ps) (h3:s.qs=s'.qs):ABt9 s=ABt9 s':=by
 unfold ABt9
 rw [h1,h2,h3,ATj9 h1]
theorem AGf9 {no:NotT} {ps:List (List Int)} (h:Lays no ps) {k:Nat} (hk:k≤ps.length) (l:List Row) (q:List Int) (t:TrT):AJb9 (laySt no ps k l q t)=true:=by
 have e:ABt9 (laySt no ps k l q t).sp=ABt9 (layS no ps k):=AUa9 rfl rfl rfl
 rw [AJb9,e];exact AWq9 h k hk
theorem ACk9 {no:NotT} {ps:List (List Int)} {k:Nat} (hk:k≤ps.length) (l:List Row) (q:List Int) (t:TrT):(laySt no ps k l q t).ps.length=k:=by simp [laySt];omega
theorem ARr9 {no:NotT} {ps:List (List Int)} (h:Lays no ps):ps.length≤16∧1≤ps.length:=by
 have:=AOw9 (AGf9 h (Nat.zero_le _) [] [] zeroT)
 have hc:=h.cnt
 have h2:ABj9 no.n≤16:=this.2.1
 have h3:1≤ABj9 no.n:=this.2.2.1
 omega
theorem BWo9 {no:NotT} (h:AAi9 no.v no.n no.t=true):zeroN no=false:=by
 simp only [AAi9,Zan,decide_eq_true_eq] at h
 rw [Zez]
 intro hz
 simp only [zeroN,Zan,beq_iff_eq] at hz
 omega
theorem AGe9 {no:NotT} {ps:List (List Int)} (h:Lays no ps) {k:Nat} (hk:k≤ps.length) {l:List Row} {q:List Int} {t:TrT} (hg:Good l) (hl:l.length<16) (hf:l= []∨k<ps.length) (hq:l≠ []∨q= []) (ht:ABf9 t=true):
   AEz9 (laySt no ps k l q t)=false∧ABp9 (laySt no ps k l q t)=true:=by
 have he:AEz9 (laySt no ps k l q t)=false:=by
   rw [AEz9,show zeroN (laySt no ps k l q t).no=false from BWo9 h.ann];rfl
 refine ⟨he, ?_⟩
 rw [ABp9,he,AGf9 h hk,show ADy9 (laySt no ps k l q t).rows=true by rw [←AKg9];exact (AEg9 l).2 hg]
 rw [show (laySt no ps k l q t).rows=l from rfl,show (laySt no ps k l q t).pf=q from rfl,show (laySt no ps k l q t).tr=t from rfl,ht,decide_eq_true (p:=(l.length:Int)<16) (by omega)]
 have hfull:(l.isEmpty|| !fullP (laySt no ps k l q t))=true:=by
   rcases hf with rfl|hf
   · rfl
   · rw [fullP,ACk9 hk,show (laySt no ps k l q t).no=no from rfl,h.cnt]
     rw [Bool.or_eq_true];right
     simp;omega
 have hqe:(!l.isEmpty||q.isEmpty)=true:=by
   rcases hq with hq|rfl
   · cases l with
     |nil=>exact absurd rfl hq
     |cons _ _=>rfl
   · simp
 rw [hfull,hqe];rfl
theorem BSe9 {p:List Int} {s n:Int} (hn:pageS n=true) (hs:seedS s=true) (l:List Row):recS l n s (encS p s)=addS l (setS s) (sumB p (setS s)):=by
 rw [ASg9 hs,recS,if_pos]
 simp [recOk,hs,ACv9,hn]
theorem BOh9 {ps:List (List Int)} {k:Nat} (h:ps.length≤16) (hk:k<ps.length):pageS (k:Int)=true:=by simp [pageS];omega
theorem AWz9 {p:List Int} {m:Int} (h0:1≤m) (h1:m<65536):(addS [] m (sumB p m)).2.1=true:=by
 rcases BKv9 (p:=p) (ss:= []) (fun s h=>by cases h) h0 h1 with h|h
 · exfalso
   have e:or64 m (AKa9 [])=m:=by
     obtain ⟨k,rfl⟩:∃k:Nat,m=k:=⟨m.toNat,by omega⟩
     have:k<65536:=by omega
     unfold or64 AKa9
     simp only [List.foldl_nil]
     rw [show (Zar 64 (k:Int)|||Zar 64 0)=Zar 64 (k:Int) by simp]
     rw [AAl9]
     · simp [BitVec.toNat_ofInt];omega
     · simp [BitVec.toNat_ofInt];omega
     · simp [BitVec.toNat_ofInt];omega
   rw [e] at h
   simp only [AKa9,List.foldl_nil] at h
   omega
 · exact h
def blkOf (ps:List (List Int)) (k:Nat) (m:Int):BlkT:=⟨k,m,encS (nthL ps k) m,ACh9 ps k⟩
theorem AZk9 {no:NotT} {ps:List (List Int)} (h:Lays no ps) {k:Nat} (hk:k<ps.length) {l:List Row} {q:List Int} {t:TrT} (hg:Good l) (hl:l.length<16) (hq:l≠ []→q=ACh9 ps k) (hq0:l≠ []∨q= []) (ht:ABf9 t=true) {m:Int} (hm:seedS m=true):
   AAp9 (laySt no ps k l q t) (blkOf ps k m)=0:=by
 obtain ⟨a1,a2⟩:=AGe9 h (by omega) hg hl (.inr hk) hq0 ht
 obtain ⟨b1,b2⟩:=ARr9 h
 obtain ⟨c1,c2⟩:=AEd9.1 hm
 have hbad:badB (blkOf ps k m)=false:=by
   have hd:(encS (nthL ps k) m).length=16:=by rw [ASg9 hm];exact ACv9 _ _
   have e:badB (blkOf ps k m)=(decide ((k:Int)<0)||(decide ((k:Int)≥16)||(decide (m<0)||(decide (m>1000000000)||(((encS (nthL ps k) m).length:Int) !=16))))):=rfl
   rw [e,hd,decide_eq_false (p:=(k:Int)<0) (by omega),decide_eq_false (p:=(k:Int)≥16) (by omega),decide_eq_false (p:=m<0) (by omega),decide_eq_false (p:=m>1000000000) (by omega)]
   rfl
 have hfull:fullP (laySt no ps k l q t)=false:=by
   rw [fullP,ACk9 (by omega),show (laySt no ps k l q t).no=no from rfl,h.cnt]
   simp;omega
 rw [AAp9,if_neg (by rw [a2,hbad];decide),if_neg (by rw [a1];decide),if_neg (by rw [hfull];decide),ACk9 (by omega),if_neg (by simp [blkOf]),if_neg (by simp [blkOf]),if_neg]
 show ¬(!l.isEmpty&& !decide (ACh9 ps k=q))=true
 cases l with
 |nil=>simp
 |cons r l=>rw [hq (by simp)];simp
theorem BSj9 {no:NotT} {ps:List (List Int)} (h:Lays no ps) {k:Nat} (hk:k<ps.length) (l:List Row) (q:List Int) (t:TrT):putT (laySt no ps k l q t) (nthL ps k) (ACh9 ps k)=(laySt no ps (k+1) [] [] t,0):=by
 have h1:=AGf9 h (k:=k) (by omega) l q t
 have h2:=h.two _ (ACo9 hk)
 have h3:ABl9 (laySt no ps k l q t).sp (laySt no ps k l q t).ps.length (nthL ps k) (ACh9 ps k)=true:=by
   rw [ACk9 (by omega)];exact ARs9 (k:=k) h hk
 rw [putT,if_neg (by rw [h1,h2];simp),if_neg,if_neg (by rw [h3];simp)]
 · show (StT.mk no (ps.take k++ [nthL ps k]) ((Zbn k).map (ACh9 ps)++ [ACh9 ps k]) [] [] t,(0:Int))=_
   rw [←CCc9 hk,laySt,List.range_succ,List.map_append];rfl
 · rw [ACk9 (by omega)]
   show ¬(k:Int)=ABj9 no.n
   rw [h.cnt];omega
theorem BEe9 {no:NotT} {ps:List (List Int)} (h:Lays no ps) {k:Nat} (hk:k<ps.length) {l:List Row} {q:List Int} {t:TrT} (hb:∀x∈nthL ps k,0≤x∧x<256) (hT:Tru (nthL ps k) l) (hl:l.length<16) (hq:l≠ []→q=ACh9 ps k) (hq0:l≠ []∨q= []) (ht:ABf9 t=true) {m:Int} (hm:seedS m=true):
   recvT (laySt no ps k l q t) (blkOf ps k m)=if (addS l (setS m) (sumB (nthL ps k) (setS m))).1.length=16 then (laySt no ps (k+1) [] [] t,0) else (laySt no ps k (addS l (setS m) (sumB (nthL ps k) (setS m))).1 (ACh9 ps k) t,0):=by
 have hr:=AZk9 h hk hT.good hl hq hq0 ht hm
 obtain ⟨s0,s1⟩:=ACq9 hm
 obtain ⟨g1,g2,g3,g4⟩:=AKv9 hT s0 (show setS m<65536 by omega)
 have er:recS (laySt no ps k l q t).rows (blkOf ps k m).n (blkOf ps k m).s (blkOf ps k m).d=addS l (setS m) (sumB (nthL ps k) (setS m)):=BSe9 (BOh9 (ARr9 h).1 hk) hm l
 have hp:=h.two _ (ACo9 hk)
 have en:AEx9 (laySt no ps k l q t) (blkOf ps k m)=laySt no ps k (addS l (setS m) (sumB (nthL ps k) (setS m))).1 (ACh9 ps k) t:=by
   rw [AEx9,er];rfl
 rw [recvT,if_neg (by rw [hr];simp),er,if_neg (by rw [g1];simp)]
 by_cases h16:(addS l (setS m) (sumB (nthL ps k) (setS m))).1.length=16
 · have hpg:(ACi9 (addS l (setS m) (sumB (nthL ps k) (setS m))).1).2=true:=by rw [AWc9 g2,h16];rfl
   rw [if_pos h16,if_neg (by rw [hpg];simp),BDk9 g2 hp hb hpg,en,show (blkOf ps k m).pf=ACh9 ps k from rfl,BSj9 h hk,if_neg (by simp)]
 · have hpg:(ACi9 (addS l (setS m) (sumB (nthL ps k) (setS m))).1).2=false:=by rw [AWc9 g2];simp [h16]
   rw [if_neg h16,if_pos hpg,en]
def FedA (no:NotT) (ps:List (List Int)) (k:Nat) (t:TrT) (st:StT):Prop:=
 ∃l q,st=laySt no ps k l q t∧Tru (nthL ps k) l∧l.length<16∧(l≠ []→q=ACh9 ps k)∧(l≠ []∨q= [])
def Fed (no:NotT) (ps:List (List Int)) (k:Nat) (t:TrT) (st:StT):Prop:=st=laySt no ps (k+1) [] [] t∨FedA no ps k t st
def AOg9 (p:List Int):Prop:=∀x∈p,0≤x∧x<256
theorem AMf9 {no:NotT} {ps:List (List Int)} (h:Lays no ps) {k:Nat} (hk:k<ps.length) {t:TrT} (ht:ABf9 t=true) {m:Int} (hm:seedS m=true):
   recvT (laySt no ps (k+1) [] [] t) (blkOf ps k m)=(laySt no ps (k+1) [] [] t,if k+1=ps.length then 10 else 14):=by
 obtain ⟨a1,a2⟩:=AGe9 h (k:=k+1) (by omega) (l:= []) (q:= []) (Tru.nil []).good (by simp) (.inl rfl) (.inr rfl) ht
 obtain ⟨b1,b2⟩:=ARr9 h
 obtain ⟨c1,c2⟩:=AEd9.1 hm
 have hd:(encS (nthL ps k) m).length=16:=by rw [ASg9 hm];exact ACv9 _ _
 have hbad:badB (blkOf ps k m)=false:=by
   have e:badB (blkOf ps k m)=(decide ((k:Int)<0)||(decide ((k:Int)≥16)||(decide (m<0)||(decide (m>1000000000)||(((encS (nthL ps k) m).length:Int) !=16))))):=rfl
   rw [e,hd,decide_eq_false (p:=(k:Int)<0) (by omega),decide_eq_false (p:=(k:Int)≥16) (by omega),decide_eq_false (p:=m<0) (by omega),decide_eq_false (p:=m>1000000000) (by omega)]
   rfl
 have hr:AAp9 (laySt no ps (k+1) [] [] t) (blkOf ps k m)=if k+1=ps.length then 10 else 14:=by
   rw [AAp9,if_neg (by rw [a2,hbad];decide),if_neg (by rw [a1];decide),fullP,ACk9 (by omega),show (laySt no ps (k+1) [] [] t).no=no from rfl,h.cnt]
   by_cases hf:k+1=ps.length
   · rw [if_pos (by rw [hf];simp),if_pos hf]
   · rw [if_neg (by simp;omega),if_neg hf,if_pos (by show (k:Int)<_;omega)]
 rw [recvT,hr,if_pos (by split<;>decide)]
theorem Fed.step {no:NotT} {ps:List (List Int)} {k:Nat} {t:TrT} {st:StT} (h:Lays no ps) (hk:k<ps.length) (hb:AOg9 (nthL ps k)) (ht:ABf9 t=true) (hf:Fed no ps k t st) {m:Int} (hm:seedS m=true):
   Fed no ps k t (recvT st (blkOf ps k m)).1∧((recvT st (blkOf ps k m)).2=0∨(recvT st (blkOf ps k m)).2=10∨(recvT st (blkOf ps k m)).2=14):=by
 rcases hf with rfl|⟨l,q,rfl,hT,hl,hq,hq0⟩
 · rw [AMf9 h hk ht hm]
   exact ⟨.inl rfl,by by_cases h':k+1=ps.length<;>simp [h']⟩
 · obtain ⟨s0,s1⟩:=ACq9 hm
   obtain ⟨g1,g2,g3,g4⟩:=AKv9 hT s0 (show setS m<65536 by omega)
   rw [BEe9 h hk hb hT hl hq hq0 ht hm]
   by_cases h16:(addS l (setS m) (sumB (nthL ps k) (setS m))).1.length=16
   · rw [if_pos h16];exact ⟨.inl rfl, .inl rfl⟩
   · rw [if_neg h16]
     refine ⟨.inr ⟨_,_,rfl,g2,by have:=g2.good.len;omega,fun _=>rfl, .inl ?_⟩, .inl rfl⟩
     intro he
     have h0:l= []:=by
       have:(addS l (setS m) (sumB (nthL ps k) (setS m))).1.length=0:=by rw [he];rfl
       exact List.length_eq_zero_iff.1 (by omega)
     subst h0
     have:=AWz9 (p:=nthL ps k) s0 (show setS m<65536 by omega)
     rw [he,this] at g4
     simp at g4
theorem Fed.small {no:NotT} {ps:List (List Int)} {k:Nat} {t:TrT} {st:StT} (h:Lays no ps) (hk:k<ps.length) (hf:Fed no ps k t st):AAt9 st:=by
 obtain ⟨b1,b2⟩:=ARr9 h
 have key:∀(j:Nat) (l:List Row) (q:List Int),j≤ps.length→ACf9 l→q.length≤1000000→AAt9 (laySt no ps j l q t):=by
   intro j l q hj h1 h2
   refine ⟨⟨by rw [ACk9 hj];omega,fun p hp=> ?_⟩,⟨by simp [laySt];omega,CGy9 h hj⟩,h1,h2⟩
   rw [h.two p (List.mem_of_mem_take hp)];omega
 rcases hf with rfl|⟨l,q,rfl,hT,hl,hq,hq0⟩
 · exact key _ _ _ (by omega) ⟨by simp,fun r hr=>by cases hr⟩ (by simp)
 · refine key _ _ _ (by omega) ⟨by omega,fun r hr=>by rw [hT.good.len16 r hr];omega⟩ ?_
   by_cases hn:l= []
   · rcases hq0 with h0|h0
     · exact absurd hn h0
     · rw [h0];simp
   · rw [hq hn,ACh9]
     have:=AUf9 (i:=k) h.are (by omega);omega
def feedT (ps:List (List Int)) (k:Nat) (st:StT) (ss:List Int):StT:=ss.foldl (fun s m=>(recvT s (blkOf ps k m)).1) st
theorem ANm9 {p:List Int}:∀ {ss:List Int} {l:List Row},(∀s∈ss,seedS s=true)→Tru p l→l.length≤(allS p (masks ss) l).1.length
 | [],l,_,_=>Nat.le_refl _
 | m::ss,l,hs,ht=>by
   have hm:=hs m (Zay ..)
   obtain ⟨s0,s1⟩:=ACq9 hm
   obtain ⟨g1,g2,g3,g4⟩:=AKv9 ht s0 (show setS m<65536 by omega)
   have e2:allS p (masks (m::ss)) l=allS p (masks ss) (addS l (setS m) (sumB p (setS m))).1:=by
     show allS p (setS m::masks ss) l=_
     rw [allS,if_neg (by simp;omega)]
     dsimp only
     rw [if_neg (by rw [g1];simp)]
   rw [e2]
   have:=ANm9 (fun s hs'=>hs s (Zaw _ hs')) g2
   omega
theorem AXc9 {no:NotT} {ps:List (List Int)} {k:Nat} {t:TrT} (h:Lays no ps) (hk:k<ps.length) (hb:AOg9 (nthL ps k)) (ht:ABf9 t=true):∀(ss:List Int) (l:List Row) (q:List Int),(∀s∈ss,seedS s=true)→Tru (nthL ps k) l→l.length<16→(l≠ []→q=ACh9 ps k)→(l≠ []∨q= [])→
   feedT ps k (laySt no ps k l q t) ss=laySt no ps (k+1) [] [] t∧16≤(allS (nthL ps k) (masks ss) l).1.length∨∃q',feedT ps k (laySt no ps k l q t) ss=laySt no ps k (allS (nthL ps k) (masks ss) l).1 q' t∧(allS (nthL ps k) (masks ss) l).1.length<16
 | [],l,q,hs,hT,hl,hq,hq0=> .inr ⟨q,rfl,hl⟩
 | m::ss,l,q,hs,hT,hl,hq,hq0=>by
   have hm:=hs m (Zay ..)
   have hs':=fun s hs'=>hs s (Zaw _ hs')
   obtain ⟨s0,s1⟩:=ACq9 hm
   obtain ⟨g1,g2,g3,g4⟩:=AKv9 hT s0 (show setS m<65536 by omega)
   have e2:allS (nthL ps k) (masks (m::ss)) l=allS (nthL ps k) (masks ss) (addS l (setS m) (sumB (nthL ps k) (setS m))).1:=by
     show allS (nthL ps k) (setS m::masks ss) l=_
     rw [allS,if_neg (by simp;omega)]
     dsimp only
     rw [if_neg (by rw [g1];simp)]
   have e1:feedT ps k (laySt no ps k l q t) (m::ss)=feedT ps k (recvT (laySt no ps k l q t) (blkOf ps k m)).1 ss:=rfl
   rw [e2,e1,BEe9 h hk hb hT hl hq hq0 ht hm]
   by_cases h16:(addS l (setS m) (sumB (nthL ps k) (setS m))).1.length=16
   · rw [if_pos h16]
     left
     constructor
     · have:∀ss:List Int,(∀s∈ss,seedS s=true)→feedT ps k (laySt no ps (k+1) [] [] t) ss=laySt no ps (k+1) [] [] t:=by
         intro ss
         induction ss with
         |nil=>intro _;rfl
         | cons x ss ih=>
           intro hx
           have e:feedT ps k (laySt no ps (k+1) [] [] t) (x::ss)=feedT ps k (recvT (laySt no ps (k+1) [] [] t) (blkOf ps k x)).1 ss:=rfl
           rw [e,AMf9 h hk ht (hx x (Zay ..))]
           exact ih fun s hs=>hx s (Zaw _ hs)
       exact this ss hs'
     · have:=ANm9 (p:=nthL ps k) hs' g2
       omega
   · rw [if_neg h16]
     refine AXc9 h hk hb ht ss _ _ hs' g2 (by have:=g2.good.len;omega) (fun _=>rfl) (.inl ?_)
     intro he
     have h0:l= []:=by
       have:(addS l (setS m) (sumB (nthL ps k) (setS m))).1.length=0:=by rw [he];rfl
       exact List.length_eq_zero_iff.1 (by omega)
     subst h0
     have:=AWz9 (p:=nthL ps k) s0 (show setS m<65536 by omega)
     rw [he,this] at g4
     simp at g4
def TFe:List (Nat×(List AV→(AV→Prop)→Prop)):= [(87,CDu9),(34,cEncB),(15,AKs9)]
theorem BXb9:AAf9 prog TFe:=Zaf BMj9 (Zaf AUs9 (Zaf AHy9 Zah))
noncomputable def lpFe:Code:=sub [1,1,1,0,1,2,3] (code f28)
def tmFe (ps:List (List Dv)) (k:Int) (q ss:List (List Dv)) (n i:Int):List AV:= [.bad, .d (.sl 1 ps), .d (i64 k), .bad, .ptr 0 0, .bad, .bad, .bad, .ptr 1 0, .bad, .d (.sl 1 q)]++Zag 22 .bad++ [.d (.sl 1 ss), .d (i64 n), .d (i64 i)]++Zag 38 .bad
theorem rFe (s:StT) (b1:List AV) (ps q ss:List (List Dv)) (k n i:Int):wpc prog ⟨TFe, [],wl,y,false⟩ 100 lpFe (tmFe ps k q ss n i) [stB s,zB13] b (maskK 2 [1,2,4,8,10,33,34,35] K)=(BIf (decide (i<n)) (BIf (true&&decide (0≤i)) (∃(x0:Int),ss[Zam i]? =some [i64 x0]∧BIf (true&&decide (0≤k)) (∃(xs3:List (List Dv)),ps[Zam k]? =some [Zai 1 xs3]∧∃(p6:List Int) (n7:Int) (s8:Int) (d9:List Int), [Zae (Zai 1 xs3),Zae (i64 k),Zae (i64 x0)]=(Qz49 p6 n7 s8)∧(encOk p6 n7 s8=true∧d9=encS p6 s8)∧∃(s10:StT) (x11:BlkT) (z12:StT) (e13:Int), [stV s,Zbc [Zae (i64 n7),Zae (i64 s8),Zae (Zai 1 (AAa9 d9)),Zae (Zai 1 q)]]= [stV s10,bkV x11]∧(((AAt9 s10)∧Zab (BlkT.pf x11)≤1000000)∧(z12,e13)=recvT s10 x11)∧BIf (e13 !=(0:Int)) (BIf (e13 !=(14:Int)) (BIf (e13 !=(10:Int)) (K .ret (Zaq::Zae (Zai 1 ps)::Zae (i64 k)::Zaq::Zbe 0 0::bds 3 (Zbe 1 0::Zaq::Zae (Zai 1 q)::bds 22 (Zae (Zai 1 ss)::Zae (i64 n)::Zae (i64 i)::bds 38 []))) [stB s,stB s] b) (K .normal (Zaq::Zae (Zai 1 ps)::Zae (i64 k)::Zaq::Zbe 0 0::bds 3 (Zbe 1 0::Zaq::Zae (Zai 1 q)::bds 22 (Zae (Zai 1 ss)::Zae (i64 n)::Zae (i64 (Zaa .i64 (i+1)))::bds 38 []))) [stB z12,Blk.mk Qz3 false false 0] b)) (K .normal (Zaq::Zae (Zai 1 ps)::Zae (i64 k)::Zaq::Zbe 0 0::bds 3 (Zbe 1 0::Zaq::Zae (Zai 1 q)::bds 22 (Zae (Zai 1 ss)::Zae (i64 n)::Zae (i64 (Zaa .i64 (i+1)))::bds 38 []))) [stB z12,Blk.mk Qz3 false false 0] b)) (K .normal (Zaq::Zae (Zai 1 ps)::Zae (i64 k)::Zaq::Zbe 0 0::bds 3 (Zbe 1 0::Zaq::Zae (Zai 1 q)::bds 22 (Zae (Zai 1 ss)::Zae (i64 n)::Zae (i64 (Zaa .i64 (i+1)))::bds 38 []))) [stB z12,Blk.mk Qz3 false false 0] b)) False) False) (K (Zcy 0) (Zaq::Zae (Zai 1 ps)::Zae (i64 k)::Zaq::Zbe 0 0::bds 3 (Zbe 1 0::Zaq::Zae (Zai 1 q)::bds 22 (Zae (Zai 1 ss)::Zae (i64 n)::Zae (i64 i)::bds 38 []))) [stB s,Blk.mk Qz3 false false 0] b)):=by kernel_rfl
theorem BSn9:wpFn prog ⟨[], [],wl,y,true⟩ 100 f29 [] b R=(R (.d (Zai 1 [[i64 0], [i64 1], [i64 2], [i64 3], [i64 4], [i64 5], [i64 6], [i64 7], [i64 8], [i64 9], [i64 10], [i64 11], [i64 12], [i64 13], [i64 14], [i64 15]])) b):=by kernel_rfl
theorem BTh9:PCall prog 29 [] (.d (.sl 1 (intsR ss0))):=by
 refine Zaz (n:=100) (u:=true) mixed Zah Zac func29 (by rfl) (by rfl) fun Ev bb=> ?_
 rw [BSn9];rfl
def BPl9 (args:List AV) (K:AV→Prop):Prop:=args= []∧∃z:List Int,z=ss0∧K (.d (.sl 1 (intsR z)))
theorem BGu9:∀args K,BPl9 args K→∃x,PCall prog 29 args x∧K x:=by
 rintro _ K ⟨rfl,_,rfl,h⟩;exact ⟨_,BTh9,h⟩
theorem BUi9 {no:NotT} {ps:List (List Int)} (h:Lays no ps) {k:Nat} (hk:k<ps.length) {m:Int} (hm:seedS m=true):encOk (nthL ps k) k m=true:=by
 rw [encOk,h.two _ (ACo9 hk),BOh9 (ARr9 h).1 hk,hm];rfl
theorem BVb9 {ss rest:List Int} {m:Int} {j:Nat} (hd:ss.drop j=m::rest):(intsR ss)[j]? =some [i64 m]:=by
 obtain ⟨h1,h2,_⟩:=AAw9 hd
 simp [intsR,h2]
theorem wrFe {Ev:Env prog} {b:Ev.β} {Q:Exit→St Ev.β→Prop} {no:NotT} {ps:List (List Int)} {k:Nat} {t:TrT} (h:Lays no ps) (hk:k<ps.length) (hb:AOg9 (nthL ps k)) (ht:ABf9 t=true) (ss:List Int) (hs:∀s∈ss,seedS s=true) (hl:ss.length≤1000):
   ∀(rest:List Int) (j:Nat) (st:StT),ss.drop j=rest→Fed no ps k t st→(∀i:Int,Q (.exit 0) ⟨tmFe (AAc9 ps) k (digR (ACh9 ps k)) (intsR ss) ss.length i, [stB (feedT ps k st rest),zB13],b⟩)→WR Ev lpFe (rest.length+1) ⟨tmFe (AAc9 ps) k (digR (ACh9 ps k)) (intsR ss) ss.length j, [stB st,zB13],b⟩ Q
 | [],j,st,hd,hf,hQ=>by
   have hj:=ABm9 hd
   refine WR.ofMask [1,2,4,8,10,33,34,35] mixed (CX.Ok.of (u:=false) BXb9 Zac) (k:=100) ?_
   refine Eq.mpr (rFe _ _ _ _ st [] (AAc9 ps) (digR (ACh9 ps k)) (intsR ss) k ss.length j) ?_
   exact Zct (by simp;omega) (hQ j)
 | m::rest,j,st,hd,hf,hQ=>by
   obtain ⟨hj,h2,hd'⟩:=AAw9 hd
   have hm:seedS m=true:=hs m (Zbh h2)
   obtain ⟨f1,f2⟩:=hf.step h hk hb ht hm
   refine WR.ofMask [1,2,4,8,10,33,34,35] mixed (CX.Ok.of (u:=false) BXb9 Zac) (k:=100) ?_
   refine Eq.mpr (rFe _ _ _ _ st [] (AAc9 ps) (digR (ACh9 ps k)) (intsR ss) k ss.length j) ?_
   rw [wrapN (by omega),Zas,Zas]
   have hn:=AUf9 (i:=k) h.are (by omega)
   refine Zbf (by simp;omega) (Zbf (by simp) ⟨m,BVb9 hd,Zbf (by simp) ⟨AAa9 (nthL ps k),AHv9 hk,nthL ps k,k,m,_,rfl,⟨BUi9 h hk hm,rfl⟩,st,blkOf ps k m,(recvT st (blkOf ps k m)).1,(recvT st (blkOf ps k m)).2,rfl,⟨⟨hf.small h hk,by show (ACh9 ps k).length≤_;rw [ACh9];omega⟩,rfl⟩, ?_⟩⟩)
   have nx:=wrFe (Q:=Q) h hk hb ht ss hs hl rest (j+1) (recvT st (blkOf ps k m)).1 hd' f1 hQ
   rcases f2 with f2|f2|f2<;>rw [f2]
   · exact Zct rfl nx
   · exact Zbf rfl (Zbf rfl (Zct rfl nx))
   · exact Zbf rfl (Zct rfl nx)
def wlFe {β:Type}:WLT β:=fun c tm hp b K=>∃(no:NotT) (ps:List (List Int)) (k:Nat) (t:TrT) (st:StT) (ss:List Int) (z:StT),c= .loop lpFe∧ABb9 [1,2,4,8,10,33,34,35] 0 tm=tmFe (AAc9 ps) k (digR (ACh9 ps k)) (intsR ss) (intsR ss).length 0∧hp= [stB st,zB13]∧
 ((Lays no ps∧k<ps.length∧AOg9 (nthL ps k)∧ABf9 t=true∧(∀s∈ss,seedS s=true)∧ss.length≤1000∧Fed no ps k t st)∧z=feedT ps k st ss)∧∀i:Int,K (.exit 0) (tmFe (AAc9 ps) k (digR (ACh9 ps k)) (intsR ss) ss.length i) [stB z,zB13] b
theorem BXx9 {Ev:Env prog} (c:Code) (tm:List AV) (hp:List Blk) (b:Ev.β) (K:Exit→List AV→List Blk→Ev.β→Prop) (h:wlFe c tm hp b K):W Ev c ⟨tm,hp,b⟩ (fun e s=>K e s.tm s.hp s.b):=by
 obtain ⟨no,ps,k,t,st,ss,z,rfl,htm,rfl,⟨⟨h1,h2,h3,h4,h5,h6,h7⟩,rfl⟩,hK⟩:=h
 rw [BKo9] at htm
 refine W.cast (htm▸AAg9 _ tm 0) (Zbt _) ?_
 exact W.rounds (wrFe (Q:=fun e s=>K e s.tm s.hp s.b) h1 h2 h3 h4 ss h5 h6 ss 0 st rfl h7 hK)
theorem CCm9 (s:StT) (ps ss:List (List Dv)) (k:Int):wpFn prog ⟨TFe, [],wlFe,y,false⟩ 100 f28 [stV s, .d (.sl 1 ps), .d (i64 k), .d (.sl 1 ss)] b R=(∃(ps0:List (List Int)) (i1:Int) (z2:List Int×Int), [Zae (Zai 1 ps),Zae (i64 k)]= [Zae (Zai 1 (AAc9 ps0)),Zae (i64 i1)]∧z2=AMz9 ps0 i1∧BIf (Prod.snd z2 !=(0:Int)) (R (.tup [stV s,Zae (bo false)]) b) (BIf (decide (k≥((Zab ps:Nat):Int))) (R (.tup [stV s,Zae (bo false)]) b) (∃(no3:NotT) (ps4:List (List Int)) (k5:Nat) (t6:TrT) (st7:StT) (ss8:List Int) (z9:StT),Zax lpFe=Zax lpFe∧(Zaq::Zae (Zai 1 ps)::Zae (i64 k)::Zaq::Zbe 0 0::bds 3 (Zbe 1 0::Zaq::Zae (Zai 1 (digR (Prod.fst z2)))::bds 22 (Zae (Zai 1 ss)::Zae (i64 ((Zab ss:Nat):Int))::Zae (i64 0)::bds 38 [])))=(Zaq::Zae (Zai 1 (AAc9 ps4))::Zae (i64 (k5:Int))::Zaq::Zbe 0 0::bds 3 (Zbe 1 0::Zaq::Zae (Zai 1 (digR (ACh9 ps4 k5)))::bds 22 (Zae (Zai 1 (intsR ss8))::Zae (i64 ((Zab (intsR ss8):Nat):Int))::Zae (i64 0)::bds 38 [])))∧ [stB s,Blk.mk Qz3 false false 0]= [stB st7,Blk.mk Qz3 false false 0]∧((Lays no3 ps4∧k5<Zab ps4∧(∀(x:Int),x∈nthL ps4 k5→(0:Int)≤x∧x<(256:Int))∧ABf9 t6=true∧(∀(s:Int),s∈ss8→seedS s=true)∧Zab ss8≤1000∧(st7=laySt no3 ps4 (k5+1) [] [] t6∨∃(l10:List Row) (q11:List Int),st7=laySt no3 ps4 k5 l10 q11 t6∧Tru (nthL ps4 k5) l10∧Zab l10<16∧(l10≠ []→q11=ACh9 ps4 k5)∧(l10≠ []∨q11= [])))∧z9=feedT ps4 k5 st7 ss8)∧∀(i:Int),R (.tup [stV z9,Zae (bo true)]) b))):=by kernel_rfl
def CFm9 (no:NotT) (ps:List (List Int)) (k:Nat) (t:TrT) (st:StT) (ss:List Int):Prop:=Lays no ps∧k<ps.length∧AOg9 (nthL ps k)∧ABf9 t=true∧(∀s∈ss,seedS s=true)∧ss.length≤1000∧Fed no ps k t st
theorem CGw9 {no:NotT} {ps:List (List Int)} {k:Nat} {t:TrT} {st:StT} {ss:List Int} (h:CFm9 no ps k t st ss):PCall prog 28 [stV st, .d (.sl 1 (AAc9 ps)), .d (i64 k), .d (.sl 1 (intsR ss))] (.tup [stV (feedT ps k st ss), .d (bo true)]):=by
 refine Zcd (n:=100) (u:=false) (fun _=>wlFe) mixed BXb9 Zac (fun Ev=>BXx9) func28 (by rfl) (by rfl) fun Ev bb=> ?_
 rw [CCm9]
 have hp:=BKk9 h.1.are h.2.1
 refine ⟨ps,k,_,rfl,rfl,Zct (by rw [hp];rfl) (Zct (by rw [AAd9];have:=h.2.1;simp;omega) ⟨no,ps,k,t,st,ss,_,rfl,by rw [hp],rfl,⟨h,rfl⟩,fun i=>rfl⟩)⟩
def cFeed (args:List AV) (K:AV→Prop):Prop:=∃(no:NotT) (ps:List (List Int)) (k:Nat) (t:TrT) (st:StT) (ss:List Int) (z:StT),args= [stV st, .d (.sl 1 (AAc9 ps)), .d (i64 k), .d (.sl 1 (intsR ss))]∧(CFm9 no ps k t st ss∧z=feedT ps k st ss)∧K (.tup [stV z, .d (bo true)])
theorem BWd9:∀args K,cFeed args K→∃x,PCall prog 28 args x∧K x:=by
 rintro _ K ⟨no,ps,k,t,st,ss,_,rfl,⟨h1,rfl⟩,h⟩;exact ⟨_,CGw9 h1,h⟩
noncomputable def lpSa:Code:=sub [1,1,0,1,2,3] (code f19)
def TSa:List (Nat×(List AV→(AV→Prop)→Prop)):= [(24,CDx9),(68,BGl9),(69,BVj9),(31,BHg9)]
theorem CEs9:AAf9 prog TSa:=Zaf BMm9 (Zaf AZw9 (Zaf AXo9 (Zaf AKu9 Zah)))
theorem CCl9 (s:StT) (near:List (List Dv)):wpFn prog ⟨[(46,cFew)], [],wl,y,false⟩ 100 f14 [stV s, .d (.sl 31 near)] b R=(∃(s0:SprT) (z1:Bool), [stV s]= [Zbc (spL s0)]∧((∀(r:List Dv),r∈SprT.rows s0→∃(m2:Int) (xs3:List (List Dv)),r= [i64 m2,Zai 1 xs3])∧z1=fewSI s0)∧BIf z1 (R (.d (bo (decide (((Zab near:Nat):Int)≤(100:Int))))) b) (R (.d (bo false)) b)):=by kernel_rfl
def tmSa (i:Int):List AV:= [.bad, .bad, .ptr 0 0, .ptr 1 0, .bad, .d (i64 i)]++Zag 81 .bad
abbrev Qz50 (v0:Int):=Zaq::Zaq::Zbe 0 0::Zbe 1 0::Zae (bo false)::Zae (i64 v0)::bds 81 []
theorem rSa (s c:StT) (i:Int):wpc prog ⟨TSa, [],wl,y,false⟩ 100 lpSa (tmSa i) [stB s,stB c] b (maskT [2,3,4,5] K)=(BIf (decide (i<((Zab (rowsR (StT.rows s)):Nat):Int))) (BIf (true&&decide (0≤i)) (∃(x0:Int) (xs1:List (List Dv)),(rowsR (StT.rows s))[Zam i]? =some [i64 x0,Zai 1 xs1]∧BIf (true&&decide (0≤i)) (∃(x4:Int) (xs5:List (List Dv)),(rowsR (StT.rows c))[Zam i]? =some [i64 x4,Zai 1 xs5]∧BIf (x0 !=x4) (K .ret (Qz50 i) [stB s,stB c] b) (BIf (true&&decide (0≤i)) (∃(x8:Int) (xs9:List (List Dv)),(rowsR (StT.rows s))[Zam i]? =some [i64 x8,Zai 1 xs9]∧BIf (true&&decide (0≤i)) (∃(x12:Int) (xs13:List (List Dv)),(rowsR (StT.rows c))[Zam i]? =some [i64 x12,Zai 1 xs13]∧∃(a16:List Int) (c17:List Int) (z18:Bool), [Zae (Zai 1 xs9),Zae (Zai 1 xs13)]=(Qz30 a16 c17)∧(Zab a16≤9223372036854775807∧z18=decide (a16=c17))∧BIf (!z18) (K .ret (Qz50 i) [stB s,stB c] b) (K .normal (Zaq::Zaq::Zbe 0 0::Zbe 1 0::Zaq::Zae (i64 (Zaa .i64 (i+1)))::bds 81 []) [stB s,stB c] b)) False) False)) False) False) (K (Zcy 0) (Zaq::Zaq::Zbe 0 0::Zbe 1 0::Zaq::Zae (i64 i)::bds 81 []) [stB s,stB c] b)):=by kernel_rfl
def neW (a c:List Row) (i:Nat):Bool:=(nthW a i).1 !=(nthW c i).1|| !decide ((nthW a i).2=(nthW c i).2)
theorem BPv9 {a c:List Row} (hl:a.length=c.length):(Zbn a.length).any (neW a c)= !decide (a=c):=by
 rw [Bool.eq_iff_iff]
 simp only [List.any_eq_true,Zcr,Bool.not_eq_true',decide_eq_false_iff_not]
 constructor
 · rintro ⟨i,hi,h⟩ rfl
   simp [neW] at h
 · intro h
   apply Classical.byContradiction
   intro hn
   apply h
   apply List.ext_getElem hl
   intro i h1 h2
   have h3:¬neW a c i=true:=fun h3=>hn ⟨i,h1,h3⟩
   simp only [neW,nthW,List.getD_eq_getElem?_getD,Zbk h1,Zbk h2,Option.getD_some,Bool.or_eq_true,bne_iff_ne,Bool.not_eq_true',decide_eq_false_iff_not,not_or,Classical.not_not] at h3
   exact Prod.ext h3.1 h3.2
theorem wrSa {Ev:Env prog} {b:Ev.β} {Q:Exit→St Ev.β→Prop} (s c:StT) (hl:s.rows.length=c.rows.length) (hb:s.rows.length≤1000000) (hd:∀r∈s.rows,r.2.length≤1000000) (h1:s.rows=c.rows→∀i:Int,Q (.exit 0) ⟨tmSa i, [stB s,stB c],b⟩) (h2:s.rows≠c.rows→∀i:Int,Q .ret ⟨(tmSa i).set 4 (.d (bo false)), [stB s,stB c],b⟩):
   WR Ev lpSa (s.rows.length+1) ⟨tmSa (0:Nat), [stB s,stB c],b⟩ Q:=by
 refine WR.scan (X:=⟨TSa, [],wlW Ev,Ev.Y,false⟩) (k:=100) [2,3,4,5] mixed (CX.Ok.of CEs9 Zac) s.rows.length (neW s.rows c.rows) (fun i=>tmSa (i:Nat)) (fun i=>(tmSa (i:Nat)).set 4 (.d (bo false))) [stB s,stB c] 0 (fun i hi K k1 k2=> ?_) (fun K k1=> ?_) (fun h=>h1 ?_ _) fun h i=>h2 ?_ _
 · rw [rSa,ABs9,wrapN (by omega),Zas]
   refine Zbf (by simp<;>omega) (Zbf (by simp) ⟨(nthW s.rows i).1,AAa9 (nthW s.rows i).2,AQx9 hi,Zbf (by simp) ⟨(nthW c.rows i).1,AAa9 (nthW c.rows i).2,AQx9 (by omega), ?_⟩⟩)
   refine Zaj (fun g=>k1 (by rw [neW,g];rfl)) fun g=>Zbf (by simp) ⟨(nthW s.rows i).1,AAa9 (nthW s.rows i).2,AQx9 hi,Zbf (by simp) ⟨(nthW c.rows i).1,AAa9 (nthW c.rows i).2,AQx9 (by omega),_,_,_,rfl,⟨by have:=hd _ (BDr9 hi);omega,rfl⟩,Zaj (fun g'=>k1 (by rw [neW,g,g'];rfl)) fun g'=>k2 (by rw [neW,g,g'];rfl)⟩⟩
 · rw [rSa,ABs9]
   exact Zct (by simp) k1
 · rw [BPv9 hl] at h;simpa using h
 · rw [BPv9 hl] at h;simpa using h
def wlSa {β:Type}:WLT β:=fun t tm hp b K=>∃(s c:StT) (z:Bool),t= .loop lpSa∧ABb9 [2,3,5] 0 tm=tmSa 0∧hp= [stB s,stB c]∧((s.rows.length=c.rows.length∧AAt9 s)∧z=decide (s.rows=c.rows))∧
 BIf z (∀i:Int,K (.exit 0) (tmSa i) [stB s,stB c] b) (∀i:Int,K .ret ((tmSa i).set 4 (.d (bo false))) [stB s,stB c] b)
theorem BXp9 {Ev:Env prog} (c:Code) (tm:List AV) (hp:List Blk) (b:Ev.β) (K:Exit→List AV→List Blk→Ev.β→Prop) (h:wlSa c tm hp b K):W Ev c ⟨tm,hp,b⟩ (fun e s=>K e s.tm s.hp s.b):=by
 obtain ⟨s,d,z,rfl,htm,rfl,⟨⟨hl,hs⟩,hz⟩,hK⟩:=h
 refine W.cast (htm▸AAg9 _ tm 0) (Zbt _) ?_
 exact W.rounds (wrSa (Q:=fun e s=>K e s.tm s.hp s.b) s d hl (by have:=hs.2.2.1.1;omega) (fun r hr=>by have:=hs.2.2.1.2 r hr;omega) (fun h=>by rw [hz,decide_eq_true h] at hK;exact hK) fun h=>by rw [hz,decide_eq_false h] at hK;exact hK)
abbrev Qz42:=Zaq::Zaq::Zbe 0 0::Zbe 1 0::Zaq::Zae (i64 0)::bds 81 []
theorem BRr9 (s c:StT):wpFn prog ⟨TSa, [],wlSa,y,false⟩ 100 f19 [stV s,stV c] b R=(BIf (!(Zba (StT.no s)==Zba (StT.no c)&&(Zbi (StT.no s)==Zbi (StT.no c)&&(Zbl (StT.no s)==Zbl (StT.no c)&&(Zbj (StT.no s)==Zbj (StT.no c)&&true))))) (R (.d (bo false)) b) (BIf (!(Zda (StT.tr s)==Zda (StT.tr c)&&(Zdc (StT.tr s)==Zdc (StT.tr c)&&(Zdd (StT.tr s)==Zdd (StT.tr c)&&(Zde (StT.tr s)==Zde (StT.tr c)&&(Zcp (StT.tr s)==Zcp (StT.tr c)&&true)))))) (R (.d (bo false)) b) (BIf (((Zab (rowsR (StT.rows s)):Nat):Int) !=((Zab (rowsR (StT.rows c)):Nat):Int)) (R (.d (bo false)) b) (∃(a0:List (List Int)) (c1:List (List Int)) (z2:Bool), [Zae (Zai 1 (AAc9 (StT.ps s))),Zae (Zai 1 (AAc9 (StT.ps c)))]= [Zae (Zai 1 (AAc9 a0)),Zae (Zai 1 (AAc9 c1))]∧((Zab a0≤9223372036854775807∧∀(p:List Int),p∈a0→Zab p≤9223372036854775807)∧z2=decide (a0=c1))∧BIf (!z2) (R (.d (bo false)) b) (∃(a5:List (List Int)) (c6:List (List Int)) (z7:Bool), [Zae (Zai 1 (AAe9 (StT.qs s))),Zae (Zai 1 (AAe9 (StT.qs c)))]= [Zae (Zai 1 (AAe9 a5)),Zae (Zai 1 (AAe9 c6))]∧((Zab a5≤9223372036854775807∧∀(p:List Int),p∈a5→Zab p≤9223372036854775807)∧z7=decide (a5=c6))∧BIf (!z7) (R (.d (bo false)) b) (∃(a10:List Int) (c11:List Int) (z12:Bool), [Zae (Zai 1 (digR (StT.pf s))),Zae (Zai 1 (digR (StT.pf c)))]=(Qz45 a10 c11)∧(Zab a10≤9223372036854775807∧z12=decide (a10=c11))∧BIf (!z12) (R (.d (bo false)) b) (∃(s13:StT) (c14:StT) (z15:Bool),Zax lpSa=Zax lpSa∧Qz42=Qz42∧ [stB s,stB c]= [stB s13,stB c14]∧((Zab (StT.rows s13)=Zab (StT.rows c14)∧(Zab (StT.ps s13)≤1000∧∀(p:List Int),p∈StT.ps s13→Zab p≤1000000)∧(Zab (StT.qs s13)≤1000∧∀(q:List Int),q∈StT.qs s13→Zab q≤1000000)∧(Zab (StT.rows s13)≤1000∧∀(r:Row),r∈StT.rows s13→Zab (Prod.snd r)≤1000)∧Zab (StT.pf s13)≤1000000)∧z15=decide (StT.rows s13=StT.rows c14))∧BIf z15 (∀(i:Int),R (.d (bo true)) b) (∀(i:Int),R (.d (bo false)) b)))))))):=by kernel_rfl
def eqTr (a c:TrT):Bool:=a.iv==c.iv&&(a.bg==c.bg&&(a.fi==c.fi&&(a.ct==c.ct&&a.sd==c.sd)))
theorem BVa9 {a c:TrT}:eqTr a c=true↔a=c:=by
 obtain ⟨a1,a2,a3,a4,a5⟩:=a
 obtain ⟨c1,c2,c3,c4,c5⟩:=c
 simp [eqTr]
def sameP (s c:StT):Bool:=eqN s.no c.no&&(eqTr s.tr c.tr&&(decide (s.ps=c.ps)&&(decide (s.qs=c.qs)&&(decide (s.pf=c.pf)&&decide (s.rows=c.rows)))))
theorem APa9 {s c:StT}:sameP s c=true↔s=c:=by
 obtain ⟨a1,a2,a3,a4,a5,a6⟩:=s
 obtain ⟨c1,c2,c3,c4,c5,c6⟩:=c
 simp only [sameP,Zan,BOv9,BVa9,decide_eq_true_eq,StT.mk.injEq]
 constructor
 · rintro ⟨h1,h2,h3,h4,h5,h6⟩;exact ⟨h1,h3,h4,h6,h5,h2⟩
 · rintro ⟨h1,h3,h4,h6,h5,h2⟩;exact ⟨h1,h2,h3,h4,h5,h6⟩
theorem pcSm (s c:StT) (hs:AAt9 s):PCall prog 19 [stV s,stV c] (.d (bo (sameP s c))):=by
 refine Zcd (n:=100) (u:=false) (fun _=>wlSa) mixed CEs9 Zac (fun Ev=>BXp9) func19 (by rfl) (by rfl) fun Ev bb=> ?_
 rw [BRr9,ABs9,ABs9]
 have he:(Zba (StT.no s)==Zba (StT.no c)&&(Zbi (StT.no s)==Zbi (StT.no c)&&(Zbl (StT.no s)==Zbl (StT.no c)&&(Zbj (StT.no s)==Zbj (StT.no c)&&true))))=eqN s.no c.no:=by simp only [eqN,Bool.and_true]
 have ht:(Zda (StT.tr s)==Zda (StT.tr c)&&(Zdc (StT.tr s)==Zdc (StT.tr c)&&(Zdd (StT.tr s)==Zdd (StT.tr c)&&(Zde (StT.tr s)==Zde (StT.tr c)&&(Zcp (StT.tr s)==Zcp (StT.tr c)&&true)))))=eqTr s.tr c.tr:=by simp only [eqTr,Bool.and_true]
 rw [he,ht]
 refine Zaj (fun g=>by rw [sameP,nbt g];rfl) fun g1=>Zaj (fun g=>by rw [sameP,nbt g,Bool.false_and,Zdk]) fun g2=>Zaj (fun g=> ?_) fun g3=>⟨s.ps,c.ps,_,rfl,⟨⟨by have:=hs.1.1;omega,fun p hp=>by have:=hs.1.2 p hp;omega⟩,rfl⟩,Zaj (fun g=>by rw [sameP,nbt g];simp) fun g4=>⟨s.qs,c.qs,_,rfl,⟨⟨by have:=hs.2.1.1;omega,fun p hp=>by have:=hs.2.1.2 p hp;omega⟩,rfl⟩,Zaj (fun g=>by rw [sameP,nbt g];simp) fun g5=>⟨s.pf,c.pf,_,rfl,⟨by have:=hs.2.2.2;omega,rfl⟩,Zaj (fun g=>by rw [sameP,nbt g];simp) fun g6=>⟨s,c,_,rfl,rfl,rfl,⟨⟨by simp at g3;omega,hs⟩,rfl⟩, ?_⟩⟩⟩⟩
 · rw [sameP,decide_eq_false (p:=s.rows=c.rows) (fun h=>by rw [h] at g;simp at g)];simp
 · have e:sameP s c=decide (s.rows=c.rows):=by rw [sameP,nbf g1,nbf g2,nbf g4,nbf g5,nbf g6];simp
   rw [e]
   exact Zaj (fun h i=>by rw [h]) fun h i=>by rw [h]
def cSm (args:List AV) (K:AV→Prop):Prop:=∃(s c:StT) (z:Bool),args= [stV s,stV c]∧(AAt9 s∧z=sameP s c)∧K (.d (bo z))
theorem CKb9:∀args K,cSm args K→∃x,PCall prog 19 args x∧K x:=by
 rintro _ K ⟨s,c,_,rfl,⟨hs,rfl⟩,h⟩;exact ⟨_,pcSm s c hs,h⟩
def fewT (s:StT):Bool:=fewSI s.sp
theorem BKy9 {s:StT} (h:fewT s=true):AAt9 s:=by
 simp only [fewT,fewSI,Zan,Bool.not_eq_true',decide_eq_false_iff_not] at h
 obtain ⟨h1,h2,h3,h4,h5,h6,h7⟩:=h
 have h1:¬(s.ps.length:Int)>20:=h1
 have h2:¬(s.qs.length:Int)>20:=h2
 have h3:¬((rowsR s.rows).length:Int)>40:=h3
 have h4:¬(s.pf.length:Int)>40:=h4
 rw [ABs9] at h3
 refine ⟨⟨by omega,fun p hp=> ?_⟩,⟨by omega,fun q hq=> ?_⟩,⟨by omega,fun r hr=> ?_⟩,by omega⟩
 · have h5:anyP s.ps=false:=h5
   rw [anyP,List.any_eq_false] at h5
   obtain ⟨i,hi⟩:=List.mem_iff_getElem?.1 hp
   have hi':=(List.getElem?_eq_some_iff.1 hi).1
   have:=h5 i (Zcr.2 hi')
   rw [nthL,List.getD_eq_getElem?_getD,hi] at this
   simp at this;omega
 · have h6:anyQ s.qs=false:=h6
   rw [anyQ,List.any_eq_false] at h6
   obtain ⟨i,hi⟩:=List.mem_iff_getElem?.1 hq
   have hi':=(List.getElem?_eq_some_iff.1 hi).1
   have:=h6 i (Zcr.2 hi')
   rw [nthL,List.getD_eq_getElem?_getD,hi] at this
   simp at this;omega
 · have h7:anyR (rowsR s.rows)=false:=h7
   rw [anyR,List.any_eq_false] at h7
   obtain ⟨i,hi⟩:=List.mem_iff_getElem?.1 hr
   have hi':=(List.getElem?_eq_some_iff.1 hi).1
   have:=h7 i (Zcr.2 (by rw [ABs9];exact hi'))
   have e:nthR (rowsR s.rows) i= [i64 r.1, .sl 1 (AAa9 r.2)]:=by simp [nthR,rowsR,rowD,hi]
   rw [e,BSb9,AAh9] at this
   simp at this;omega
theorem CGv9 (s:StT) (near:List (List Dv)):PCall prog 14 [stV s, .d (.sl 31 near)] (.d (bo (fewT s&&decide ((near.length:Int)≤100)))):=by
 refine Zaz (n:=100) (u:=false) mixed (Zaf CEa9 Zah) Zac func14 (by rfl) (by rfl) fun Ev bb=> ?_
 rw [CCl9]
 refine ⟨s.sp,_,rfl,⟨fun r hr=> ?_,rfl⟩, ?_⟩
 · have hr:r∈rowsR s.rows:=hr
   simp only [rowsR,Zbo] at hr
   obtain ⟨x,_,rfl⟩:=hr
   exact ⟨_,_,rfl⟩
 · show BIf (fewT s) _ _
   exact Zaj (fun h=>by rw [h];rfl) fun h=>by rw [h];rfl
def cFewL (args:List AV) (K:AV→Prop):Prop:=∃(s:StT) (near:List (List Dv)) (z:Bool),args= [stV s, .d (.sl 31 near)]∧z=(fewT s&&decide ((near.length:Int)≤100))∧K (.d (bo z))
theorem BWc9:∀args K,cFewL args K→∃x,PCall prog 14 args x∧K x:=by
 rintro _ K ⟨s,n,_,rfl,rfl,h⟩;exact ⟨_,CGv9 s n,h⟩
noncomputable def lpSb:Code:=sub [1,1,0,1,2,3] (code f20)
def bkB (x:BlkT):Blk:=⟨bkL x,false,false,0⟩
def tmSb (n i:Int):List AV:= [.bad, .bad, .ptr 0 0, .ptr 1 0]++Zag 33 .bad++ [.d (i64 n), .d (i64 i)]++Zag 14 .bad
abbrev Qz25 (v0:BlkT) (v1:BlkT):= [Blk.mk (bkL v0) false false 0,Blk.mk (bkL v1) false false 0]
theorem rSb (s c:BlkT) (n i:Int):wpc prog ⟨[], [],wl,y,false⟩ 100 lpSb (tmSb n i) [bkB s,bkB c] b (maskT [2,3,4,37,38] K)=(BIf (decide (i<n)) (BIf (true&&decide (0≤i)) (∃(x0:Int),(digR (BlkT.pf s))[Zam i]? =some [u64 x0]∧BIf (true&&decide (0≤i)) (∃(x3:Int),(digR (BlkT.pf c))[Zam i]? =some [u64 x3]∧BIf (x0 !=x3) (K .ret (Zaq::Zaq::Zbe 0 0::Zbe 1 0::Zae (bo false)::bds 32 (Zae (i64 n)::Zae (i64 i)::bds 14 [])) (Qz25 s c) b) (K .normal (Zaq::Zaq::Zbe 0 0::Zbe 1 0::bds 33 (Zae (i64 n)::Zae (i64 (Zaa .i64 (i+1)))::bds 14 [])) (Qz25 s c) b)) False) False) (K (Zcy 0) (Zaq::Zaq::Zbe 0 0::Zbe 1 0::bds 33 (Zae (i64 n)::Zae (i64 i)::bds 14 [])) (Qz25 s c) b)):=by kernel_rfl
theorem wrSb {Ev:Env prog} {b:Ev.β} {Q:Exit→St Ev.β→Prop} (s c:BlkT) (hl:s.pf.length=c.pf.length) (hb:s.pf.length≤1000000) (h1:s.pf=c.pf→∀i:Int,Q (.exit 0) ⟨tmSb s.pf.length i, [bkB s,bkB c],b⟩) (h2:s.pf≠c.pf→∀i:Int,Q .ret ⟨(tmSb s.pf.length i).set 4 (.d (bo false)), [bkB s,bkB c],b⟩):
   WR Ev lpSb (s.pf.length+1) ⟨tmSb s.pf.length (0:Nat), [bkB s,bkB c],b⟩ Q:=by
 refine WR.scan (X:=⟨[], [],wlW Ev,Ev.Y,false⟩) (k:=100) [2,3,4,37,38] mixed (CX.Ok.of Zah Zac) s.pf.length (fun i=>nth s.pf i !=nth c.pf i) (fun i=>tmSb s.pf.length (i:Nat)) (fun i=>(tmSb s.pf.length (i:Nat)).set 4 (.d (bo false))) [bkB s,bkB c] 0 (fun i hi K k1 k2=> ?_) (fun K k1=> ?_) (fun h=>h1 ?_ _) fun h i=>h2 ?_ _
 · rw [rSb,wrapN (by omega),Zas]
   exact Zbf (by simp<;>omega) (Zbf (by simp) ⟨nth s.pf i,AHo9 hi,Zbf (by simp) ⟨nth c.pf i,AHo9 (by omega),Zaj (fun g=>k1 g) fun g=>k2 g⟩⟩)
 · rw [rSb]
   exact Zct (by simp) k1
 · rw [ANb9 hl] at h;simpa using h
 · rw [ANb9 hl] at h;simpa using h
def wlSb {β:Type}:WLT β:=fun t tm hp b K=>∃(s c:BlkT) (z:Bool),t= .loop lpSb∧ABb9 [2,3,37,38] 0 tm=tmSb (digR s.pf).length 0∧hp= [bkB s,bkB c]∧((s.pf.length=c.pf.length∧s.pf.length≤1000000)∧z=decide (s.pf=c.pf))∧
 BIf z (∀i:Int,K (.exit 0) (tmSb s.pf.length i) [bkB s,bkB c] b) (∀i:Int,K .ret ((tmSb s.pf.length i).set 4 (.d (bo false))) [bkB s,bkB c] b)
theorem BXo9 {Ev:Env prog} (c:Code) (tm:List AV) (hp:List Blk) (b:Ev.β) (K:Exit→List AV→List Blk→Ev.β→Prop) (h:wlSb c tm hp b K):W Ev c ⟨tm,hp,b⟩ (fun e s=>K e s.tm s.hp s.b):=by
 obtain ⟨s,d,z,rfl,htm,rfl,⟨⟨hl,hs⟩,hz⟩,hK⟩:=h
 rw [AAn9] at htm
 refine W.cast (htm▸AAg9 _ tm 0) (Zbt _) ?_
 exact W.rounds (wrSb (Q:=fun e s=>K e s.tm s.hp s.b) s d hl hs (fun h=>by rw [hz,decide_eq_true h] at hK;exact hK) fun h=>by rw [hz,decide_eq_false h] at hK;exact hK)
def TSb:List (Nat×(List AV→(AV→Prop)→Prop)):= [(31,BHg9)]
theorem CKx9:AAf9 prog TSb:=Zaf AKu9 Zah
abbrev Qz31 (v0:BlkT):=Zaq::Zaq::Zbe 0 0::Zbe 1 0::bds 33 (Zae (i64 ((Zab (digR (BlkT.pf v0)):Nat):Int))::Zae (i64 0)::bds 14 [])
theorem BRs9 (s c:BlkT):wpFn prog ⟨TSb, [],wlSb,y,false⟩ 100 f20 [bkV s,bkV c] b R=(BIf (BlkT.n s !=BlkT.n c) (R (.d (bo false)) b) (BIf (BlkT.s s !=BlkT.s c) (R (.d (bo false)) b) (∃(a0:List Int) (c1:List Int) (z2:Bool), [Zae (Zai 1 (AAa9 (BlkT.d s))),Zae (Zai 1 (AAa9 (BlkT.d c)))]=(Qz30 a0 c1)∧(Zab a0≤9223372036854775807∧z2=decide (a0=c1))∧BIf (!z2) (R (.d (bo false)) b) (BIf (((Zab (digR (BlkT.pf s)):Nat):Int) !=((Zab (digR (BlkT.pf c)):Nat):Int)) (R (.d (bo false)) b) (∃(s3:BlkT) (c4:BlkT) (z5:Bool),Zax lpSb=Zax lpSb∧(Qz31 s)=(Qz31 s3)∧(Qz25 s c)=(Qz25 s3 c4)∧((Zab (BlkT.pf s3)=Zab (BlkT.pf c4)∧Zab (BlkT.pf s3)≤1000000)∧z5=decide (BlkT.pf s3=BlkT.pf c4))∧BIf z5 (∀(i:Int),R (.d (bo true)) b) (∀(i:Int),R (.d (bo false)) b)))))):=by kernel_rfl
def sameK (s c:BlkT):Bool:=s.n==c.n&&(s.s==c.s&&(decide (s.d=c.d)&&decide (s.pf=c.pf)))
theorem CAp9 (s c:BlkT) (h1:s.d.length≤1000000) (h2:s.pf.length≤1000000):PCall prog 20 [bkV s,bkV c] (.d (bo (sameK s c))):=by
 refine Zcd (n:=100) (u:=false) (fun _=>wlSb) mixed CKx9 Zac (fun Ev=>BXo9) func20 (by rfl) (by rfl) fun Ev bb=> ?_
 rw [BRs9,AAn9,AAn9]
 have ne:∀x y:Int,(x !=y)= !(x==y):=fun x y=>rfl
 refine Zaj (fun g=>by rw [sameK,show (s.n==c.n)=false by simpa using g];rfl) fun g1=>Zaj (fun g=>by rw [sameK,show (s.s==c.s)=false by simpa using g];simp) fun g2=>⟨s.d,c.d,_,rfl,⟨by omega,rfl⟩,Zaj (fun g=>by rw [sameK,nbt g];simp) fun g3=>Zaj (fun g=> ?_) fun g4=>⟨s,c,_,rfl,by first|rfl|rw [AAn9],rfl,⟨⟨by simp at g4;omega,h2⟩,rfl⟩, ?_⟩⟩
 · rw [sameK,decide_eq_false (p:=s.pf=c.pf) (fun h=>by rw [h] at g;simp at g)];simp
 · have e:sameK s c=decide (s.pf=c.pf):=by
     rw [sameK,show (s.n==c.n)=true by simpa using g1,show (s.s==c.s)=true by simpa using g2,nbf g3];rfl
   rw [e]
   exact Zaj (fun h i=>by rw [h]) fun h i=>by rw [h]
def CDi9 (args:List AV) (K:AV→Prop):Prop:=∃(s c:BlkT) (z:Bool),args= [bkV s,bkV c]∧((s.d.length≤1000000∧s.pf.length≤1000000)∧z=sameK s c)∧K (.d (bo z))
theorem BLz9:∀args K,CDi9 args K→∃x,PCall prog 20 args x∧K x:=by
 rintro _ K ⟨s,c,_,rfl,⟨⟨h1,h2⟩,rfl⟩,h⟩;exact ⟨_,CAp9 s c h1 h2,h⟩
noncomputable def lpPg:Code:=sub [1,1,0,1,2,3] (code f45)
def prgF (i:Nat):Int:=Zaa .u8 (Zaa .i64 (1+Zdv (Zaa .i64 ((i:Int)*5)) 251))
def prgP (k:Nat):List Int:=(Zbn k).map prgF++Zag (300 - k) 0
def prg:List Int:=(Zbn 300).map prgF
def tmPg (n i:Int):List AV:= [.bad, .bad, .bad, .gref 0 0 300 1, .bad, .bad, .bad, .bad, .d (i64 n), .d (i64 i)]++Zag 12 .bad
theorem rPg (cs:List AV) (n i:Int):wpc prog ⟨[],GB5,wl,y,false⟩ 100 lpPg (tmPg n i) [blkG cs 0] b (maskT [3,8,9] K)=(BIf (decide (i<n)) (0=0∧BIf (decide (0≤i)&&decide (i<(300:Int))) (0=0∧BIf (decide (Zam i*1+1≤Zab cs)) (K .normal (bds 3 (AV.gref 0 0 300 1::bds 4 (Zae (i64 n)::Zae (i64 (Zaa .i64 (i+1)))::bds 12 []))) [Blk.mk (List.take (Zam i*1) cs++ [Zae (u8 (Zaa .u8 (Zaa .i64 ((1:Int)+Zdv (Zaa .i64 (i*(5:Int))) (251:Int)))))]++List.drop (Zam i*1+1) cs) false true 0] b) False) False) (K (Zcy 0) (bds 3 (AV.gref 0 0 300 1::bds 4 (Zae (i64 n)::Zae (i64 i)::bds 12 []))) [Blk.mk cs false true 0] b)):=by kernel_rfl
theorem BJm9 {k:Nat} (hk:k<300):(flatA (AAa9 (prgP k))).take (k*1)++ [Zae (u8 (prgF k))]++(flatA (AAa9 (prgP k))).drop (k*1+1)=flatA (AAa9 (prgP (k+1))):=by
 have e0:((Zbn k).map prgF).length=k:=by simp
 have e1:prgP (k+1)=(Zbn k).map prgF++ [prgF k]++Zag (300 - (k+1)) 0:=by
   rw [prgP,List.range_succ,List.map_append];rfl
 have e2:Zag (300 - k) (0:Int)=0::Zag (300 - (k+1)) 0:=by
   rw [show 300 - k=(300 - (k+1))+1 by omega,List.replicate_succ]
 rw [ADw9,ADw9,e1,Nat.mul_one,prgP,e2]
 rw [←List.map_take,←List.map_drop,List.take_left' e0,List.drop_append,List.drop_of_length_le (by omega),e0]
 simp
theorem BSl9 {k:Nat} (hk:k≤300):(prgP k).length=300:=by simp [prgP];omega
theorem wrPg {Ev:Env prog} {b:Ev.β} {Q:Exit→St Ev.β→Prop}:∀(n k:Nat),300 - k=n→k≤300→
   (∀i:Int,Q (.exit 0) ⟨tmPg 300 i, [blkG (flatA (AAa9 prg)) 0],b⟩)→WR Ev lpPg (n+1) ⟨tmPg 300 k, [blkG (flatA (AAa9 (prgP k))) 0],b⟩ Q
 | n,k,hn,hk,h=>by
   refine WR.ofMaskT [3,8,9] mixed (CX.Ok.of (u:=false) Zah BXe9) (k:=100) ?_
   rw [rPg]
   refine Zaj (fun g=> ?_) fun g=> ?_
   · have hlt:k<300:=by have:=of_decide_eq_true g;omega
     refine ⟨rfl,Zbf (by simp<;>omega) ⟨rfl,Zbf (by rw [ADw9,List.length_map,BSl9 hk];simp<;>omega) ?_⟩⟩
     rw [Zas,show Zaa .u8 (Zaa .i64 (1+Zdv (Zaa .i64 ((k:Int)*5)) 251))=prgF k from rfl,BJm9 hlt,AAu9 (n:=300) hlt (by omega)]
     cases n with
     |zero=>omega
     |succ n=>exact wrPg n (k+1) (by omega) (by omega) h
   · have hk:k=300:=by have:=of_decide_eq_false g;omega
     subst hk
     have e:prgP 300=prg:=by rw [prgP,Nat.sub_self,List.replicate_zero,List.append_nil];rfl
     rw [e];exact h _
def wlPg {β:Type}:WLT β:=fun c tm hp b K=>c= .loop lpPg∧ABb9 [3,8,9] 0 tm=tmPg 300 0∧hp= [blkG (flatA (Zag 300 [u8 0])) 0]∧∃z:List Int,z=prg∧∀k:Int,K (.exit 0) (tmPg 300 k) [blkG (flatA (AAa9 z)) 0] b
theorem BXu9 {Ev:Env prog} (c:Code) (tm:List AV) (hp:List Blk) (b:Ev.β) (K:Exit→List AV→List Blk→Ev.β→Prop) (h:wlPg c tm hp b K):W Ev c ⟨tm,hp,b⟩ (fun e s=>K e s.tm s.hp s.b):=by
 obtain ⟨rfl,htm,rfl,z,rfl,hK⟩:=h
 refine W.cast (htm▸AAg9 _ tm 0) (Zbt _) ?_
 have e:Zag 300 [u8 0]=AAa9 (prgP 0):=by rw [prgP,List.range_zero,List.map_nil,List.nil_append,AAa9,List.map_replicate]
 rw [e]
 exact W.rounds (wrPg (Q:=fun e s=>K e s.tm s.hp s.b) 300 0 rfl (by omega) hK)
abbrev Qz46:List AV:=bds 3 (AV.gref 0 0 300 1::bds 4 (Zae (i64 300)::Zae (i64 0)::bds 12 []))
theorem BDa9:wpFn prog ⟨[],GB5,wlPg,y,false⟩ 100 f45 [.d (i64 300)] b R=(0=0∧Zax lpPg=Zax lpPg∧Qz46=Qz46∧ [Blk.mk (Zag 300 (Zae (u8 0))) false true 0]= [Blk.mk (Zag 300 (Zae (u8 0))) false true 0]∧∃(z0:List Int),z0=prg∧∀(k:Int),0=0∧∃(xs1:List (List Dv)),flatA (AAa9 z0)=flatA xs1∧Zab xs1=300∧(∀(r:List Dv),r∈xs1→Zab r=1)∧R (.d (Zai 1 xs1)) b):=by kernel_rfl
theorem AIh9:prg.length=300:=by simp [prg]
theorem BJu9:PCall prog 45 [.d (i64 300)] (.d (.sl 1 (AAa9 prg))):=by
 refine Zcd (n:=100) (u:=false) (fun _=>wlPg) mixed Zah BXe9 (fun Ev=>BXu9) func45 (by rfl) (by rfl) fun Ev bb=> ?_
 rw [BDa9]
 refine ⟨rfl,rfl,rfl,rfl,_,rfl,fun _=>⟨rfl,AAa9 prg,rfl,by rw [AAh9,AIh9],BMt9,rfl⟩⟩
def BGt9 (args:List AV) (K:AV→Prop):Prop:=∃z:List Int,args= [.d (i64 300)]∧z=prg∧K (.d (.sl 1 (AAa9 z)))
theorem AZx9:∀args K,BGt9 args K→∃x,PCall prog 45 args x∧K x:=by
 rintro _ K ⟨_,rfl,rfl,h⟩;exact ⟨_,BJu9,h⟩
set_option maxRecDepth 100000
set_option maxHeartbeats 0
def BOw9 (args:List AV) (K:AV→Prop):Prop:=∃(s:StT) (z:List Int) (e:Bool),args= [stV s]∧(AAt9 s∧(z,e)=AOp9 s.sp)∧K (.tup [.d (.sl 1 (AAa9 z)), .d (bo e)])
theorem BFs9:∀args K,BOw9 args K→∃x,PCall prog 30 args x∧K x:=by
 rintro _ K ⟨s,z,e,rfl,⟨hs,he⟩,h⟩
 exact BLu9 _ K ⟨s.sp,z,e,rfl,⟨by have:=hs.1.1;show s.ps.length≤_;omega,he⟩,h⟩
def THe:List (Nat×(List AV→(AV→Prop)→Prop)):= [(45,BGt9),(27,BOz9),(25,AYb9),(21,lessC BVn9),(34,cEncB),(15,lessC AKs9),(29,BPl9),(28,cFeed),(30,BOw9),(17,semC BGd9),(31,BHg9)]
theorem CLl9:AAf9 prog THe:=Zaf AZx9 (Zaf BFy9 (Zaf AUv9 (Zaf (APj9 AXs9) (Zaf AUs9 (Zaf (APj9 AHy9) (Zaf BGu9 (Zaf BWd9 (Zaf BFs9 (Zaf (BZo9 ASu9) (Zaf AKu9 Zah))))))))))
abbrev Qz41 (v0:StT) (v1:List NearT) (v2:Int):= [stV v0,Zae (Zai 31 (nearR v1)),Zae (i64 v2)]
theorem BRm9:wpFn prog ⟨THe, [],wl,y,false⟩ 200 f13 [] b R=(∃(z0:List Int), [Zae (i64 300)]= [Zae (i64 300)]∧z0=prg∧∃(p1:List Int) (q2:List (List Int)) (e3:Int), [Zae (Zai 1 (AAa9 z0))]= [Zae (Zai 1 (AAa9 p1))]∧(Zab p1≤9223372036854775807∧(q2,e3)=BIk9 p1)∧∃(v4:Int) (t5:Int) (p6:List Int) (z7:NotT) (e8:Int), [Zae (i64 2),Zae (Zai 1 (AAa9 z0)),Zae (i64 100)]= [Zae (i64 v4),Zae (Zai 1 (AAa9 p6)),Zae (i64 t5)]∧(Zab p6≤9223372036854775807∧(z7,e8)=annS v4 p6 t5)∧∃(args9:List AV),LeVs [Zbc [Zae (i64 0),Zae (i64 0),Zae (u64 0),Zae (i64 0),Zae (Zfa (.slice none 0 0)),Zae (Zfa (.slice none 0 0)),Zae (Zfa (.slice none 0 0)),Zae (Zfa (.slice none 0 0)),Zae (i64 0),Zae (i64 0),Zae (i64 0),Zae (i64 0),Zae (i64 7)],noV z7,Zae (i64 1),Zae (i64 5)] args9∧∃(s10:StT) (n11:NotT) (p12:Int) (f13:Int) (z14:StT),args9= [stV s10,noV n11,Zae (i64 p12),Zae (i64 f13)]∧((AAt9 s10)∧z14=hearS s10 n11 p12 f13)∧BIf (e3 !=(0:Int)) (R (.d (bo false)) b) (BIf (e8 !=(0:Int)) (R (.d (bo false)) b) (BIf (!(Zba (StT.no z14)==Zba z7&&(Zbi (StT.no z14)==Zbi z7&&(Zbl (StT.no z14)==Zbl z7&&(Zbj (StT.no z14)==Zbj z7&&true))))) (R (.d (bo false)) b) (BIf (Zda (StT.tr z14) !=(1:Int)) (R (.d (bo false)) b) (BIf (Zcp (StT.tr z14) !=(7:Int)) (R (.d (bo false)) b) (∃(xs15:List (List Dv)),(AAc9 q2)[1]? =some [Zai 1 xs15]∧∃(p18:List Int) (n19:Int) (s20:Int) (d21:List Int), [Zae (Zai 1 xs15),Zae (i64 1),Zae (i64 0)]=(Qz49 p18 n19 s20)∧(encOk p18 n19 s20=true∧d21=encS p18 s20)∧∃(args22:List AV),LeVs [stV z14,Zbc (Qz21 n19 s20 d21)] args22∧∃(s23:StT) (x24:BlkT) (z25:StT) (e26:Int),args22= [stV s23,bkV x24]∧(((AAt9 s23)∧Zab (BlkT.pf x24)≤1000000)∧(z25,e26)=recvT s23 x24)∧∃(args27:List AV),LeVs [Zbc Qz3,Zbc (Qz21 n19 s20 d21)] args27∧∃(s28:StT) (x29:BlkT) (z30:StT) (e31:Int),args27= [stV s28,bkV x29]∧(((AAt9 s28)∧Zab (BlkT.pf x29)≤1000000)∧(z30,e31)=recvT s28 x29)∧([]:List AV)= []∧∃(z32:List Int),z32=ss0∧∃(no33:NotT) (ps34:List (List Int)) (k35:Nat) (t36:TrT) (st37:StT) (ss38:List Int) (z39:StT), [stV z14,Zae (Zai 1 (AAc9 q2)),Zae (i64 0),Zae (Zai 1 (intsR z32))]= [stV st37,Zae (Zai 1 (AAc9 ps34)),Zae (i64 (k35:Int)),Zae (Zai 1 (intsR ss38))]∧((Lays no33 ps34∧k35<Zab ps34∧(∀(x:Int),x∈nthL ps34 k35→(0:Int)≤x∧x<(256:Int))∧ABf9 t36=true∧(∀(s:Int),s∈ss38→seedS s=true)∧Zab ss38≤1000∧(st37=laySt no33 ps34 (k35+1) [] [] t36∨∃(l40:List Row) (q41:List Int),st37=laySt no33 ps34 k35 l40 q41 t36∧Tru (nthL ps34 k35) l40∧Zab l40<16∧(l40≠ []→q41=ACh9 ps34 k35)∧(l40≠ []∨q41= [])))∧z39=feedT ps34 k35 st37 ss38)∧([]:List AV)= []∧∃(z42:List Int),z42=ss0∧∃(no43:NotT) (ps44:List (List Int)) (k45:Nat) (t46:TrT) (st47:StT) (ss48:List Int) (z49:StT), [stV z39,Zae (Zai 1 (AAc9 q2)),Zae (i64 1),Zae (Zai 1 (intsR z42))]= [stV st47,Zae (Zai 1 (AAc9 ps44)),Zae (i64 (k45:Int)),Zae (Zai 1 (intsR ss48))]∧((Lays no43 ps44∧k45<Zab ps44∧(∀(x:Int),x∈nthL ps44 k45→(0:Int)≤x∧x<(256:Int))∧ABf9 t46=true∧(∀(s:Int),s∈ss48→seedS s=true)∧Zab ss48≤1000∧(st47=laySt no43 ps44 (k45+1) [] [] t46∨∃(l50:List Row) (q51:List Int),st47=laySt no43 ps44 k45 l50 q51 t46∧Tru (nthL ps44 k45) l50∧Zab l50<16∧(l50≠ []→q51=ACh9 ps44 k45)∧(l50≠ []∨q51= [])))∧z49=feedT ps44 k45 st47 ss48)∧∃(s52:StT) (z53:List Int) (e54:Bool), [stV z49]= [stV s52]∧((AAt9 s52)∧(z53,e54)=AOp9 (StT.sp s52))∧∃(args55:List AV),LeVs [stV z49,Zbc (Qz21 n19 s20 d21)] args55∧∃(s56:StT) (x57:BlkT) (z58:StT) (e59:Int),args55= [stV s56,bkV x57]∧(((AAt9 s56)∧Zab (BlkT.pf x57)≤1000000)∧(z58,e59)=recvT s56 x57)∧∃(args60:List AV),SemVs [stV z49,AV.full 31 [[i64 0,i64 0,i64 0,i64 0,i64 0,i64 0,i64 0,i64 0,i64 0,i64 0,i64 0,i64 0,Zfa (.slice none 0 0),Zfa (.slice none 0 0),Zfa (.slice none 0 0),Zfa (.slice none 0 0),bo false,Zfa (.slice none 0 0),Zfa (.slice none 0 0),Zfa (.slice none 0 0),i64 (Zba z7),i64 (Zbi z7),u64 (Zbl z7),i64 (Zbj z7),i64 1,i64 0,i64 0,i64 0,Zfa (.slice none 0 0),Zfa (.slice none 0 0),bo false]],Zae (i64 5)] args60∧∃(s61:StT) (l62:List NearT) (f63:Int) (z64:StT) (x65:BlkT) (e66:Bool),args60=(Qz41 s61 l62 f63)∧(((AAt9 s61)∧Zab l62≤1000000)∧(z64,x65,e66)=ACb9 s61 l62 f63)∧BIf (e26==(6:Int)) (BIf (e31==(4:Int)) (BIf (e59==(10:Int)) (BIf e54 (BIf (((Zab (AAc9 (StT.ps z39)):Nat):Int)==(1:Int)) (∃(a67:List Int) (c68:List Int) (z69:Bool),(Qz30 z53 z0)=(Qz30 a67 c68)∧(Zab a67≤9223372036854775807∧z69=decide (a67=c68))∧BIf z69 (BIf e66 (BIf (BlkT.n x65==(1:Int)) (BIf (BlkT.s x65==(327:Int)) (R (.d (bo (((Zab (digR (BlkT.pf x65)):Nat):Int)==(1:Int)))) b) (R (.d (bo false)) b)) (R (.d (bo false)) b)) (R (.d (bo false)) b)) (R (.d (bo false)) b)) (R (.d (bo false)) b)) (R (.d (bo false)) b)) (R (.d (bo false)) b)) (R (.d (bo false)) b)) (R (.d (bo false)) b))))))):=by kernel_rfl
set_option maxRecDepth 20000
set_option maxHeartbeats 2000000
def hps:List (List Int):=ADn9 prg
def hno:NotT:=(annS 2 prg 100).1
def ht:TrT:=AEf9 7 1 5
theorem hsz:ACl9 (prg.length:Int)=true:=by rw [AIh9];decide
theorem hann:AAi9 2 (prg.length:Int) 100=true:=by rw [AIh9];decide
theorem CIb9:annS 2 prg 100=(hno,0):=by rw [hno,(APm9 hsz hann).1]
theorem hlays:Lays hno hps:=by
 have:=APm9 (v:=2) (t:=100) hsz hann
 rw [hno,this.1];exact this.2
theorem AFh9:hps.length=2:=by rw [hps,AKj9,AIh9]
theorem CAe9:∀x∈prg,IsB x:=by
 intro x hx
 obtain ⟨i,hi,rfl⟩:=Zbo.1 hx
 have hi:=Zcr.1 hi
 have key:∀i,i<300→IsB (prgF i):=by unfold IsB;decide+kernel
 exact key i hi
theorem BKs9 {k:Nat} (hk:k<2):AOg9 (nthL hps k):=fun x hx=>AYs9 CAe9 _ (ACo9 (by show k<hps.length;rw [AFh9];exact hk)) x hx
theorem AJj9:ABf9 ht=true:=BAb9 (.inl rfl) (by decide) (by decide)
theorem CIa9:AFn9 (1000003*7+5) (1 - 1 / 2)=0:=by
 have:=AIa9 (1000003*7+5) (n:=1 - 1 / 2) (by decide) (by decide)
 omega
theorem ht_fi:ht.fi=5:=by
 show (5:Int)+1 / 2+AFn9 (1000003*7+5) (1 - 1 / 2)=5
 rw [CIa9];decide
theorem CCg9:tickT ht 5=(ht,true):=by
 have e:AFl9 ht 5=ht:=by rw [AFl9,if_neg (by decide)]
 rw [tickT,if_pos (by rw [AJj9];decide),e,ht_fi];rfl
def zst (sd:Int):StT:=⟨⟨0,0,0,0⟩, [], [], [], [],⟨0,0,0,0,sd⟩⟩
def hst:StT:=laySt hno hps 0 [] [] ht
theorem ARv9:hno.v=2∧hno.n=300∧hno.t=100:=by
 rw [hno,(APm9 hsz hann).1]
 exact ⟨rfl,by show (prg.length:Int)=300;rw [AIh9];rfl,rfl⟩
theorem hhear:hearS (zst 7) hno 1 5=hst:=by
 obtain ⟨f1,f2,f3⟩:=ARv9
 have h1:ADo9 (zst 7) hno 1 5=true:=by
   rw [ADo9,show ABp9 (zst 7)=true by rw [ABp9,show AEz9 (zst 7)=true by decide];rfl,hlays.ann,f2,show ABn9 5=true by decide,show ABj9 300=2 by decide]
   simp
 have e:(newT 7 5).1=ht:=by rw [newT,if_pos (by decide)];rfl
 rw [hearS,if_neg (by rw [h1];decide),if_pos (by rw [f1];decide)]
 show StT.mk hno [] [] [] [] (newT 7 5).1=_
 rw [e];rfl
theorem hfeed {k:Nat} (hk:k<2):feedT hps k (laySt hno hps k [] [] ht) ss0=laySt hno hps (k+1) [] [] ht:=by
 have hk':k<hps.length:=by rw [AFh9];exact hk
 have hf:=BWr9 (p:=nthL hps k) (ms:=masks ss0) (BKs9 hk) (by decide+kernel) AUi9
 rcases AXc9 hlays hk' (BKs9 hk) AJj9 ss0 [] [] (by decide) (Tru.nil _) (by simp) (by simp) (.inr rfl) with h|⟨q,h1,h2⟩
 · exact h.1
 · omega
theorem hbad (m:Int) (hm:seedS m=true):badB (blkOf hps 1 m)=false:=by
 obtain ⟨c1,c2⟩:=AEd9.1 hm
 have hd:(encS (nthL hps 1) m).length=16:=by rw [ASg9 hm];exact ACv9 _ _
 have e:badB (blkOf hps 1 m)=(decide ((1:Int)<0)||(decide ((1:Int)≥16)||(decide (m<0)||(decide (m>1000000000)||(((encS (nthL hps 1) m).length:Int) !=16))))):=rfl
 rw [e,hd,decide_eq_false (p:=m<0) (by omega),decide_eq_false (p:=m>1000000000) (by omega)]
 rfl
def hblk:BlkT:=⟨1,0,encS (nthL hps 1) 0, []⟩
theorem hbad0:badB hblk=false:=by
 have:=hbad 0 (by decide)
 exact this
theorem CIc9:(recvT hst hblk).2=6:=by
 obtain ⟨a1,a2⟩:=AGe9 hlays (k:=0) (by omega) (l:= []) (q:= []) (Tru.nil []).good (by simp) (.inl rfl) (.inr rfl) AJj9
 have hf:fullP hst=false:=by
   rw [hst,fullP,ACk9 (by omega),show (laySt hno hps 0 [] [] ht).no=hno from rfl,hlays.cnt,AFh9];decide
 have hr:AAp9 hst hblk=6:=by
   rw [AAp9,if_neg (by rw [hst,a2,hbad0];decide),if_neg (by rw [hst,a1];decide),if_neg (by rw [hf];decide)]
   rfl
 rw [recvT,if_pos (by rw [hr];decide),hr]
theorem CId9:(recvT (zst 0) hblk).2=4:=by
 have hv:ABp9 (zst 0)=true:=by rw [ABp9,show AEz9 (zst 0)=true by decide];rfl
 have hr:AAp9 (zst 0) hblk=4:=by
   rw [AAp9,if_neg (by rw [hv,hbad0];decide),if_pos (by decide)]
 rw [recvT,if_pos (by rw [hr];decide),hr]
def hend:StT:=laySt hno hps 2 [] [] ht
theorem BKq9:AEz9 hend=false∧ABp9 hend=true:=AGe9 hlays (k:=2) (by rw [AFh9];omega) (l:= []) (q:= []) (Tru.nil []).good (by simp) (.inl rfl) (.inr rfl) AJj9
theorem hfull:(recvT hend hblk).2=10:=by
 have hf:fullP hend=true:=by
   rw [hend,fullP,ACk9 (by rw [AFh9];omega),show (laySt hno hps 2 [] [] ht).no=hno from rfl,hlays.cnt,AFh9];decide
 have hr:AAp9 hend hblk=10:=by
   rw [AAp9,if_neg (by rw [BKq9.2,hbad0];decide),if_neg (by rw [BKq9.1];decide),if_pos hf]
 rw [recvT,if_pos (by rw [hr];decide),hr]
theorem CHz9:AOp9 hend.sp=(prg,true):=by
 have h1:ABt9 hend.sp=true:=AGf9 hlays (by rw [AFh9];omega) [] [] ht
 have h2:hend.sp.ps=hps:=List.take_of_length_le (by rw [AFh9];omega)
 have h3:hend.sp.no.n=((prg.length:Nat):Int):=by rw [AIh9];exact ARv9.2.1
 have h4:=BEj9 (p:=prg) (n:=prg.length) hsz rfl
 rw [List.drop_of_length_le (Nat.le_refl _),if_pos (by rfl),Nat.sub_self,List.replicate_zero,List.append_nil,List.take_of_length_le (Nat.le_refl _)] at h4
 rw [AOp9,if_pos h1,h2,h3,show joinS hps prg.length=joinS (ADn9 prg) prg.length from rfl,h4];rfl
def hnear:NearT:=⟨0,0,0,0,0,0,0,0,0,0,0,0, [], [], [], [],false, [], [], [],hno,1,0,0,0, [], [],false⟩
theorem BKr9:(ACb9 hend [hnear] 5).2.2=true∧(ACb9 hend [hnear] 5).2.1.n=1∧(ACb9 hend [hnear] 5).2.1.s=327∧(ACb9 hend [hnear] 5).2.1.pf.length=1:=by
 have h1:AEc9 hend 5=true:=by rw [AEc9,BKq9.1,BKq9.2];decide
 have hl:lackP hend [hnear]= [1]:=by
   rw [lackP,List.filter_cons,if_pos (show eqN hnear.no hend.no=true from BOv9.2 rfl)];rfl
 have hp:hend.ps.length=2:=ACk9 (by rw [AFh9];omega) [] [] ht
 have hle:AEy9 [1] 2=1:=by decide
 have htk:tickT hend.tr 5=(ht,true):=CCg9
 rw [ACb9,if_neg (by rw [h1];decide),hl,hp,htk]
 rw [if_neg (by rw [show AEy9 [1] ((2:Nat):Int)=1 from hle];decide)]
 rw [show AEy9 [1] ((2:Nat):Int)=1 from hle]
 refine ⟨rfl,rfl,rfl, ?_⟩
 have e:nthL hend.qs (1:Int).toNat=ACh9 hps 1:=rfl
 show (nthL hend.qs (1:Int).toNat).length=1
 rw [e,ACh9,ADj9]
 generalize hm:hps.map leafS=now
 have hn:now.length=2:=by rw [←hm,List.length_map,AFh9]
 rw [hn]
 have e2:(nextL now).length=1:=by
   match now,hn with
   | [a,c],_=>rfl
 rw [ADa9,if_pos (by omega),ADa9,if_neg (by omega),AFc9,if_pos (by rw [hn];decide),AFc9,if_neg (by rw [e2];decide),AFc9]
 rfl
set_option maxRecDepth 100000
set_option maxHeartbeats 4000000
theorem zstLe (sd:Int):LeV (Zbc [Zae (i64 (0:Int)),Zae (i64 (0:Int)),Zae (u64 (0:Int)),Zae (i64 (0:Int)),Zae (Zfa (Zbp none 0 0)),Zae (Zfa (Zbp none 0 0)),Zae (Zfa (Zbp none 0 0)),Zae (Zfa (Zbp none 0 0)),Zae (i64 (0:Int)),Zae (i64 (0:Int)),Zae (i64 (0:Int)),Zae (i64 (0:Int)),Zae (i64 sd)]) (stV (zst sd)):=
 LeV.aggs (.cons .rfl (.cons .rfl (.cons .rfl (.cons .rfl (.cons (.nil rfl) (.cons (.nil rfl) (.cons (.nil rfl) (.cons (.nil rfl) (Zen _)))))))))
theorem BWl9 (n s:Int) (d:List Int):LeV (Zbc [Zae (i64 n),Zae (i64 s),Zae (Zai 1 (AAa9 d)),Zae (Zfa (Zbp none 0 0))]) (bkV ⟨n,s,d, []⟩):=
 LeV.aggs (.cons .rfl (.cons .rfl (.cons .rfl (.cons (.nil rfl) .nil))))
theorem CGx9 (n:NotT) (p:Int):AMp9 [[i64 (0:Int),i64 (0:Int),i64 (0:Int),i64 (0:Int),i64 (0:Int),i64 (0:Int),i64 (0:Int),i64 (0:Int),i64 (0:Int),i64 (0:Int),i64 (0:Int),i64 (0:Int),Zfa (Zbp none 0 0),Zfa (Zbp none 0 0),Zfa (Zbp none 0 0),Zfa (Zbp none 0 0),bo false,Zfa (Zbp none 0 0),Zfa (Zbp none 0 0),Zfa (Zbp none 0 0),i64 (Zba n),i64 (Zbi n),u64 (Zbl n),i64 (Zbj n),i64 p,i64 (0:Int),i64 (0:Int),i64 (0:Int),Zfa (Zbp none 0 0),Zfa (Zbp none 0 0),bo false]]
   (nearR [⟨0,0,0,0,0,0,0,0,0,0,0,0, [], [], [], [],false, [], [], [],n,p,0,0,0, [], [],false⟩]):=by
 refine .cons ?_ .nil
 have r:∀ {c:Dv} {xs ys:List Dv},AFy9 xs ys→AFy9 (c::xs) (c::ys):=fun h=> .cons .rfl h
 have z:∀ {k:Nat} {xs ys:List Dv},AFy9 xs ys→AFy9 (.s (.slice none 0 0)::xs) (.sl k []::ys):=fun h=> .cons .nil h
 exact r<|r<|r<|r<|r<|r<|r<|r<|r<|r<|r<|r<|z<|z<|z<|z<|r<|z<|z<|z<|r<|r<|r<|r<|r<|r<|r<|r<|z<|z<|r .nil
theorem hsmall {k:Nat} (hk:k≤2):AAt9 (laySt hno hps k [] [] ht):=by
 by_cases h0:k=0
 · subst h0
   exact ⟨⟨by simp [laySt],by simp [laySt]⟩,⟨by simp [laySt],by simp [laySt]⟩,⟨by simp [laySt],by simp [laySt]⟩,by simp [laySt]⟩
 · obtain ⟨j,rfl⟩:∃j,k=j+1:=⟨k - 1,by omega⟩
   exact Fed.small (k:=j) hlays (by rw [AFh9];omega) (.inl rfl)
theorem BXf9 (sd:Int):AAt9 (zst sd):=⟨⟨by simp [zst],by simp [zst]⟩,⟨by simp [zst],by simp [zst]⟩,⟨by simp [zst],by simp [zst]⟩,by simp [zst]⟩
theorem CAr9:PCall prog 13 [] (.d (bo true)):=by
 refine Zaz (n:=200) (u:=false) mixed CLl9 Zac func13 (by rfl) (by rfl) fun Ev bb=> ?_
 rw [BRm9]
 have hk1:(1:Nat)<hps.length:=by rw [AFh9];omega
 have hk0:(0:Nat)<hps.length:=by rw [AFh9];omega
 have hq1:(AAc9 hps)[1]? =some [Zai 1 (AAa9 (nthL hps 1))]:=by
   match hh:hps,AFh9 with
   | [a,c],_=>rfl
 have hl1:(nthL hps 1).length=256:=hlays.two _ (ACo9 hk1)
 have hs0:∀s∈ss0,seedS s=true:=by decide
 refine ⟨prg,rfl,rfl,prg,hps,0,rfl,⟨by rw [AIh9];omega,by rw [BIk9,if_pos hsz];rfl⟩,2,100,prg,hno,0,rfl,⟨by rw [AIh9];omega,CIb9.symm⟩, [stV (zst 7),noV hno, .d (i64 1), .d (i64 5)], .cons (zstLe 7) (Zen _),zst 7,hno,1,5,hst,rfl,⟨BXf9 7,hhear.symm⟩,
   Zct (by decide) (Zct (by decide) (Zct ?_ (Zct (by decide) (Zct (by decide) ⟨_,hq1,nthL hps 1,1,0,encS (nthL hps 1) 0,rfl,⟨by rw [encOk,hl1];decide,rfl⟩, [stV hst,bkV hblk], .cons .rfl (.cons (BWl9 _ _ _) .nil),hst,hblk,_,6,rfl,⟨⟨hsmall (by omega),by decide⟩,by rw [←CIc9]⟩,
     [stV (zst 0),bkV hblk], .cons (zstLe 0) (.cons (BWl9 _ _ _) .nil),zst 0,hblk,_,4,rfl,⟨⟨BXf9 0,by decide⟩,by rw [←CId9]⟩,rfl,ss0,rfl,
     hno,hps,0,ht,hst,ss0,laySt hno hps 1 [] [] ht,rfl,⟨⟨hlays,hk0,BKs9 (by omega),AJj9,hs0,by decide, .inr ⟨[], [],rfl,Tru.nil _,by simp,by simp, .inr rfl⟩⟩,(hfeed (k:=0) (by omega)).symm⟩,rfl,ss0,rfl,
     hno,hps,1,ht,laySt hno hps 1 [] [] ht,ss0,hend,rfl,⟨⟨hlays,hk1,BKs9 (by omega),AJj9,hs0,by decide, .inr ⟨[], [],rfl,Tru.nil _,by simp,by simp, .inr rfl⟩⟩,(hfeed (k:=1) (by omega)).symm⟩,
     hend,prg,true,rfl,⟨hsmall (by omega),CHz9.symm⟩, [stV hend,bkV hblk], .cons .rfl (.cons (BWl9 _ _ _) .nil),hend,hblk,_,10,rfl,⟨⟨hsmall (by omega),by decide⟩,by rw [←hfull]⟩,
     [stV hend, .d (.sl 31 (nearR [hnear])), .d (i64 5)], .cons .rfl (.cons (SemV.rows (CGx9 hno 1)) (.cons .rfl .nil)),hend, [hnear],5,(ACb9 hend [hnear] 5).1,(ACb9 hend [hnear] 5).2.1,true,rfl,⟨⟨hsmall (by omega),by decide⟩,by rw [←BKr9.1]⟩,
     Zbf (by decide) (Zbf (by decide) (Zbf (by decide) (Zbf rfl (Zbf ?_ ⟨prg,prg,true,rfl,⟨by rw [AIh9];omega,by simp⟩,Zbf rfl (Zbf rfl (Zbf ?_ (Zbf ?_ ?_)))⟩))))⟩))))⟩
 · show (!(hno.v==hno.v&&(hno.n==hno.n&&(hno.r==hno.r&&(hno.t==hno.t&&true)))))=false
   simp
 · rw [AAd9,ACk9 (k:=1) (by omega)];rfl
 · rw [BKr9.2.1];rfl
 · rw [BKr9.2.2.1];rfl
 · rw [AAn9,BKr9.2.2.2];rfl
def CDj9 (args:List AV) (K:AV→Prop):Prop:=args= []∧K (.d (bo true))
theorem BMa9:∀args K,CDj9 args K→∃x,PCall prog 13 args x∧K x:=by
 rintro _ K ⟨rfl,h⟩;exact ⟨_,CAr9,h⟩
end Go.Proofs.YtibhflogmbfpcaaGreatDoor.Am
namespace Go.Proofs.YtibhflogmbfpcaaGreatDoor.Am
open Go Go.RowKit Go.Proofs Go.ChangeShapes Go.WideShapes Go.ChangeAt Tryz
open AV renaming agg → Zbc, bad → Zaq, d → Zae, ptr → Zbe, rptr → Zcj
open BIf renaming f → Zct, of → Zaj, t → Zbf
open BitVec renaming ofInt → Zar
open Bool renaming and_eq_true → Zan, and_false → Zdk, eq_false_iff → Zez
open AAf9 renaming cons → Zaf, nil → Zah
open Go.Code renaming loop → Zax
open Dv renaming s → Zfa, sl → Zai
open Go.Exit renaming exit → Zcy
open Int renaming tmod → Zdv, toNat → Zam, toNat_natCast → Zas
open Go.IntKind renaming i64 → Zap, wrap → Zaa
open LeH renaming refl → Zbt
open LeVs renaming refl → Zen
open List renaming getElem?_eq_getElem → Zbk, length → Zab, mem_cons_of_mem → Zaw, mem_cons_self → Zay, mem_map → Zbo, mem_of_getElem? → Zbh, mem_range → Zcr, range → Zbn, replicate → Zag
open NotT renaming n → Zbi, r → Zbl, t → Zbj, v → Zba
open PCall renaming ofFn → Zaz, ofFnV → Zck, ofFnW → Zcd
open AAk9 renaming cons → Zci, nil → Zac
open TrT renaming bg → Zdc, ct → Zde, fi → Zdd, iv → Zda, sd → Zcp
open Go.Value renaming slice → Zbp
variable {β:Type} (b:β)
open AV (bad)
set_option linter.unusedVariables false
set_option maxRecDepth 20000
theorem CEp9:ownKnob Tryz.prog.godebug=none:=by kernel_rfl
theorem BAg9:laidOutB prog=true:=by kernel_rfl
def laid5:List (String×DataW Unit):= [("math/bits.deBruijn32tab",Rows.laid_math_bits_deBruijn32tab),("math/bits.deBruijn64tab",Rows.laid_math_bits_deBruijn64tab),("unicode/utf8.acceptRanges",Rows.laid_unicode_utf8_acceptRanges),("slotmesh/random.steps",Rows.laid_slotmesh_random_steps),("unicode/utf8.first",Rows.laid_unicode_utf8_first)]
theorem gn0:Tryz.prog.globalNamed "math/bits.deBruijn32tab" =some 0:=by kernel_rfl
theorem gn1:Tryz.prog.globalNamed "math/bits.deBruijn64tab" =some 1:=by kernel_rfl
theorem gn2:Tryz.prog.globalNamed "slotmesh/random.steps" =some 2:=by kernel_rfl
theorem gn5:Tryz.prog.globalNamed "unicode/utf8.acceptRanges" =some 5:=by kernel_rfl
theorem AWx9 {P:Program} {g n t:Nat} (h:(P.globals[g]?).map (·.type)=some t) (k:(((P.globals[g]?).map (·.type)).bind (flat P n)).isSome=true):∃tys,flat P n t=some tys:=by
 rw [h] at k;exact Option.isSome_iff_exists.1 k
theorem fl0:(((Tryz.prog.globals[0]?).map (·.type)).bind (flat prog 9)).isSome=true:=by kernel_rfl
theorem fl1:(((Tryz.prog.globals[1]?).map (·.type)).bind (flat prog 9)).isSome=true:=by kernel_rfl
theorem fl2:(((Tryz.prog.globals[2]?).map (·.type)).bind (flat prog 9)).isSome=true:=by kernel_rfl
theorem fl5:(((Tryz.prog.globals[5]?).map (·.type)).bind (flat prog 9)).isSome=true:=by kernel_rfl
theorem BUp9 {W:World} (h:laidMetH prog laid5 W):Glob (AllOf W) W:=by
 rw [MakeChecks.laidMetH_plain _ _ _ (by kernel_rfl)] at h
 obtain ⟨ps,⟨g0,t0,cs0,f0,p0,q0,hg0,ht0,hv0,hd0,⟨g1,t1,cs1,f1,p1,q1,hg1,ht1,hv1,hd1,⟨g5,t5,cs5,f5,p5,q5,hg5,ht5,hv5,hd5,⟨g2,t2,cs2,f2,p2,q2,hg2,ht2,hv2,hd2,_⟩,_⟩,_⟩,_⟩,_,_⟩:=h
 obtain rfl:=Option.some.inj (gn0.symm.trans hg0)
 obtain rfl:=Option.some.inj (gn1.symm.trans hg1)
 obtain rfl:=Option.some.inj (gn2.symm.trans hg2)
 obtain rfl:=Option.some.inj (gn5.symm.trans hg5)
 have e0:=AWx9 ht0 fl0
 have e1:=AWx9 ht1 fl1
 have e2:=AWx9 ht2 fl2
 have e5:=AWx9 ht5 fl5
 obtain ⟨tys0,e0⟩:=e0
 obtain ⟨tys1,e1⟩:=e1
 obtain ⟨tys2,e2⟩:=e2
 obtain ⟨tys5,e5⟩:=e5
 have v0:=BHy9 gn0 hv0 hd0 e0 (k:=9) (vs:=ABx9 0) (by kernel_rfl)
 have v1:=BHy9 gn1 hv1 hd1 e1 (k:=9) (vs:=ABx9 1) (by kernel_rfl)
 have v2:=BHy9 gn2 hv2 hd2 e2 (k:=9) (vs:=ABx9 2) (by kernel_rfl)
 have v5:=BHy9 gn5 hv5 hd5 e5 (k:=9) (vs:=ABx9 5) (by kernel_rfl)
 have one:∀g,g<6→∀v∈ABx9 g,v.oneCell'=true:=by
   have:(Zbn 6).all (fun g=>(ABx9 g).all fun v=>v.oneCell')=true:=by kernel_rfl
   intro g hg v hv
   exact List.all_eq_true.1 (List.all_eq_true.1 this g (Zcr.2 hg)) v hv
 refine CCi9 fun g hg j v hj=> ?_
 match g,hg with
 |0,_=>exact ⟨v0 j v hj,one 0 (by omega) v (Zbh hj)⟩
 |1,_=>exact ⟨v1 j v hj,one 1 (by omega) v (Zbh hj)⟩
 |2,_=>exact ⟨v2 j v hj,one 2 (by omega) v (Zbh hj)⟩
 |3,hg=>exact absurd rfl hg
 |4,hg=>exact absurd rfl hg
 |5,_=>exact ⟨v5 j v hj,one 5 (by omega) v (Zbh hj)⟩
 |n+6,hg=>exact absurd rfl hg
def BEs9 (r:Row):Prop:=r.2.length≤maxLen∧(∀x∈r.2,0≤x∧x<256)
theorem BFl9 {x:Dv} (h:HasTy (.sl [.int .u64]) x):∃p:List Int,x= .sl 1 (digR p)∧p.length≤maxLen∧True:=by
 cases h with
 | sl _ xs hl h=>
   have key:∀(xs:List (List Dv)),(∀row∈xs,AHj9 [.int .u64] row)→∃p:List Int,xs=digR p:=by
     intro xs
     induction xs with
     |nil=>exact fun _=>⟨[],rfl⟩
     | cons row xs ih=>
       intro h
       obtain ⟨p,rfl⟩:=ih fun r hr=>h r (Zaw _ hr)
       have h0:=h row (Zay ..)
       cases h0 with
       | cons h1 h2=>cases h2 with
         | nil=>cases h1 with
           |int _ n hw=>exact ⟨n::p,rfl⟩
   obtain ⟨p,rfl⟩:=key xs h
   exact ⟨p,rfl,by simpa [digR] using hl,trivial⟩
theorem BTr9 {x:Dv} (h:HasTy (.sl [.sl [.int .u8]]) x):∃ps:List (List Int),x= .sl 1 (AAc9 ps)∧ps.length≤maxLen∧True:=by
 cases h with
 | sl _ xs hl h=>
   have key:∀(xs:List (List Dv)),(∀row∈xs,AHj9 [.sl [.int .u8]] row)→∃p:List (List Int),xs=AAc9 p:=by
     intro xs
     induction xs with
     |nil=>exact fun _=>⟨[],rfl⟩
     | cons row xs ih=>
       intro h
       obtain ⟨p,rfl⟩:=ih fun r hr=>h r (Zaw _ hr)
       have h0:=h row (Zay ..)
       cases h0 with
       | cons h1 h2=>cases h2 with
         | nil=>
           obtain ⟨b,rfl,_⟩:=AUw9 h1
           exact ⟨b::p,rfl⟩
   obtain ⟨p,rfl⟩:=key xs h
   exact ⟨p,rfl,by simpa [AAc9] using hl,trivial⟩
theorem BJl9 {x:Dv} (h:HasTy (.sl [.sl [.int .u64]]) x):∃ps:List (List Int),x= .sl 1 (AAe9 ps):=by
 cases h with
 | sl _ xs hl h=>
   have key:∀(xs:List (List Dv)),(∀row∈xs,AHj9 [.sl [.int .u64]] row)→∃p:List (List Int),xs=AAe9 p:=by
     intro xs
     induction xs with
     |nil=>exact fun _=>⟨[],rfl⟩
     | cons row xs ih=>
       intro h
       obtain ⟨p,rfl⟩:=ih fun r hr=>h r (Zaw _ hr)
       have h0:=h row (Zay ..)
       cases h0 with
       | cons h1 h2=>cases h2 with
         | nil=>
           obtain ⟨b,rfl,_⟩:=BFl9 h1
           exact ⟨b::p,rfl⟩
   obtain ⟨p,rfl⟩:=key xs h
   exact ⟨p,rfl⟩
theorem BZt9 {x:Dv} (h:HasTy (.sl [.int .i64, .sl [.int .u8]]) x):∃l:List Row,x= .sl 2 (rowsR l)∧l.length≤maxLen∧∀r∈l,BEs9 r:=by
 cases h with
 | sl _ xs hl h=>
   have key:∀(xs:List (List Dv)),(∀row∈xs,AHj9 [.int .i64, .sl [.int .u8]] row)→∃l:List Row,xs=rowsR l∧∀r∈l,BEs9 r:=by
     intro xs
     induction xs with
     |nil=>exact fun _=>⟨[],rfl,fun a h=>by cases h⟩
     | cons row xs ih=>
       intro h
       obtain ⟨l,rfl,hp⟩:=ih fun r hr=>h r (Zaw _ hr)
       have h0:=h row (Zay ..)
       cases h0 with
       | cons h1 h2=>cases h2 with
         | cons h2 h3=>cases h3 with
           | nil=>cases h1 with
             | int _ n hw=>
               obtain ⟨p,rfl,h4,h5⟩:=AUw9 h2
               refine ⟨(n,p)::l,rfl,fun r hr=> ?_⟩
               rcases List.mem_cons.1 hr with rfl|hr
               · exact ⟨h4,h5⟩
               · exact hp r hr
   obtain ⟨l,rfl,hp⟩:=key xs h
   exact ⟨l,rfl,by simpa [rowsR] using hl,hp⟩
def OkSt (s:StT):Prop:=∀r∈s.rows,BEs9 r
theorem BJa9 {row:List Dv} (h:AHj9 [.int .i64, .int .i64, .int .u64, .int .i64, .sl [.sl [.int .u8]], .sl [.sl [.int .u64]], .sl [.int .i64, .sl [.int .u8]], .sl [.int .u64], .int .i64, .int .i64, .int .i64, .int .i64, .int .i64] row):∃s:StT,Zbc (row.map .d)=stV s∧OkSt s:=by
 obtain _|⟨h1,h⟩:=h
 obtain _|⟨h2,h⟩:=h
 obtain _|⟨h3,h⟩:=h
 obtain _|⟨h4,h⟩:=h
 obtain _|⟨h5,h⟩:=h
 obtain _|⟨h6,h⟩:=h
 obtain _|⟨h7,h⟩:=h
 obtain _|⟨h8,h⟩:=h
 obtain _|⟨h9,h⟩:=h
 obtain _|⟨ha,h⟩:=h
 obtain _|⟨hb,h⟩:=h
 obtain _|⟨hc,h⟩:=h
 obtain _|⟨hd,h⟩:=h
 cases h
 obtain ⟨ps,rfl,_⟩:=BTr9 h5
 obtain ⟨qs,rfl⟩:=BJl9 h6
 obtain ⟨rw,rfl,_,hrw⟩:=BZt9 h7
 obtain ⟨pf,rfl,_⟩:=BFl9 h8
 cases h1;cases h2;cases h3;cases h4;cases h9;cases ha;cases hb;cases hc;cases hd
 exact ⟨⟨⟨_,_,_,_⟩,ps,qs,rw,pf,⟨_,_,_,_,_⟩⟩,rfl,hrw⟩
theorem BBs9 {row:List Dv} (h:AHj9 [.int .i64, .int .i64, .int .u64, .int .i64] row):∃n:NotT,Zbc (row.map .d)=noV n∧True:=by
 obtain _|⟨h1,h⟩:=h
 obtain _|⟨h2,h⟩:=h
 obtain _|⟨h3,h⟩:=h
 obtain _|⟨h4,h⟩:=h
 cases h
 cases h1;cases h2;cases h3;cases h4
 exact ⟨⟨_,_,_,_⟩,rfl,trivial⟩
theorem BJb9 {row:List Dv} (h:AHj9 [.int .i64, .int .i64, .sl [.int .u8], .sl [.int .u64]] row):∃x:BlkT,Zbc (row.map .d)=bkV x∧∀a∈x.d,0≤a∧a<256:=by
 obtain _|⟨h1,h⟩:=h
 obtain _|⟨h2,h⟩:=h
 obtain _|⟨h3,h⟩:=h
 obtain _|⟨h4,h⟩:=h
 cases h
 obtain ⟨d,rfl,_,hd⟩:=AUw9 h3
 obtain ⟨pf,rfl,_⟩:=BFl9 h4
 cases h1;cases h2
 exact ⟨⟨_,_,d,pf⟩,rfl,hd⟩
def ARk9:List Ty:= [.int .i64, .int .i64, .int .i64, .int .i64, .int .i64, .int .i64, .int .i64, .int .i64, .int .i64, .int .i64, .int .i64, .int .i64, .sl [.int .i64, .int .i64, .int .i64, .int .i64], .sl [.int .i64, .int .i64, .int .i64, .int .i64, .int .i64], .sl [.int .i64, .int .i64, .int .i64], .sl [.int .i64, .int .i64, .int .i64, .int .i64], .bool, .sl [.int .i64, .int .i64, .int .i64, .int .i64, .int .i64, .int .i64, .int .i64, .int .i64], .sl [.int .i64, .int .i64, .int .i64, .int .i64, .int .i64, .int .i64, .int .i64, .int .i64], .sl [.int .i64], .int .i64, .int .i64, .int .u64, .int .i64, .int .i64, .int .i64, .int .i64, .int .i64, .sl [.int .u8], .sl [.int .u64], .bool]
theorem BUd9 {row:List Dv} (h:AHj9 ARk9 row):∃x:NearT,row=nearD x:=by
 unfold ARk9 at h
 obtain _|⟨h0,h⟩:=h
 obtain _|⟨h1,h⟩:=h
 obtain _|⟨h2,h⟩:=h
 obtain _|⟨h3,h⟩:=h
 obtain _|⟨h4,h⟩:=h
 obtain _|⟨h5,h⟩:=h
 obtain _|⟨h6,h⟩:=h
 obtain _|⟨h7,h⟩:=h
 obtain _|⟨h8,h⟩:=h
 obtain _|⟨h9,h⟩:=h
 obtain _|⟨h10,h⟩:=h
 obtain _|⟨h11,h⟩:=h
 obtain _|⟨h12,h⟩:=h
 obtain _|⟨h13,h⟩:=h
 obtain _|⟨h14,h⟩:=h
 obtain _|⟨h15,h⟩:=h
 obtain _|⟨h16,h⟩:=h
 obtain _|⟨h17,h⟩:=h
 obtain _|⟨h18,h⟩:=h
 obtain _|⟨h19,h⟩:=h
 obtain _|⟨h20,h⟩:=h
 obtain _|⟨h21,h⟩:=h
 obtain _|⟨h22,h⟩:=h
 obtain _|⟨h23,h⟩:=h
 obtain _|⟨h24,h⟩:=h
 obtain _|⟨h25,h⟩:=h
 obtain _|⟨h26,h⟩:=h
 obtain _|⟨h27,h⟩:=h
 obtain _|⟨h28,h⟩:=h
 obtain _|⟨h29,h⟩:=h
 obtain _|⟨h30,h⟩:=h
 cases h
 cases h0
 cases h1
 cases h2
 cases h3
 cases h4
 cases h5
 cases h6
 cases h7
 cases h8
 cases h9
 cases h10
 cases h11
 cases h20
 cases h21
 cases h22
 cases h23
 cases h24
 cases h25
 cases h26
 cases h27
 cases h12
 cases h13
 cases h14
 cases h15
 cases h17
 cases h18
 cases h19
 cases h28
 cases h29
 cases h16
 cases h30
 exact ⟨⟨_,_,_,_,_,_,_,_,_,_,_,_,_,_,_,_,_,_,_,_,⟨_,_,_,_⟩,_,_,_,_,_,_,_⟩,rfl⟩
theorem CBv9 {x:Dv} (h:HasTy (.sl ARk9) x):∃l:List NearT,x= .sl 31 (nearR l)∧l.length≤maxLen∧True:=by
 cases h with
 | sl _ xs hl h=>
   have key:∀(xs:List (List Dv)),(∀row∈xs,AHj9 ARk9 row)→∃l:List NearT,xs=nearR l:=by
     intro xs
     induction xs with
     |nil=>exact fun _=>⟨[],rfl⟩
     | cons row xs ih=>
       intro h
       obtain ⟨p,rfl⟩:=ih fun r hr=>h r (Zaw _ hr)
       obtain ⟨x,rfl⟩:=BUd9 (h row (Zay ..))
       exact ⟨x::p,rfl⟩
   obtain ⟨p,rfl⟩:=key xs h
   exact ⟨p,rfl,by simpa [nearR] using hl,trivial⟩
theorem CIg9:flat prog 20 32=some [.int .i64, .int .i64, .int .u64, .int .i64, .sl [.sl [.int .u8]], .sl [.sl [.int .u64]], .sl [.int .i64, .sl [.int .u8]], .sl [.int .u64], .int .i64, .int .i64, .int .i64, .int .i64, .int .i64]:=by kernel_rfl
theorem CIh9:flat prog 20 24=some [.int .i64, .int .i64, .int .u64, .int .i64]:=by kernel_rfl
theorem CIj9:flat prog 20 35=some [.int .i64, .int .i64, .sl [.int .u8], .sl [.int .u64]]:=by kernel_rfl
theorem CIi9:flat prog 20 36=some [.sl ARk9]:=by kernel_rfl
set_option maxRecDepth 100000
theorem jf3_0:(Rows.spreadMatchesReferenceRow.wf (OpenSpec.ofChange Rows.spreadMatchesReferenceSpec))=true:=by kernel_rfl
theorem jf3_1:(laidOutB Tryz.pinned.checked.prog)=true:=by kernel_rfl
theorem jf3_2:(mapsRowed Tryz.pinned.checked.prog)=true:=by kernel_rfl
theorem jf3_3:(Tryz.f3.params.all (Tryz.pinned.checked.prog.readableRec ·))=true:=by kernel_rfl
theorem jf3_4:(namedTie Tryz.pinned.checked.prog Rows.spreadMatchesReferenceRow.named Rows.spreadMatchesReferenceSpec.vars)=true:=by kernel_rfl
theorem jf3_5:((Rows.spreadMatchesReferenceRow.stops== []))=true:=by kernel_rfl
theorem jf3_6:((Tryz.pinned.checked.prog.stops== []))=true:=by kernel_rfl
theorem jf3_7:((Rows.spreadMatchesReferenceRow.knobs== []))=true:=by kernel_rfl
theorem jf3_8:((Tryz.pinned.checked.prog.stopKnobs== []))=true:=by kernel_rfl
theorem jf3_9:((Rows.spreadMatchesReferenceRow.inPlace==Tryz.pinned.checked.prog.inPlace 3))=true:=by kernel_rfl
theorem CHu9:((Rows.spreadMatchesReferenceRow.unfollowed==Tryz.pinned.checked.prog.unfollowed 3))=true:=by kernel_rfl
theorem CHt9:((Rows.spreadMatchesReferenceRow.recurses==Tryz.pinned.checked.prog.recurses 3))=true:=by kernel_rfl
theorem CHs9:((Rows.spreadMatchesReferenceRow.named==Tryz.pinned.checked.prog.varsNamed 3))=true:=by kernel_rfl
theorem CHr9:((Rows.spreadMatchesReferenceRow.maps==(Tryz.f3.params.toList++Rows.spreadMatchesReferenceSpec.plain.varTypes Tryz.pinned.checked.prog).any (Tryz.pinned.checked.prog.mapsRec ·)))=true:=by kernel_rfl
theorem CHq9:((Rows.spreadMatchesReferenceRow.ifaces==(Tryz.f3.params.toList++Rows.spreadMatchesReferenceSpec.plain.varTypes Tryz.pinned.checked.prog).any (Tryz.pinned.checked.prog.ifacesRec ·)))=true:=by kernel_rfl
theorem CHp9:((Rows.spreadMatchesReferenceRow.mapsOut==Tryz.pinned.checked.prog.mapsAmong Tryz.f3.resultTypes.toList))=true:=by kernel_rfl
theorem CHo9:((Rows.spreadMatchesReferenceRow.loops==(Tryz.f3.params.toList++Rows.spreadMatchesReferenceSpec.plain.varTypes Tryz.pinned.checked.prog).any (Tryz.pinned.checked.prog.loopsFrom ·)))=true:=by kernel_rfl
theorem CHn9:((Rows.spreadMatchesReferenceRow.wideKeys==(Tryz.f3.params.toList++Rows.spreadMatchesReferenceSpec.plain.varTypes Tryz.pinned.checked.prog++Tryz.f3.resultTypes.toList).any (Tryz.pinned.checked.prog.wideKeysFrom ·)))=true:=by kernel_rfl
theorem CHm9:(Rows.spreadMatchesReferenceSpec.vars.all (Tryz.pinned.checked.prog.varReadable ·))=true:=by kernel_rfl
theorem CHl9:(Tryz.f3.resultTypes.all (fun t=>Tryz.pinned.checked.prog.readableRec t&&decide (t<Tryz.pinned.checked.prog.types.size)))=true:=by kernel_rfl
theorem CHk9:((Rows.spreadMatchesReferenceRow.ifacesOut==Tryz.f3.resultTypes.toList.any (Tryz.pinned.checked.prog.ifacesRec ·)))=true:=by kernel_rfl
theorem CHj9:((Rows.spreadMatchesReferenceRow.loopsOut==Tryz.f3.resultTypes.toList.any (Tryz.pinned.checked.prog.loopsFrom ·)))=true:=by kernel_rfl
theorem CHi9:((Rows.spreadMatchesReferenceRow.plainKeys==Tryz.pinned.checked.prog.plainKeys))=true:=by kernel_rfl
theorem CHh9:(Rows.spreadMatchesReferenceRow.shortTexts.isNone)=true:=by kernel_rfl
theorem CHg9:(Tryz.pinned.checked.prog.stopsHeard)=true:=by kernel_rfl
theorem CHf9:(Tryz.pinned.checked.prog.mayEnter)=true:=by kernel_rfl
theorem CHe9:((Rows.spreadMatchesReferenceRow.lifted==Tryz.pinned.checked.prog.liftsFinal))=true:=by kernel_rfl
theorem CHd9:((Tryz.pinned.checked.prog.make==some Rows.spreadMatchesReferenceRow.make))=true:=by kernel_rfl
theorem CHc9:((Rows.spreadMatchesReferenceRow.kinds==(if Rows.spreadMatchesReferenceRow.domain.isEmpty then [] else Tryz.f3.params.toList.map fun t=>match Tryz.pinned.checked.prog.underlying t with|some (.int k)=>some k|_=>none)))=true:=by kernel_rfl
theorem CHb9:((Rows.spreadMatchesReferenceRow.pinned==Rows.spreadMatchesReferenceRow.pinnedBy))=true:=by kernel_rfl
theorem CHa9:((Rows.spreadMatchesReferenceRow.veiled==(Tryz.f3.params.toList++Rows.spreadMatchesReferenceSpec.plain.varTypes Tryz.pinned.checked.prog++Tryz.f3.resultTypes.toList).any (Tryz.pinned.checked.prog.veiledRec ·)))=true:=by kernel_rfl
theorem CGz9:(Rows.spreadMatchesReferenceRow.veiledFits Tryz.pinned.checked.prog Tryz.f3.params.toList (Tryz.f3.params.toList++Rows.spreadMatchesReferenceSpec.plain.varTypes Tryz.pinned.checked.prog++Tryz.f3.resultTypes.toList))=true:=by kernel_rfl
theorem and_t {a b:Bool} (h:a=true) (h1:b=true):(a&&b)=true:=by rw [h,h1];rfl
theorem CDa9:joinedFacts Tryz.pinned.checked.prog 3 Tryz.f3 Rows.spreadMatchesReferenceSpec Rows.spreadMatchesReferenceRow=true:=(and_t (and_t (and_t (and_t (and_t (and_t (and_t (and_t (and_t (and_t (and_t (and_t (and_t (and_t (and_t (and_t (and_t (and_t (and_t (and_t (and_t (and_t (and_t (and_t (and_t (and_t (and_t (and_t (and_t (and_t (and_t jf3_0 jf3_1) jf3_2) jf3_3) jf3_4) jf3_5) jf3_6) jf3_7) jf3_8) jf3_9) CHu9) CHt9) CHs9) CHr9) CHq9) CHp9) CHo9) CHn9) CHm9) CHl9) CHk9) CHj9) CHi9) CHh9) CHg9) CHf9) CHe9) CHd9) CHc9) CHb9) CHa9) CGz9)
end Go.Proofs.YtibhflogmbfpcaaGreatDoor.Am
namespace Go.Proofs.YtibhflogmbfpcaaGreatDoor.Am
open Go Go.RowKit Go.Proofs Tryz
open AV renaming agg → Zbc, bad → Zaq, d → Zae, ptr → Zbe, rptr → Zcj
open BIf renaming f → Zct, of → Zaj, t → Zbf
open BitVec renaming ofInt → Zar
open Bool renaming and_eq_true → Zan, and_false → Zdk, eq_false_iff → Zez
open AAf9 renaming cons → Zaf, nil → Zah
open Go.Code renaming loop → Zax
open Dv renaming s → Zfa, sl → Zai
open Go.Exit renaming exit → Zcy
open Int renaming tmod → Zdv, toNat → Zam, toNat_natCast → Zas
open Go.IntKind renaming i64 → Zap, wrap → Zaa
open LeH renaming refl → Zbt
open LeVs renaming refl → Zen
open List renaming getElem?_eq_getElem → Zbk, length → Zab, mem_cons_of_mem → Zaw, mem_cons_self → Zay, mem_map → Zbo, mem_of_getElem? → Zbh, mem_range → Zcr, range → Zbn, replicate → Zag
open NotT renaming n → Zbi, r → Zbl, t → Zbj, v → Zba
open PCall renaming ofFn → Zaz, ofFnV → Zck, ofFnW → Zcd
open AAk9 renaming cons → Zci, nil → Zac
open TrT renaming bg → Zdc, ct → Zde, fi → Zdd, iv → Zda, sd → Zcp
open Go.Value renaming slice → Zbp
variable {β:Type} (wl:WLT β) (y:ABr9 β) (b:β) (R:AV→β→Prop)
open AV (bad)
set_option linter.unusedVariables false
set_option maxRecDepth 100000
set_option maxHeartbeats 0
def TLs:List (Nat×(List AV→(AV→Prop)→Prop)):= [(13,CDj9),(14,lessC cFewL),(15,AKs9),(16,ASx9),(17,BGd9),(18,BGi9),(19,cSm),(20,CDi9),(21,BVn9),(22,BPg9)]
theorem CLh9:AAf9 prog TLs:=Zaf BMa9 (Zaf (APj9 BWc9) (Zaf AHy9 (Zaf ASw9 (Zaf ASu9 (Zaf AZv9 (Zaf CKb9 (Zaf BLz9 (Zaf AXs9 (Zaf BGj9 Zah)))))))))
theorem f3_nf (s:StT) (n:NotT) (p f:Int) (x:BlkT) (l:List NearT):wpFn prog ⟨TLs, [],wl,y,false⟩ 200 Tryz.f3 [stV s,noV n, .d (i64 p), .d (i64 f),bkV x, .d (.sl 31 (nearR l))] b R=(([]:List AV)= []∧∃(args0:List AV),LeVs [stV s,Zae (Zai 31 (nearR l))] args0∧∃(s1:StT) (near2:List (List Dv)) (z3:Bool),args0= [stV s1,Zae (Zai 31 near2)]∧z3=(fewT s1&&decide (((Zab near2:Nat):Int)≤(100:Int)))∧BIf (!z3) (R (.d (bo true)) b) (BIf (decide (((Zab (AAa9 (BlkT.d x)):Nat):Int)>(100:Int))) (R (.d (bo true)) b) (BIf (decide (((Zab (digR (BlkT.pf x)):Nat):Int)>(40:Int))) (R (.d (bo true)) b) (∃(s4:StT) (x5:BlkT) (z6:StT) (e7:Int), [stV s,bkV x]= [stV s4,bkV x5]∧(((AAt9 s4)∧Zab (BlkT.pf x5)≤1000000)∧(z6,e7)=recvT s4 x5)∧∃(s8:StT) (x9:BlkT) (z10:StT) (e11:Int), [stV s,bkV x]= [stV s8,bkV x9]∧(((AAt9 s8)∧Zab (BlkT.pf x9)≤1000000)∧(z10,e11)=recvT s8 x9)∧∃(s12:StT) (l13:List NearT) (f14:Int) (z15:StT) (x16:BlkT) (e17:Bool),(Qz41 s l f)=(Qz41 s12 l13 f14)∧(((AAt9 s12)∧Zab l13≤1000000)∧(z15,x16,e17)=ACb9 s12 l13 f14)∧∃(s18:StT) (l19:List NearT) (f20:Int) (z21:StT) (x22:BlkT) (e23:Bool),(Qz41 s l f)=(Qz41 s18 l19 f20)∧(((AAt9 s18)∧Zab l19≤1000000)∧(z21,x22,e23)=ACb9 s18 l19 f20)∧∃(s24:StT) (c25:StT) (z26:Bool), [stV z6,stV z10]= [stV s24,stV c25]∧((AAt9 s24)∧z26=sameP s24 c25)∧BIf z26 (BIf (e7==e11) (∃(s27:StT) (c28:StT) (z29:Bool), [stV z15,stV z21]= [stV s27,stV c28]∧((AAt9 s27)∧z29=sameP s27 c28)∧BIf z29 (∃(s30:BlkT) (c31:BlkT) (z32:Bool), [bkV x16,bkV x22]= [bkV s30,bkV c31]∧((Zab (BlkT.d s30)≤1000000∧Zab (BlkT.pf s30)≤1000000)∧z32=sameK s30 c31)∧BIf z32 (BIf (e17==e23) (∃(s33:StT) (n34:NotT) (p35:Int) (f36:Int) (z37:StT), [stV s,noV n,Zae (i64 p),Zae (i64 f)]= [stV s33,noV n34,Zae (i64 p35),Zae (i64 f36)]∧((AAt9 s33)∧z37=hearS s33 n34 p35 f36)∧∃(s38:StT) (n39:NotT) (p40:Int) (f41:Int) (z42:StT), [stV s,noV n,Zae (i64 p),Zae (i64 f)]= [stV s38,noV n39,Zae (i64 p40),Zae (i64 f41)]∧((AAt9 s38)∧z42=hearS s38 n39 p40 f41)∧∃(s43:StT) (c44:StT) (z45:Bool), [stV z37,stV z42]= [stV s43,stV c44]∧((AAt9 s43)∧z45=sameP s43 c44)∧R (.d (bo z45)) b) (R (.d (bo false)) b)) (R (.d (bo false)) b)) (R (.d (bo false)) b)) (R (.d (bo false)) b)) (R (.d (bo false)) b))))):=by kernel_rfl
set_option maxRecDepth 20000
set_option maxHeartbeats 2000000
theorem BEq9 {s:StT} (h:AAt9 s) (n:NotT) (p f:Int):AAt9 (hearS s n p f):=by
 unfold hearS
 split
 · exact h
 split
 · exact ⟨⟨by simp,by simp⟩,⟨by simp,by simp⟩,⟨by simp,by simp⟩,by simp⟩
 split
 · exact h
 split
 · split
   · exact h
   · exact h
 · exact h
theorem AYw9 {s:StT} (h:AAt9 s) (l:List NearT) (f:Int):AAt9 (ACb9 s l f).1:=by
 unfold ACb9
 split
 · exact h
 split
 · exact h
 · exact h
theorem BIq9 {s:StT} (h:AAt9 s) (l:List NearT) (f:Int):(ACb9 s l f).2.1.d.length≤1000000∧(ACb9 s l f).2.1.pf.length≤1000000:=by
 unfold ACb9
 split
 · exact ⟨by simp [ATn9],by simp [ATn9]⟩
 split
 · exact ⟨by simp [ATn9],by simp [ATn9]⟩
 · refine ⟨?_, ?_⟩
   · show (encS _ _).length≤_
     rw [encS,AFa9];omega
   · show (nthL s.qs _).length≤_
     by_cases hk:(AEy9 (lackP s l) s.ps.length).toNat<s.qs.length
     · exact h.2.1.2 _ (ACo9 hk)
     · rw [nthL,List.getD_eq_getElem?_getD,List.getElem?_eq_none (by omega)];simp
theorem AQz9 {s:StT} {x:BlkT} (h:AAp9 s x=0):ABp9 s=true∧badB x=false∧AEz9 s=false∧fullP s=false∧x.n=s.ps.length∧(s.rows≠ []→x.pf=s.pf):=by
 unfold AAp9 at h
 split at h
 · omega
 rename_i h1
 split at h
 · omega
 rename_i h2
 split at h
 · omega
 rename_i h3
 split at h
 · omega
 rename_i h4
 split at h
 · omega
 rename_i h5
 split at h
 · omega
 rename_i h6
 simp only [Bool.or_eq_true,Bool.not_eq_true',not_or,Bool.not_eq_true] at h1
 refine ⟨by simpa using h1.1,h1.2,by simpa using h2,by simpa using h3,by omega,fun hr=> ?_⟩
 cases hs:s.rows with
 |nil=>exact absurd hs hr
 |cons r l=>simp [hs] at h6;exact h6
theorem BMy9 {x:BlkT} (h:badB x=false):pageS x.n=true∧seedS x.s=true∧x.d.length=16:=by
 simp only [badB,Bool.or_eq_false_iff,decide_eq_false_iff_not,bne_eq_false_iff_eq] at h
 obtain ⟨h1,h2,h3,h4,h5⟩:=h
 exact ⟨by simp [pageS];omega,AEd9.2 ⟨by omega,by omega⟩,by omega⟩
theorem ASa9 {m:Int} {b:List Int} (h0:1≤m) (h1:m<65536) (hl:b.length=16):(addS [] m b).2.1=true:=by
 have hf:fine m b=true:=by simp [fine,hl];omega
 have hm:(m==0)=false:=by simp;omega
 unfold addS
 rw [hf,show ADy9 []=true by decide]
 simp [hm]
theorem BCk9 (s:StT) (x:BlkT) (hb:∀a∈x.d,0≤a∧a<256):
   (AAp9 s x≠0∧recvT s x=(s,AAp9 s x))∨
   (AAp9 s x=0∧(∃e,recvT s x=(anewS s,e)))∨
   (AAp9 s x=0∧∃l,Good l∧l.length<16∧l≠ []∧(s.rows= []→l.length=1)∧recvT s x=(⟨s.no,s.ps,s.qs,l,x.pf,s.tr⟩,0))∨
   (AAp9 s x=0∧∃p,p.length=256∧ABl9 s.sp s.ps.length p x.pf=true∧(s.ps.length:Int)≠ABj9 s.no.n∧recvT s x=(⟨s.no,s.ps++ [p],s.qs++ [x.pf], [], [],s.tr⟩,0)):=by
 by_cases h0:AAp9 s x≠0
 · exact .inl ⟨h0,by rw [recvT,if_pos h0]⟩
 have h0:AAp9 s x=0:=by omega
 right
 obtain ⟨hv,hbad,he,hf,hn,hpf⟩:=AQz9 h0
 obtain ⟨b1,b2,b3⟩:=BMy9 hbad
 obtain ⟨v1,v2,v3,v4,v5,v6⟩:=AGy9 hv he
 have hg:Good s.rows:=(ABy9 _).1 v2
 obtain ⟨s0,s1⟩:=ACq9 b2
 have hr:recS s.rows x.n x.s x.d=addS s.rows (setS x.s) x.d:=by rw [recS,if_pos (by rw [recOk,b1,b2,b3];decide)]
 have e0:¬AAp9 s x≠0:=by rw [h0];simp
 have next:∀(l:List Row) (nw:Bool),recS s.rows x.n x.s x.d=(l,nw,0)→Good l→l≠ []→(s.rows= []→l.length=1)→
     ((AAp9 s x=0∧(∃e,recvT s x=(anewS s,e)))∨
     (AAp9 s x=0∧∃l,Good l∧l.length<16∧l≠ []∧(s.rows= []→l.length=1)∧recvT s x=(⟨s.no,s.ps,s.qs,l,x.pf,s.tr⟩,0))∨
     (AAp9 s x=0∧∃p,p.length=256∧ABl9 s.sp s.ps.length p x.pf=true∧(s.ps.length:Int)≠ABj9 s.no.n∧recvT s x=(⟨s.no,s.ps++ [p],s.qs++ [x.pf], [], [],s.tr⟩,0))):=by
   intro l nw hl hG hne h1
   have hns:AEx9 s x=⟨s.no,s.ps,s.qs,l,x.pf,s.tr⟩:=by rw [AEx9,hl]
   by_cases h16:l.length≠16
   · refine .inr (.inl ⟨h0,l,hG,by have:=hG.len;omega,hne,h1, ?_⟩)
     rw [recvT,if_neg e0,hl,if_neg (by simp),if_pos (by rw [APe9 fun h=>h16 h.2]),hns]
   · have h16:l.length=16:=by omega
     have hp:=ARe9 hG h16
     have hpl:(l.reverse.flatMap (·.2)).length=256:=by
       have key:∀(l:List Row),(∀r∈l,r.2.length=16)→(l.flatMap (·.2)).length=16*l.length:=by
         intro l
         induction l with
         |nil=>intro _;rfl
         | cons r l ih=>
           intro h
           rw [List.flatMap_cons,List.length_append,ih fun r hr=>h r (Zaw _ hr),h r (Zay ..),List.length_cons];omega
       rw [key _ fun r hr=>hG.len16 r (List.mem_reverse.1 hr),List.length_reverse,h16]
     have e1:recvT s x=if (putT (AEx9 s x) (l.reverse.flatMap (·.2)) x.pf).2≠0 then (anewS s,12) else ((putT (AEx9 s x) (l.reverse.flatMap (·.2)) x.pf).1,0):=by
       rw [recvT,if_neg e0,hl,if_neg (by simp),hp,if_neg (by simp)]
     by_cases hput:(putT (AEx9 s x) (l.reverse.flatMap (·.2)) x.pf).2≠0
     · exact .inl ⟨h0,12,by rw [e1,if_pos hput]⟩
     · rw [if_neg hput] at e1
       refine .inr (.inr ⟨h0,l.reverse.flatMap (·.2),hpl, ?_⟩)
       rw [hns] at e1 hput
       unfold putT at hput e1
       split at hput
       · simp at hput
       rename_i g1
       split at hput
       · simp at hput
       rename_i g2
       split at hput
       · simp at hput
       rename_i g3
       rw [if_neg g1,if_neg g2,if_neg g3] at e1
       exact ⟨(Bool.not_eq_false _).mp g3,g2,e1⟩
 rcases ATk9 hg ⟨s0,by omega⟩ b3 hb with ⟨h1,h2,h3⟩|⟨h1,h3⟩|⟨h1,y,hy,h3,hG,_,hyv,hyc,_⟩
 · refine .inl ⟨h0,12, ?_⟩
   rw [recvT,if_neg e0,hr,h3,if_pos (by simp)]
 · have hne:s.rows≠ []:=by
     intro hnil
     rw [hnil] at h3
     have:=ASa9 (b:=x.d) s0 (show setS x.s<65536 by omega) b3
     rw [h3] at this;cases this
   exact next s.rows false (by rw [hr,h3]) hg hne fun h=>absurd h hne
 · have hlen:=BEm9 y s.rows
   exact next (insS y s.rows) true (by rw [hr,h3]) hG (fun h=>by rw [h] at hlen;simp at hlen) fun h=>by rw [hlen,h];rfl
theorem BEr9 {l:List Row} (h:Good l):ACf9 l:=⟨by have:=h.len;omega,fun r hr=>by rw [h.len16 r hr];omega⟩
theorem BCj9 {s:StT} {x:BlkT} (hb:∀a∈x.d,0≤a∧a<256) (h:AAt9 s) (hp:x.pf.length≤1000000):AAt9 (recvT s x).1:=by
 rcases BCk9 s x hb with ⟨_,h1⟩|⟨_,e,h1⟩|⟨_,l,hg,_,_,_,h1⟩|⟨h0,p,hl,_,_,h1⟩
 · rw [h1];exact h
 · rw [h1];exact ⟨h.1,h.2.1,⟨by simp [anewS],by simp [anewS]⟩,by simp [anewS]⟩
 · rw [h1];exact ⟨h.1,h.2.1,BEr9 hg,hp⟩
 · rw [h1]
   obtain ⟨hv,_,he,_⟩:=AQz9 h0
   obtain ⟨a1,a2,a3,a4,a5,a6⟩:=AOw9 (AGy9 hv he).1
   refine ⟨⟨?_,fun q hq=> ?_⟩,⟨?_,fun q hq=> ?_⟩,⟨by simp,by simp⟩,by simp⟩
   · simp;omega
   · rcases List.mem_append.1 hq with hq|hq
     · exact h.1.2 q hq
     · rw [List.mem_singleton.1 hq,hl];omega
   · simp;omega
   · rcases List.mem_append.1 hq with hq|hq
     · exact h.2.1.2 q hq
     · rw [List.mem_singleton.1 hq];exact hp
set_option maxRecDepth 100000
set_option maxHeartbeats 0
set_option maxHeartbeats 4000000
theorem CCk9 {s:StT} {l:List (List Dv)} (h:(!(fewT s&&decide ((l.length:Int)≤100)))=false):fewT s=true∧l.length≤100:=by
 have:=nbf h
 simp only [Zan,decide_eq_true_eq] at this
 exact ⟨this.1,by omega⟩
theorem BBo9 (x:BlkT):sameK x x=true:=by simp [sameK]
theorem CGr9 (s:StT) (n:NotT) (p f:Int) (x:BlkT) (l:List NearT) (hb:∀a∈x.d,0≤a∧a<256):
   PCall prog 3 [stV s,noV n, .d (i64 p), .d (i64 f),bkV x, .d (.sl 31 (nearR l))] (.d (bo true)):=by
 refine Zaz (n:=200) (u:=false) mixed CLh9 Zac func3 (by rfl) (by rfl) fun Ev bb=> ?_
 rw [f3_nf]
 refine ⟨rfl,_,Zen _,s,nearR l,_,rfl,rfl,Zaj (fun _=>rfl) fun g1=>Zaj (fun _=>rfl) fun g2=>Zaj (fun _=>rfl) fun g3=> ?_⟩
 obtain ⟨hf,hl⟩:=CCk9 g1
 rw [AKm9] at hl
 rw [AAn9] at g3
 have g3:=of_decide_eq_false g3
 have hs:=BKy9 hf
 have hpf:x.pf.length≤1000000:=by omega
 have hl':l.length≤1000000:=by omega
 exact ⟨s,x,_,_,rfl,⟨⟨hs,hpf⟩,rfl⟩,s,x,_,_,rfl,⟨⟨hs,hpf⟩,rfl⟩,s,l,f,_,_,_,rfl,⟨⟨hs,hl'⟩,rfl⟩,s,l,f,_,_,_,rfl,⟨⟨hs,hl'⟩,rfl⟩,
   _,_,true,rfl,⟨BCj9 hb hs hpf,(APa9.2 rfl).symm⟩,Zbf rfl (Zbf (by simp) ⟨_,_,true,rfl,⟨AYw9 hs l f,(APa9.2 rfl).symm⟩,
     Zbf rfl ⟨_,_,true,rfl,⟨BIq9 hs l f,(BBo9 _).symm⟩,Zbf rfl (Zbf (by simp) ⟨s,n,p,f,_,rfl,⟨hs,rfl⟩,s,n,p,f,_,rfl,⟨hs,rfl⟩,_,_,true,rfl,⟨BEq9 hs n p f,(APa9.2 rfl).symm⟩,rfl⟩)⟩⟩)⟩
end Go.Proofs.YtibhflogmbfpcaaGreatDoor.Am
