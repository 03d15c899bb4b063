import Derived.Test.YtlnenbbmhidjeaaDoorP6J2
import Derived.Test.YtlnenbbmhidjeaaDoorTie
import Derived.Test.YtlnenbbmhidjeaaDoorCards
import Derived.ProofKit
import Derived.LaidMore
import Derived.OpenShut
import Derived.Stop.Joined
set_option linter.unusedSimpArgs false
set_option linter.unusedVariables false
namespace Go.Proofs.YtlnenbbmhidjeaaDoor.Am
open Go Go.RowKit Go.Proofs
open AV renaming agg → Zbv, bad → Zam, d → Zak, fn → Zcz, ptr → Zci
open BIf renaming of → Zba, t → Zca
open Bool renaming and_eq_true → Zag, false_eq_true → Zcc
open CallsOk renaming cons → Zan, nil → Zat
open Dv renaming sl → Zbd
open Env renaming mapped → Zch
open Int renaming tmod → Zdi, toNat → Zbb, toNat_natCast → Zcb
open Go.IntKind renaming i64 → Zbo, u64 → Zcf, wrap → Zad
open LeH renaming refl → Zcy
open List renaming length → Zae, range → Zay, replicate → Zao
open PCall renaming ofFn → Zco
open SCallsOk renaming cons → Zdj, nil → Zap
open Go.Value renaming map → Zbe
open WR renaming ofMask → Zcq
variable {β:Type} (wl:WLT β) (y:YieldT β) (b:β) (R:AV→β→Prop) (RS:AV→List Blk→β→Prop) (K:Exit→List AV→List Blk→β→Prop) (Kh:Exit→List Blk→β→Prop) (Q:β→Prop)
open AV (bad)
set_option linter.unusedVariables false
set_option maxRecDepth 20000
set_option maxHeartbeats 1000000
def inN (n h:Int):Bool:=decide (n≥0)&&decide (n≤h)
def belowS (x n:Int):Int:=if n<1 then 0 else if n>1000000000 then 0 else Zdi (firstS x) n
structure HalfS where
 st:Int
 no:Int
 ch:Int
 un:Int
 pr:Bool
 ke:Int
 deriving DecidableEq,Inhabited
def halfA (h:HalfS):AV:= .agg [.d (i64 h.st), .d (i64 h.no), .d (i64 h.ch), .d (i64 h.un), .d (bo h.pr), .d (i64 h.ke)]
def halfR (h:HalfS):List Dv:= [i64 h.st,i64 h.no,i64 h.ch,i64 h.un,bo h.pr,i64 h.ke]
structure WordS where
 ki:Int
 st:Int
 sp:Int
 no:Int
 ch:Int
 ke:Int
 rf:Int
 rn:Int
 deriving DecidableEq,Inhabited
def wordA (w:WordS):AV:= .agg [.d (i64 w.ki), .d (i64 w.st), .d (i64 w.sp), .d (i64 w.no), .d (i64 w.ch), .d (i64 w.ke), .d (i64 w.rf), .d (i64 w.rn)]
def wordR (w:WordS):List Dv:= [i64 w.ki,i64 w.st,i64 w.sp,i64 w.no,i64 w.ch,i64 w.ke,i64 w.rf,i64 w.rn]
def nodeN (n:Int):Bool:=inN n 59
def halfOk (h:HalfS):Bool:=nodeN h.st&&(inN h.no 1000000000&&(inN h.ch 1000000000&&(inN h.un 1000000000&&(inN h.ke 2000000&&(h.pr||h.ke==0)))))
theorem inN_nf (n h:Int):wpFn Tryd.prog ⟨[], [],wl,y,false⟩ 100 Tryd.f29 [.d (i64 n), .d (i64 h)] b R=(BIf (decide (n≥(0:Int))) (R (Zak (bo (decide (n≤h)))) b) (R (Zak (bo false)) b)):=by kernel_rfl
theorem below_nf (x n:Int):wpFn Tryd.prog ⟨[(57,c58)], [],wl,y,false⟩ 100 Tryd.f49 [.d (u64 x), .d (i64 n)] b R=(BIf (decide (n<(1:Int))) (R (.d (i64 0)) b) (BIf (decide (n>(1000000000:Int))) (R (.d (i64 0)) b) (∃(x0:Int), [Zak (u64 x)]= [Zak (u64 x0)]∧BIf (decide (n=(0:Int))||false) False (R (.d (i64 (Zdi (firstS x0) n))) b)))):=by kernel_rfl
theorem pcIn (n h:Int):PCall Tryd.prog 29 [.d (i64 n), .d (i64 h)] (.d (bo (inN n h))):=by
 refine Zco (n:=100) (u:=false) mixed Zat Zap Tryd.func29 (by rfl) (by rfl) fun Ev bb=> ?_
 rw [inN_nf]
 exact Zba (fun h1=>by rw [inN,h1];rfl) fun h1=>by rw [inN,h1];rfl
def cIn (args:List AV) (K:AV→Prop):Prop:=∃(n h:Int),args= [.d (i64 n), .d (i64 h)]∧K (.d (bo (inN n h)))
theorem cIn_ok:∀args K,cIn args K→∃x,PCall Tryd.prog 29 args x∧K x:=by
 rintro _ K ⟨n,h,rfl,hk⟩;exact ⟨_,pcIn n h,hk⟩
theorem pcBelow (x n:Int):PCall Tryd.prog 49 [.d (u64 x), .d (i64 n)] (.d (i64 (belowS x n))):=by
 refine Zco (n:=100) (u:=false) mixed (Zan c58_ok Zat) Zap Tryd.func49 (by rfl) (by rfl) fun Ev bb=> ?_
 rw [below_nf]
 refine Zba (fun h1=>by rw [belowS,if_pos (of_decide_eq_true h1)]) fun h1=>Zba (fun h2=>by rw [belowS,if_neg (of_decide_eq_false h1),if_pos (of_decide_eq_true h2)]) fun h2=>⟨x,rfl, ?_⟩
 have h1:=of_decide_eq_false h1
 rw [belowS,if_neg h1,if_neg (of_decide_eq_false h2)]
 exact BIf.f (by simp;omega) rfl
def cBelow (args:List AV) (K:AV→Prop):Prop:=∃(x n:Int),args= [.d (u64 x), .d (i64 n)]∧K (.d (i64 (belowS x n)))
theorem cBelow_ok:∀args K,cBelow args K→∃x,PCall Tryd.prog 49 args x∧K x:=by
 rintro _ K ⟨x,n,rfl,hk⟩;exact ⟨_,pcBelow x n,hk⟩
def TN:List (Nat×(List AV→(AV→Prop)→Prop)):= [(29,cIn)]
theorem TN_ok:CallsOk Tryd.prog TN:=Zan cIn_ok Zat
theorem nodeN_nf (n:Int):wpFn Tryd.prog ⟨TN, [],wl,y,false⟩ 100 Tryd.f54 [.d (i64 n)] b R=(∃(n0:Int),∃(h1:Int), [Zak (i64 n),Zak (i64 (59:Int))]= [Zak (i64 n0),Zak (i64 h1)]∧R (Zak (bo (inN n0 h1))) b):=by kernel_rfl
theorem pcNode (n:Int):PCall Tryd.prog 54 [.d (i64 n)] (.d (bo (nodeN n))):=by
 refine Zco (n:=100) (u:=false) mixed TN_ok Zap Tryd.func54 (by rfl) (by rfl) fun Ev bb=> ?_
 rw [nodeN_nf]
 exact ⟨n,59,rfl,rfl⟩
def cNode (args:List AV) (K:AV→Prop):Prop:=∃(n:Int),args= [.d (i64 n)]∧K (.d (bo (nodeN n)))
theorem cNode_ok:∀args K,cNode args K→∃x,PCall Tryd.prog 54 args x∧K x:=by
 rintro _ K ⟨n,rfl,hk⟩;exact ⟨_,pcNode n,hk⟩
def TNn:List (Nat×(List AV→(AV→Prop)→Prop)):= [(29,cIn),(54,cNode)]
theorem TNn_ok:CallsOk Tryd.prog TNn:=Zan cIn_ok (Zan cNode_ok Zat)
theorem halfOk_nf (h:HalfS):wpFn Tryd.prog ⟨TNn, [],wl,y,false⟩ 100 Tryd.f36 [halfA h] b R=(∃(n0:Int), [Zak (i64 (HalfS.st h))]= [Zak (i64 n0)]∧BIf (nodeN n0) (∃(n1:Int) (h2:Int), [Zak (i64 (HalfS.no h)),Zak (i64 1000000000)]= [Zak (i64 n1),Zak (i64 h2)]∧BIf (inN n1 h2) (∃(n3:Int) (h4:Int), [Zak (i64 (HalfS.ch h)),Zak (i64 1000000000)]= [Zak (i64 n3),Zak (i64 h4)]∧BIf (inN n3 h4) (∃(n5:Int) (h6:Int), [Zak (i64 (HalfS.un h)),Zak (i64 1000000000)]= [Zak (i64 n5),Zak (i64 h6)]∧BIf (inN n5 h6) (∃(n7:Int) (h8:Int), [Zak (i64 (HalfS.ke h)),Zak (i64 2000000)]= [Zak (i64 n7),Zak (i64 h8)]∧BIf (inN n7 h8) (BIf (HalfS.pr h) (R (.d (bo true)) b) (R (.d (bo (HalfS.ke h==(0:Int)))) b)) (R (.d (bo false)) b)) (R (.d (bo false)) b)) (R (.d (bo false)) b)) (R (.d (bo false)) b)) (R (.d (bo false)) b)):=by kernel_rfl
theorem pcHalf (h:HalfS):PCall Tryd.prog 36 [halfA h] (.d (bo (halfOk h))):=by
 refine Zco (n:=100) (u:=false) mixed TNn_ok Zap Tryd.func36 (by rfl) (by rfl) fun Ev bb=> ?_
 rw [halfOk_nf]
 refine ⟨_,rfl,Zba (fun h1=>⟨_,_,rfl,Zba (fun h2=>⟨_,_,rfl,Zba (fun h3=>⟨_,_,rfl,Zba (fun h4=>⟨_,_,rfl,Zba (fun h5=>Zba (fun h6=> ?_) fun h6=> ?_) fun h5=> ?_⟩) fun h4=> ?_⟩) fun h3=> ?_⟩) fun h2=> ?_⟩) fun h1=> ?_⟩
 all_goals simp only [halfOk, *,Bool.true_and,Bool.false_and,Bool.true_or,Bool.false_or]
def cHalf (args:List AV) (K:AV→Prop):Prop:=∃(h:HalfS),args= [halfA h]∧K (.d (bo (halfOk h)))
theorem cHalf_ok:∀args K,cHalf args K→∃x,PCall Tryd.prog 36 args x∧K x:=by
 rintro _ K ⟨n,rfl,hk⟩;exact ⟨_,pcHalf n,hk⟩
def rowsH (hs:List HalfS):List (List Dv):=hs.map halfR
noncomputable def lpVa:Code:=sub [1,0,1,2,3] (code Tryd.f13)
def tmVa (hs:List HalfS) (n i:Int):List AV:= [.d (.sl 6 (rowsH hs)), .bad, .d (bo false), .bad, .bad, .d (.sl 6 (rowsH hs)), .d (i64 n), .d (i64 i)]++Zao 26 .bad
def TVa:List (Nat×(List AV→(AV→Prop)→Prop)):= [(36,cHalf)]
theorem TVa_ok:CallsOk Tryd.prog TVa:=Zan cHalf_ok Zat
abbrev Qz2 (v0:HalfS):List AV:= [Zak (i64 (HalfS.st v0)),Zak (i64 (HalfS.no v0)),Zak (i64 (HalfS.ch v0)),Zak (i64 (HalfS.un v0)),Zak (bo (HalfS.pr v0)),Zak (i64 (HalfS.ke v0))]
abbrev Qz12 (v0:Int) (v1:Int) (v2:Int) (v3:Int) (v4:Bool) (v5:Int):= [i64 v0,i64 v1,i64 v2,i64 v3,bo v4,i64 v5]
abbrev Qz14 (v0:Int) (v1:Int) (v2:Int) (v3:Int) (v4:Bool) (v5:Int):List AV:= [Zak (i64 v0),Zak (i64 v1),Zak (i64 v2),Zak (i64 v3),Zak (bo v4),Zak (i64 v5)]
def bds:Nat→List AV→List AV|0,l=>l|n+1,l=>Zam::bds n l
abbrev Qz18 (v0:List HalfS) (v1:Int) (v2:Int):=Zak (Zbd 6 (rowsH v0))::Zam::Zak (bo false)::Zam::Zam::Zak (Zbd 6 (rowsH v0))::Zak (i64 v1)::Zak (i64 v2)::bds 26 []
theorem rVa (hs:List HalfS) (n i:Int):wpc Tryd.prog ⟨TVa, [],wl,y,false⟩ 100 lpVa (tmVa hs n i) [] b (maskK 0 [0,2,5,6,7] K)=(BIf (decide (i<n)) (BIf (true&&decide (0≤i)) (∃(x0:Int) (x1:Int) (x2:Int) (x3:Int) (b4:Bool) (x5:Int),(rowsH hs)[Zbb i]? =some (Qz12 x0 x1 x2 x3 b4 x5)∧∃(h8:HalfS), [Zbv (Qz14 x0 x1 x2 x3 b4 x5)]= [Zbv (Qz2 h8)]∧BIf (!halfOk h8) (K .ret (Qz18 hs n i) [] b) (BIf (decide (i>(0:Int))) (BIf (true&&decide ((0:Int)≤Zad .i64 (i - 1))) (∃(x9:Int) (x10:Int) (x11:Int) (x12:Int) (b13:Bool) (x14:Int),(rowsH hs)[Zbb (Zad .i64 (i - 1))]? =some (Qz12 x9 x10 x11 x12 b13 x14)∧BIf (decide (x0≤x9)) (K .ret (Qz18 hs n i) [] b) (K .normal (Zak (Zbd 6 (rowsH hs))::Zam::Zak (bo false)::Zam::Zam::Zak (Zbd 6 (rowsH hs))::Zak (i64 n)::Zak (i64 (Zad .i64 (i+1)))::bds 26 []) [] b)) False) (K .normal (Zak (Zbd 6 (rowsH hs))::Zam::Zak (bo false)::Zam::Zam::Zak (Zbd 6 (rowsH hs))::Zak (i64 n)::Zak (i64 (Zad .i64 (i+1)))::bds 26 []) [] b))) False) (K (Exit.exit 0) (Qz18 hs n i) [] b)):=by kernel_rfl
open Go.Maps (Keyed)
variable {β:Type} (wl:WLT β) (y:YieldT β) (b:β) (R:AV→β→Prop) (RS:AV→List Blk→β→Prop) (K:Exit→List AV→List Blk→β→Prop) (Kh:Exit→List Blk→β→Prop) (Q:β→Prop)
def zeroH:HalfS:=⟨0,0,0,0,false,0⟩
def getH (k:Int) (hs:List HalfS):HalfS:=(hs.find? fun h=>h.st==k).getD zeroH
def hasH (k:Int) (hs:List HalfS):Bool:=hs.any fun h=>h.st==k
def insH (h:HalfS):List HalfS→List HalfS
 | []=> [h]
 |x::r=>if h.st<x.st then h::x::r else x::insH h r
def putH (h:HalfS) (hs:List HalfS):List HalfS:=insH h (hs.filter fun x=> !(x.st==h.st))
def entH (hs:List HalfS):MC:=hs.map fun h=>(Lit.int .i64 h.st,halfA h)
abbrev SpG:=Option (Nat×List HalfS)
def spF:SpG→List MapC
 |none=> []
 |some (d,hs)=> [⟨d,3,entH hs⟩]
structure NoG (g:SpG):Prop where
 e:g=none
def mapA (d:Nat):AV:= .d (.s (.map (some d)))
structure InI (k:Int):Prop where
 lo: -9223372036854775808≤k
 hi:k≤9223372036854775807
theorem sameKey_int (a k:Int):(Lit.int .i64 a).sameKey (Lit.int .i64 k)=(a==k):=by
 by_cases h:a=k<;>simp [Lit.sameKey,h]
theorem entH_at (k:Int) (hs:List HalfS):atK (Lit.int .i64 k) (halfA zeroH) (entH hs)=halfA (getH k hs):=by
 induction hs with
 |nil=>rfl
 | cons h t ih=>
   simp only [atK,entH,getH,List.map_cons,List.find?_cons,sameKey_int] at ih ⊢
   cases h.st==k
   · exact ih
   · rfl
theorem entH_has (k:Int) (hs:List HalfS):hasK (Lit.int .i64 k) (entH hs)=hasH k hs:=by
 simp [hasK,entH,hasH,List.any_map,Function.comp_def,sameKey_int]
theorem entH_del (k:Int) (hs:List HalfS):delK (Lit.int .i64 k) (entH hs)=entH (hs.filter fun x=> !(x.st==k)):=by
 simp only [delK,entH,List.filter_map]
 congr 1
 apply List.filter_congr
 intro x _
 simp only [Function.comp,sameKey_int]
theorem entH_ins (h:HalfS) (hs:List HalfS):insK (Lit.int .i64 h.st,halfA h) (entH hs)=entH (insH h hs):=by
 induction hs with
 |nil=>rfl
 | cons x t ih=>
   simp only [entH,List.map_cons,insK,insH,Lit.before] at ih ⊢
   by_cases hx:h.st<x.st
   · simp [hx]
   · simp [hx,ih]
theorem entH_put (h:HalfS) (hs:List HalfS):putK (Lit.int .i64 h.st) (halfA h) (entH hs)=entH (putH h hs):=by
 rw [putK,entH_del,entH_ins];rfl
theorem keyed3:Keyed Tryd.prog 3:=Go.Maps.int_keyed (q:= .i64) (by kernel_rfl)
theorem under59:Tryd.prog.underlying 59=some (.map 3 40):=by kernel_rfl
theorem key3 {k:Int} (h:InI k):keyOf Tryd.prog 3 (.int .i64 k)=some (.int .i64 k):=Go.Maps.keyOf_int_mk (by kernel_rfl) (by obtain ⟨h1,h2⟩:=h;simp [Lit.wf,IntKind.min,IntKind.max,IntKind.signed,IntKind.bits];omega)
def zeroHV:Value:= .agg #[.int .i64 0, .int .i64 0, .int .i64 0, .int .i64 0, .bool false, .int .i64 0]
theorem zero40 (w:World):(zeroValue 40).run Tryd.prog w= .ok zeroHV w:=by rfl
theorem zeroH_rv (S:Pr) (w:World):RV S w [] none (halfA zeroH) zeroHV:=by
 refine .agg rfl fun i c v h1 h2=> ?_
 match i with
 |0|1|2|3|4|5=>simp [zeroH] at h1 h2;subst h1 h2;exact .d (.s _)
 |i+6=>simp at h1
def MCT (γ:Type):=List (Nat×(List AV→γ→(AV→γ→Prop)→Prop))
def spM (C:MCT SpG):MHook SpG:=fun o s g K=>match o.op with
 | .makeMap t none=>some (NoG g∧t=59∧∀d,K {tm:=putA s.tm o.dst (mapA d),hp:=s.hp,pv:=pvPut s.pv o.dst} (some (d, [])))
 | .lookup t m x ok=>some (t=59∧∃(d:Nat) (hs:List HalfS) (k:Int) (h:HalfS) (z:Bool),g=some (d,hs)∧evalA s.tm m=mapA d∧evalA s.tm x= .d (i64 k)∧InI k∧(h=getH k hs∧z=hasH k hs)∧
     if ok then BIf z (K {tm:=putA s.tm o.dst (.tup [halfA h, .d (bo true)]),hp:=s.hp,pv:=pvPut s.pv o.dst} g) (K {tm:=putA s.tm o.dst (.tup [halfA h, .d (bo false)]),hp:=s.hp,pv:=pvPut s.pv o.dst} g)
     else K {tm:=putA s.tm o.dst (halfA h),hp:=s.hp,pv:=pvPut s.pv o.dst} g)
 | .mapUpdate t m x v=>some (t=59∧∃(d:Nat) (hs hs':List HalfS) (h:HalfS),g=some (d,hs)∧evalA s.tm m=mapA d∧evalA s.tm x= .d (i64 h.st)∧evalA s.tm v=halfA h∧InI h.st∧hs.length<1000000∧hs'=putH h hs∧
     K {tm:=putA s.tm o.dst (.d (.s undef)),hp:=s.hp,pv:=pvPut s.pv o.dst} (some (d,hs')))
 | .call c=>match c.callee with
   | .builtin .len=>match c.args[0]?,c.argTypes[0]? with
     |some m,some t=>if Nat.beq t 59&&(Nat.beq c.args.size 1&&Nat.beq c.argTypes.size 1) then
         some (∃(d:Nat) (hs:List HalfS),g=some (d,hs)∧evalA s.tm m=mapA d∧K {tm:=putA s.tm o.dst (.d (i64 hs.length)),hp:=s.hp,pv:=pvPut s.pv o.dst} g)
       else none
     |_,_=>none
   | .value _=>match opCall s.tm o with
     | some (k,args)=>match C.lookup k with
       |some f=>some (closeds args=true∧f args g fun x g'=>K {tm:=putA s.tm o.dst x.view,hp:=s.hp,pv:=pvPut s.pv o.dst} g')
       |none=>none
     |none=>none
   |_=>none
 |_=>none
def MCTok (C:MCT SpG):Prop:=∀k f,C.lookup k=some f→∀args g K,f args g K→∃R,MCall Tryd.prog spF k args g R∧∀x g',R x g'→K x g'
theorem spF_mem {d:Nat} {hs:List HalfS}:(⟨d,3,entH hs⟩:MapC)∈spF (some (d,hs)):=by simp [spF]
theorem spM_ok {C:MCT SpG} (hC:MCTok C) (N:Nat) (w0:World) (lent:List Nat):MOk (Zch Tryd.prog none N w0 lent spF) (spM C):=by
 intro o s g K p hp h
 unfold spM at hp
 split at hp
 ·
   rename_i t ho
   cases hp
   obtain ⟨⟨rfl⟩,rfl,hk⟩:=h
   refine ⟨_,makeMap_env (g:=none) (mk:=fun d=>some (d, [])) (k:=3) ho (fun d=>rfl), ?_⟩
   rintro s' b' ⟨d,rfl,rfl⟩
   exact hk d
 ·
   rename_i t m x ok ho
   cases hp
   obtain ⟨rfl,d,hs,k,_,_,rfl,hm,hx,hi,⟨rfl,rfl⟩,hk⟩:=h
   refine ⟨_,lookup_env (g:=some (d,hs)) (c:=⟨d,3,entH hs⟩) (z:=halfA zeroH) ho spF_mem hm (key:= .int .i64 k) (by rw [hx];rfl) keyed3 under59 (key3 hi) zero40 zeroH_rv (by rfl), ?_⟩
   rintro s' b' ⟨rfl,rfl⟩
   cases ok with
   | true=>
     simp only [if_true,entH_at,entH_has] at hk ⊢
     cases hz:hasH k hs<;>rw [hz] at hk<;>exact hk
   | false=>
     simp only [Zcc,if_false,entH_at] at hk ⊢
     exact hk
 ·
   rename_i t m x v ho
   cases hp
   obtain ⟨rfl,d,hs,_,h,rfl,hm,hx,hv,hi,hl,rfl,hk⟩:=h
   refine ⟨_,mapUpdate_env (g:=some (d,hs)) (g':=some (d,putH h hs)) (l1:= []) (l2:= []) (c:=⟨d,3,entH hs⟩) ho rfl hm (key:= .int .i64 h.st) (by rw [hx];rfl) keyed3 under59 (key3 hi) (by simp [entH,maxLen];omega) (by rw [hv];rfl) ?_, ?_⟩
   · rw [hv];simp only [spF,List.nil_append]
     rw [show (halfA h).view=halfA h from rfl,entH_put]
   · rintro s' b' ⟨rfl,rfl⟩
     exact hk
 ·
   rename_i c ho
   split at hp
   · rename_i hc
     split at hp
     · rename_i m t hm0 ht0
       split at hp
       · rename_i hcond
         cases hp
         obtain ⟨d,hs,rfl,hm,hk⟩:=h
         simp only [Zag] at hcond
         obtain ⟨h59,hs1,hs2⟩:=hcond
         have h59:=Nat.eq_of_beq_eq_true h59
         have hs1:=Nat.eq_of_beq_eq_true hs1
         have hs2:=Nat.eq_of_beq_eq_true hs2
         subst h59
         have ha:c.args=#[m]:=by
           apply Array.ext_getElem?
           intro j
           match j with
           |0=>simpa using hm0
           |j+1=>simp [Array.getElem?_eq_none (by omega:c.args.size≤j+1)]
         have hat:c.argTypes=#[59]:=by
           apply Array.ext_getElem?
           intro j
           match j with
           |0=>simpa using ht0
           |j+1=>simp [Array.getElem?_eq_none (by omega:c.argTypes.size≤j+1)]
         refine ⟨_,lenMap_env (g:=some (d,hs)) (c:=⟨d,3,entH hs⟩) (t:=59) (e:=40) (mo:=m) (by rw [ho];obtain ⟨c1,c2,c3⟩:=c;simp only at hc hat ha;subst hc hat ha;rfl) spF_mem hm under59, ?_⟩
         rintro s' b' ⟨rfl,rfl⟩
         simp only [entH,List.length_map]
         exact hk
       · cases hp
     · cases hp
   · rename_i fo hc
     split at hp
     · rename_i k args hcall
       split at hp
       · rename_i f hf
         cases hp
         obtain ⟨hcl,h⟩:=h
         obtain ⟨R,h1,h2⟩:=hC k f hf args g _ h
         refine ⟨_,mcall_env (g:=g) (g0:=g) (up:=id) (f':=spF) (l1:= []) (l2:= []) hcall hcl (by simp) (by simp) h1, ?_⟩
         rintro s' b' ⟨x,g1,hR,rfl,he⟩
         cases he
         exact h2 x _ hR
       · cases hp
     · cases hp
   · cases hp
 · cases hp
def cNone (args:List AV) (K:AV→Prop):Prop:=False
def TAs:List (Nat×(List AV→(AV→Prop)→Prop)):= [(49,cBelow),(4000001,cNone),(4000006,cNone),(4000009,cNone)]
def TPr:List (Nat×(List AV→(AV→Prop)→Prop)):= [(4000001,cNone),(4000005,cNone)]
def wlSp (T:List (Nat×(List AV→(AV→Prop)→Prop))) (C:MCT SpG):WLT SpG:=wlM Tryd.prog ⟨T, [],fun _ _ _ _ _=>False,fun _ _ _=>False,false⟩ (spM C) fun _ _ _ _ _=>False
section
variable (R:AV→SpG→Prop)
theorem asked_nf (d:Nat) (hs:List HalfS) (fr:Int) (w:WordS):wpFn Tryd.prog ⟨TAs, [],wlSp TAs [],fun _ _ _=>False,false⟩ 100 Tryd.f30 [.agg [mapA d, .d (i64 fr)],wordA w] (some (d,hs)) R=(59=59∧∃(d0:Nat) (hs1:List HalfS) (k2:Int) (h3:HalfS) (z4:Bool),some (d,hs)=some (d0,hs1)∧Zak (Dv.s (Zbe (some d)))=Zak (Dv.s (Zbe (some d0)))∧Zak (i64 (WordS.st w))=Zak (i64 k2)∧InI k2∧(h3=getH k2 hs1∧z4=hasH k2 hs1)∧BIf z4 (BIf (decide (HalfS.no h3>WordS.no w)) (R (.d (i64 14)) (some (d,hs))) (BIf (HalfS.no h3==WordS.no w) (R (.d (i64 0)) (some (d,hs))) (∃(x5:Int) (n6:Int), [Zak (u64 (Zad .u64 (Zad .u64 ((1000003:Int)*Zad .u64 (Zad .u64 ((1000003:Int)*Zad .u64 (Zad .i64 (Zad .i64 ((64:Int)*WordS.sp w)+WordS.st w)))+Zad .u64 (WordS.no w)))+Zad .u64 fr))),Zak (i64 1000000000)]= [Zak (u64 x5),Zak (i64 n6)]∧59=59∧∃(d7:Nat) (hs8:List HalfS) (hs9:List HalfS) (h10:HalfS),some (d,hs)=some (d7,hs8)∧Zak (Dv.s (Zbe (some d)))=Zak (Dv.s (Zbe (some d7)))∧Zak (i64 (WordS.st w))=Zak (i64 (HalfS.st h10))∧Zbv [Zak (i64 (WordS.st w)),Zak (i64 (WordS.no w)),Zak (i64 (belowS x5 n6)),Zak (i64 (Zad .i64 (fr+12))),Zak (bo false),Zak (i64 0)]=Zbv (Qz2 h10)∧InI (HalfS.st h10)∧Zae hs8<1000000∧hs9=putH h10 hs8∧R (.d (i64 0)) (some (d7,hs9))))) (∃(d11:Nat) (hs12:List HalfS),some (d,hs)=some (d11,hs12)∧Zak (Dv.s (Zbe (some d)))=Zak (Dv.s (Zbe (some d11)))∧BIf (((Zae hs12:Nat):Int)==(4:Int)) (R (.d (i64 10)) (some (d,hs))) (∃(x13:Int) (n14:Int), [Zak (u64 (Zad .u64 (Zad .u64 ((1000003:Int)*Zad .u64 (Zad .u64 ((1000003:Int)*Zad .u64 (Zad .i64 (Zad .i64 ((64:Int)*WordS.sp w)+WordS.st w)))+Zad .u64 (WordS.no w)))+Zad .u64 fr))),Zak (i64 1000000000)]= [Zak (u64 x13),Zak (i64 n14)]∧59=59∧∃(d15:Nat) (hs16:List HalfS) (hs17:List HalfS) (h18:HalfS),some (d,hs)=some (d15,hs16)∧Zak (Dv.s (Zbe (some d)))=Zak (Dv.s (Zbe (some d15)))∧Zak (i64 (WordS.st w))=Zak (i64 (HalfS.st h18))∧Zbv [Zak (i64 (WordS.st w)),Zak (i64 (WordS.no w)),Zak (i64 (belowS x13 n14)),Zak (i64 (Zad .i64 (fr+12))),Zak (bo false),Zak (i64 0)]=Zbv (Qz2 h18)∧InI (HalfS.st h18)∧Zae hs16<1000000∧hs17=putH h18 hs16∧R (.d (i64 0)) (some (d15,hs17))))):=by kernel_rfl
theorem proved_nf (d:Nat) (hs:List HalfS) (fr:Int) (w:WordS):wpFn Tryd.prog ⟨TPr, [],wlSp TPr [],fun _ _ _=>False,false⟩ 100 Tryd.f31 [.agg [mapA d, .d (i64 fr)],wordA w] (some (d,hs)) R=(59=59∧∃(d0:Nat) (hs1:List HalfS) (k2:Int) (h3:HalfS) (z4:Bool),some (d,hs)=some (d0,hs1)∧Zak (Dv.s (Zbe (some d)))=Zak (Dv.s (Zbe (some d0)))∧Zak (i64 (WordS.st w))=Zak (i64 k2)∧InI k2∧(h3=getH k2 hs1∧z4=hasH k2 hs1)∧BIf z4 (BIf (HalfS.no h3 !=WordS.no w) (R (.d (i64 4)) (some (d,hs))) (BIf (HalfS.ch h3 !=WordS.ch w) (R (.d (i64 4)) (some (d,hs))) (59=59∧∃(d5:Nat) (hs6:List HalfS) (hs7:List HalfS) (h8:HalfS),some (d,hs)=some (d5,hs6)∧Zak (Dv.s (Zbe (some d)))=Zak (Dv.s (Zbe (some d5)))∧Zak (i64 (WordS.st w))=Zak (i64 (HalfS.st h8))∧Zbv [Zak (i64 (HalfS.st h3)),Zak (i64 (HalfS.no h3)),Zak (i64 (HalfS.ch h3)),Zak (i64 (HalfS.un h3)),Zak (bo true),Zak (i64 (WordS.ke w))]=Zbv (Qz2 h8)∧InI (HalfS.st h8)∧Zae hs6<1000000∧hs7=putH h8 hs6∧R (.d (i64 0)) (some (d5,hs7))))) (R (.d (i64 4)) (some (d,hs)))):=by kernel_rfl
end
theorem cNone_ok {n:Nat}:∀args K,cNone args K→∃x,PCall Tryd.prog n args x∧K x:=fun _ _ h=>h.elim
theorem TAs_ok:CallsOk Tryd.prog TAs:=Zan cBelow_ok (Zan cNone_ok (Zan cNone_ok (Zan cNone_ok Zat)))
theorem TPr_ok:CallsOk Tryd.prog TPr:=Zan cNone_ok (Zan cNone_ok Zat)
theorem MCTok.nil:MCTok []:=fun _ _ h=>by cases h
theorem wlSp_ok {T:List (Nat×(List AV→(AV→Prop)→Prop))} {C:MCT SpG} (hT:CallsOk Tryd.prog T) (hC:MCTok C) (lent:List Nat) (N:Nat) (w0:World):
   ∀c tm hp b K,wlSp T C c tm hp b K→W (Zch Tryd.prog none N w0 lent spF) c ⟨tm,hp,b⟩ (fun e s=>K e s.tm s.hp s.b):=
 wlM_ok (Ev:=Zch Tryd.prog none N w0 lent spF) mixed (CX.Ok.ofWl (Ev:=Zch Tryd.prog none N w0 lent spF) hT Zap fun _ _ _ _ _ h=>h.elim) (spM_ok hC N w0 lent) fun _ _ _ _ _ h=>h.elim
def chalS (fr:Int) (w:WordS):Int:=
 belowS (Zad Zcf (Zad Zcf (1000003*Zad Zcf (Zad Zcf (1000003*Zad Zcf (Zad Zbo (Zad Zbo (64*w.sp)+w.st)))+Zad Zcf w.no))+Zad Zcf fr)) 1000000000
def freshS (fr:Int) (w:WordS):HalfS:=⟨w.st,w.no,chalS fr w,Zad Zbo (fr+12),false,0⟩
def askedS (hs:List HalfS) (fr:Int) (w:WordS):Int×List HalfS:=
 if hasH w.st hs=true then (if (getH w.st hs).no>w.no then (14,hs) else if ((getH w.st hs).no==w.no)=true then (0,hs) else (0,putH (freshS fr w) hs))
 else if ((hs.length:Int)==4)=true then (10,hs) else (0,putH (freshS fr w) hs)
def provedS (hs:List HalfS) (w:WordS):Int×List HalfS:=
 let h:=getH w.st hs
 if hasH w.st hs=true then (if (h.no !=w.no)=true then (4,hs) else if (h.ch !=w.ch)=true then (4,hs) else (0,putH ⟨h.st,h.no,h.ch,h.un,true,w.ke⟩ hs)) else (4,hs)
theorem getH_st {k:Int} {hs:List HalfS} (h:hasH k hs=true):(getH k hs).st=k:=by
 simp only [hasH,List.any_eq_true] at h
 obtain ⟨x,h1,h2⟩:=h
 unfold getH
 cases hf:hs.find? fun h=>h.st==k with
 |none=>simp only [List.find?_eq_none] at hf;exact absurd h2 (hf x h1)
 |some y=>simpa using List.find?_some hf
theorem mcAsked (d:Nat) (hs:List HalfS) (fr:Int) (w:WordS) (hw:InI w.st) (hl:hs.length<1000000):
   MCall Tryd.prog spF 30 [.agg [mapA d, .d (i64 fr)],wordA w] (some (d,hs)) fun x g=>x= .d (i64 (askedS hs fr w).1)∧g=some (d,(askedS hs fr w).2):=by
 refine MCall.ofFn (n:=100) (u:=false) (wlSp TAs []) mixed TAs_ok Zap (fun N w0=>wlSp_ok TAs_ok MCTok.nil _ N w0) Tryd.func30 (by rfl) (by rfl) ?_
 rw [asked_nf]
 refine ⟨rfl,d,hs,w.st,_,_,rfl,rfl,rfl,hw,⟨rfl,rfl⟩,Zba (fun h1=>Zba (fun h2=> ?_) fun h2=>Zba (fun h3=> ?_) fun h3=>⟨_,_,rfl,rfl,d,hs,_,freshS fr w,rfl,rfl,rfl,rfl,hw,hl,rfl, ?_⟩) fun h1=>⟨d,hs,rfl,rfl,Zba (fun h2=> ?_) fun h2=>⟨_,_,rfl,rfl,d,hs,_,freshS fr w,rfl,rfl,rfl,rfl,hw,hl,rfl, ?_⟩⟩⟩
 · rw [askedS,if_pos h1,if_pos (of_decide_eq_true h2)];exact ⟨rfl,rfl⟩
 · rw [askedS,if_pos h1,if_neg (of_decide_eq_false h2),if_pos h3];exact ⟨rfl,rfl⟩
 · rw [askedS,if_pos h1,if_neg (of_decide_eq_false h2),if_neg (by rw [h3];decide)];exact ⟨rfl,rfl⟩
 · rw [askedS,if_neg (by rw [h1];decide),if_pos h2];exact ⟨rfl,rfl⟩
 · rw [askedS,if_neg (by rw [h1];decide),if_neg (by rw [h2];decide)];exact ⟨rfl,rfl⟩
theorem mcProved (d:Nat) (hs:List HalfS) (fr:Int) (w:WordS) (hw:InI w.st) (hl:hs.length<1000000):
   MCall Tryd.prog spF 31 [.agg [mapA d, .d (i64 fr)],wordA w] (some (d,hs)) fun x g=>x= .d (i64 (provedS hs w).1)∧g=some (d,(provedS hs w).2):=by
 refine MCall.ofFn (n:=100) (u:=false) (wlSp TPr []) mixed TPr_ok Zap (fun N w0=>wlSp_ok TPr_ok MCTok.nil _ N w0) Tryd.func31 (by rfl) (by rfl) ?_
 rw [proved_nf]
 refine ⟨rfl,d,hs,w.st,_,_,rfl,rfl,rfl,hw,⟨rfl,rfl⟩,Zba (fun h1=> ?_) fun h1=> ?_⟩
 · have hst:=getH_st h1
   refine Zba (fun h2=> ?_) fun h2=>Zba (fun h3=> ?_) fun h3=>⟨rfl,d,hs,_,⟨(getH w.st hs).st,(getH w.st hs).no,(getH w.st hs).ch,(getH w.st hs).un,true,w.ke⟩,rfl,rfl,by rw [hst],rfl,by rw [hst];exact hw,hl,rfl, ?_⟩
   · simp only [provedS,h1,h2,if_true];exact ⟨trivial,trivial⟩
   · simp only [provedS,h1,h2,h3,if_true,Zcc,if_false];exact ⟨trivial,trivial⟩
   · simp only [provedS,h1,h2,h3,if_true,Zcc,if_false];exact ⟨trivial,trivial⟩
 · simp only [provedS,h1,Zcc,if_false];exact ⟨trivial,trivial⟩
def nthH (hs:List HalfS) (i:Nat):HalfS:=hs.getD i zeroH
theorem rowsH_at {hs:List HalfS} {i:Nat} (h:i<hs.length):(rowsH hs)[i]? =some (halfR (nthH hs i)):=by
 simp [rowsH,nthH,h]
def badAt (hs:List HalfS) (i:Nat):Bool:= !halfOk (nthH hs i)||(decide ((i:Int)>0)&&decide ((nthH hs i).st≤(nthH hs (i - 1)).st))
def validH (hs:List HalfS):Bool:= !((Zay hs.length).any (badAt hs))&&decide (hs.length≤4)
theorem WR.scanK {P:Program} {Ev:Env P} {X:CX Ev.β} {lp:Code} {b:Ev.β} {Q:Exit→St Ev.β→Prop} {k:Nat} (keep:List Nat) (hm:P.follows .mixedOrders=true) (hX:X.Ok) (n:Nat) (test:Nat→Bool) (tmOf tmR:Nat→List AV) (hp:List Blk) (id:Nat)
   (hr:∀i,i<n→∀K:Exit→List AV→List Blk→Ev.β→Prop,(test i=true→K .ret (tmR i) hp b)→(test i=false→K .normal (tmOf (i+1)) hp b)→wpc P X k lp (tmOf i) hp b (maskK hp.length keep K))
   (he:∀K:Exit→List AV→List Blk→Ev.β→Prop,K (.exit id) (tmOf n) hp b→wpc P X k lp (tmOf n) hp b (maskK hp.length keep K))
   (h1:(Zay n).any test=false→Q (.exit id) ⟨tmOf n,hp,b⟩) (h2:(Zay n).any test=true→∀i,Q .ret ⟨tmR i,hp,b⟩):WR Ev lp (n+1) ⟨tmOf 0,hp,b⟩ Q:=by
 have key:∀(m i:Nat),i+m=n→(∀j,j<i→test j=false)→WR Ev lp (m+1) ⟨tmOf i,hp,b⟩ Q:=by
   intro m
   induction m with
   | zero=>
     intro i hi hj
     have:i=n:=by omega
     subst this
     refine Zcq keep hm hX (he _ (h1 ?_))
     rw [List.any_eq_false]
     intro j hj'
     rw [List.mem_range] at hj'
     rw [hj j hj'];simp
   | succ m ih=>
     intro i hi hj
     refine Zcq keep hm hX (hr i (by omega) _ (fun ht=>h2 ?_ i) fun hf=>ih (i+1) (by omega) fun j hj'=> ?_)
     · rw [List.any_eq_true]
       exact ⟨i,List.mem_range.2 (by omega),ht⟩
     · by_cases h:j=i
       · rw [h];exact hf
       · exact hj j (by omega)
 exact key n 0 (by omega) fun j hj=>by omega
theorem wrapN {j:Nat} (h:j<9223372036854775807):Zad Zbo ((j:Int)+1)=((j+1:Nat):Int):=by
 rw [wrap_i64 (by omega) (by omega)];simp
theorem wrapP {j:Nat} (h:j<9223372036854775807) (h0:0<j):Zbb (Zad Zbo ((j:Int) - 1))=j - 1:=by
 rw [wrap_i64 (by omega) (by omega)];omega
theorem wrapQ {j:Nat} (h:j<9223372036854775807) (h0:0<j):(0:Int)≤Zad Zbo ((j:Int) - 1):=by
 rw [wrap_i64 (by omega) (by omega)];omega
theorem wrVa {Ev:Env Tryd.prog} {b:Ev.β} {Q:Exit→St Ev.β→Prop} (hs:List HalfS) (hl:hs.length≤9223372036854775807) (h1:(Zay hs.length).any (badAt hs)=false→∀i:Int,Q (.exit 0) ⟨tmVa hs hs.length i, [],b⟩)
   (h2:(Zay hs.length).any (badAt hs)=true→∀i:Int,Q .ret ⟨tmVa hs hs.length i, [],b⟩):WR Ev lpVa (hs.length+1) ⟨tmVa hs hs.length (0:Nat), [],b⟩ Q:=by
 refine WR.scanK (X:=⟨TVa, [],wlW Ev,Ev.Y,false⟩) (k:=100) [0,2,5,6,7] mixed (CX.Ok.of TVa_ok Zap) hs.length (badAt hs) (fun i=>tmVa hs hs.length (i:Nat)) (fun i=>tmVa hs hs.length (i:Nat)) [] 0 (fun i hi K k1 k2=> ?_) (fun K k1=> ?_) (fun h=>h1 h _) fun h i=>h2 h i
 · refine Eq.mpr (rVa _ _ _ K hs hs.length i) ?_
   rw [Zcb,rowsH_at hi]
   refine Zca (by simp<;>omega) (Zca (by simp) ⟨_,_,_,_,_,_,rfl,nthH hs i,rfl, ?_⟩)
   refine Zba (fun g=>k1 (by rw [badAt,g];rfl)) fun g=>Zba (fun g2=> ?_) fun g2=> ?_
   · have h0:0<i:=by have:=of_decide_eq_true g2;omega
     rw [wrapP (by omega) h0,rowsH_at (by omega:i - 1<hs.length)]
     refine Zca (by simp [wrapQ (by omega:i<9223372036854775807) h0]) ⟨_,_,_,_,_,_,rfl,Zba (fun g3=>k1 (by rw [badAt,g,g2,g3];rfl)) fun g3=> ?_⟩
     rw [wrapN (by omega)]
     exact k2 (by rw [badAt,g,g2,g3];rfl)
   · rw [wrapN (by omega)]
     exact k2 (by rw [badAt,g,g2];rfl)
 · refine Eq.mpr (rVa _ _ _ K hs hs.length _) ?_
   exact BIf.f (by simp) k1
theorem rowsH_len (hs:List HalfS):(rowsH hs).length=hs.length:=by simp [rowsH]
def wlVa {β:Type}:WLT β:=fun t tm hp b K=>∃(hs:List HalfS) (z:Bool),t= .loop lpVa∧maskTm [0,2,5,6,7] 0 tm=tmVa hs (rowsH hs).length 0∧hp= []∧(hs.length≤9223372036854775807∧z=(Zay hs.length).any (badAt hs))∧
 BIf z (∀i:Int,K .ret (tmVa hs hs.length i) [] b) (∀i:Int,K (.exit 0) (tmVa hs hs.length i) [] b)
theorem wlVa_ok {Ev:Env Tryd.prog} (c:Code) (tm:List AV) (hp:List Blk) (b:Ev.β) (K:Exit→List AV→List Blk→Ev.β→Prop) (h:wlVa c tm hp b K):W Ev c ⟨tm,hp,b⟩ (fun e s=>K e s.tm s.hp s.b):=by
 obtain ⟨hs,z,rfl,htm,rfl,⟨hl,hz⟩,hK⟩:=h
 rw [rowsH_len] at htm
 refine W.cast (htm▸maskTm_le _ tm 0) (Zcy _) ?_
 exact W.rounds (wrVa (Q:=fun e s=>K e s.tm s.hp s.b) hs hl (fun h=>by rw [hz,h] at hK;exact hK) fun h=>by rw [hz,h] at hK;exact hK)
abbrev Qz21 (v0:List HalfS):=Zak (Zbd 6 (rowsH v0))::Zam::Zak (bo false)::Zam::Zam::Zak (Zbd 6 (rowsH v0))::Zak (i64 ((Zae (rowsH v0):Nat):Int))::Zak (i64 0)::bds 26 []
theorem valid_nf (hs:List HalfS):wpFn Tryd.prog ⟨TVa, [],wlVa,y,false⟩ 100 Tryd.f13 [.d (.sl 6 (rowsH hs))] b R=(∃(hs0:List HalfS) (z1:Bool),Code.loop lpVa=Code.loop lpVa∧(Qz21 hs)=(Qz21 hs0)∧([]:List Blk)= []∧(Zae hs0≤9223372036854775807∧z1=List.any (Zay (Zae hs0)) (badAt hs0))∧BIf z1 (∀(i:Int),R (.d (bo false)) b) (∀(i:Int),R (.d (bo (decide (((Zae (rowsH hs0):Nat):Int)≤(4:Int))))) b)):=by kernel_rfl
theorem pcValid (hs:List HalfS) (hl:hs.length≤9223372036854775807):PCall Tryd.prog 13 [.d (.sl 6 (rowsH hs))] (.d (bo (validH hs))):=by
 refine PCall.ofFnW (n:=100) (u:=false) (fun _=>wlVa) mixed TVa_ok Zap (fun Ev=>wlVa_ok) Tryd.func13 (by rfl) (by rfl) fun Ev bb=> ?_
 rw [valid_nf]
 refine ⟨hs,_,rfl,rfl,rfl,⟨hl,rfl⟩,Zba (fun h i=> ?_) fun h i=> ?_⟩
 · rw [validH,h];rfl
 · rw [validH,h,rowsH_len,show decide ((hs.length:Int)≤4)=decide (hs.length≤4) from decide_eq_decide.2 (by omega)];rfl
def cValid (args:List AV) (K:AV→Prop):Prop:=∃(hs:List HalfS) (z:Bool),args= [.d (.sl 6 (rowsH hs))]∧(hs.length≤9223372036854775807∧z=validH hs)∧K (.d (bo z))
theorem cValid_ok:∀args K,cValid args K→∃x,PCall Tryd.prog 13 args x∧K x:=by
 rintro _ K ⟨hs,_,rfl,⟨hl,rfl⟩,h⟩;exact ⟨_,pcValid hs hl,h⟩
noncomputable def lpHr:Code:=sub [1,1,1,0,1,2,3] (code Tryd.f11)
def tmHr (hs:List HalfS) (n i:Int):List AV:= [.bad, .bad, .bad, .bad, .bad, .bad, .ptr 0 0, .bad, .d (.s (.slice none 0 0)), .d (i64 0), .ptr 1 0]++Zao 33 .bad++ [.d (.sl 6 (rowsH hs)), .d (i64 n), .d (i64 i)]++Zao 32 .bad
def wordB (w:WordS):Blk:=⟨[.d (i64 w.ki), .d (i64 w.st), .d (i64 w.sp), .d (i64 w.no), .d (i64 w.ch), .d (i64 w.ke), .d (i64 w.rf), .d (i64 w.rn)],false,false,0⟩
def deskB (d:Nat) (fr:Int):Blk:=⟨[mapA d, .d (i64 fr)],false,false,0⟩
def THr:List (Nat×(List AV→(AV→Prop)→Prop)):= [(4000007,cNone)]
section
variable (y:YieldT SpG) (K:Exit→List AV→List Blk→SpG→Prop)
abbrev Qz1 (v0:WordS):List AV:= [Zak (i64 (WordS.ki v0)),Zak (i64 (WordS.st v0)),Zak (i64 (WordS.sp v0)),Zak (i64 (WordS.no v0)),Zak (i64 (WordS.ch v0)),Zak (i64 (WordS.ke v0)),Zak (i64 (WordS.rf v0)),Zak (i64 (WordS.rn v0))]
abbrev Qz6 (v0:WordS) (v1:Nat) (v2:Int):= [Blk.mk (Qz1 v0) false false 0,Blk.mk [Zak (Dv.s (Zbe (some v1))),Zak (i64 v2)] false false 0]
theorem rHr (d:Nat) (ts hs:List HalfS) (w:WordS) (fr n i:Int):wpc Tryd.prog ⟨THr, [],wlSp THr [],y,false⟩ 100 lpHr (tmHr hs n i) [wordB w,deskB d fr] (some (d,ts)) (maskK 2 [6,8,9,10,44,45,46] K)=(BIf (decide (i<n)) (BIf (true&&decide (0≤i)) (∃(x0:Int) (x1:Int) (x2:Int) (x3:Int) (b4:Bool) (x5:Int),(rowsH hs)[Zbb i]? =some (Qz12 x0 x1 x2 x3 b4 x5)∧59=59∧∃(d8:Nat) (hs9:List HalfS) (hs10:List HalfS) (h11:HalfS),some (d,ts)=some (d8,hs9)∧Zak (Dv.s (Zbe (some d)))=Zak (Dv.s (Zbe (some d8)))∧Zak (i64 x0)=Zak (i64 (HalfS.st h11))∧Zbv (Qz14 x0 x1 x2 x3 b4 x5)=Zbv (Qz2 h11)∧InI (HalfS.st h11)∧Zae hs9<1000000∧hs10=putH h11 hs9∧K .normal (bds 6 (Zci 0 0::Zam::Zak (Dv.s (.slice none 0 0))::Zak (i64 0)::Zci 1 0::bds 33 (Zak (Zbd 6 (rowsH hs))::Zak (i64 n)::Zak (i64 (Zad .i64 (i+1)))::bds 32 []))) (Qz6 w d fr) (some (d8,hs10))) False) (K (Exit.exit 0) (bds 6 (Zci 0 0::Zam::Zak (Dv.s (.slice none 0 0))::Zak (i64 0)::Zci 1 0::bds 33 (Zak (Zbd 6 (rowsH hs))::Zak (i64 n)::Zak (i64 i)::bds 32 []))) (Qz6 w d fr) (some (d,ts)))):=by kernel_rfl
end
def tabH (hs:List HalfS):List HalfS:=hs.foldl (fun t h=>putH h t) []
theorem insH_len (h:HalfS) (l:List HalfS):(insH h l).length=l.length+1:=by
 induction l with
 |nil=>rfl
 |cons x r ih=>simp only [insH];split<;>simp [ih]
theorem putH_len (h:HalfS) (l:List HalfS):(putH h l).length≤l.length+1:=by
 rw [putH,insH_len]
 exact Nat.succ_le_succ (List.length_filter_le _ _)
theorem tabH_len (hs:List HalfS):(tabH hs).length≤hs.length:=by
 have key:∀(l t:List HalfS),(l.foldl (fun t h=>putH h t) t).length≤t.length+l.length:=by
   intro l
   induction l with
   |nil=>intro t;simp
   |cons x r ih=>intro t;have:=ih (putH x t);have:=putH_len x t;simp only [List.foldl_cons,List.length_cons];omega
 simpa [tabH] using key hs []
theorem tabH_take {hs:List HalfS} {i:Nat} (h:i<hs.length):tabH (hs.take (i+1))=putH (nthH hs i) (tabH (hs.take i)):=by
 rw [List.take_succ_eq_append_getElem h,tabH,List.foldl_append]
 simp [nthH,h,tabH]
theorem THr_ok:CallsOk Tryd.prog THr:=Zan cNone_ok Zat
theorem spX_ok {T:List (Nat×(List AV→(AV→Prop)→Prop))} {C:MCT SpG} (hT:CallsOk Tryd.prog T) (hC:MCTok C) (lent:List Nat) (N:Nat) (w0:World):
   CX.Ok (Zch Tryd.prog none N w0 lent spF) ⟨T, [],wlSp T C,fun _ _ _=>False,false⟩:=
 CX.Ok.ofWl (Ev:=Zch Tryd.prog none N w0 lent spF) hT Zap (wlSp_ok hT hC lent N w0)
theorem wrHr {N:Nat} {w0:World} {lent:List Nat} {Q:Exit→St SpG→Prop} (hs:List HalfS) (d:Nat) (w:WordS) (fr:Int) (hv:∀i,i<hs.length→InI (nthH hs i).st) (hl:hs.length<1000000)
   (hQ:∀i:Int,Q (.exit 0) ⟨tmHr hs hs.length i, [wordB w,deskB d fr],some (d,tabH hs)⟩):∀(m i:Nat),i+m=hs.length→
   WR (Zch Tryd.prog none N w0 lent spF) lpHr (m+1) ⟨tmHr hs hs.length i, [wordB w,deskB d fr],some (d,tabH (hs.take i))⟩ Q
 | 0,i,hi=>by
   have hi:i=hs.length:=by omega
   subst hi
   refine Zcq [6,8,9,10,44,45,46] mixed (spX_ok THr_ok MCTok.nil lent N w0) (k:=100) ?_
   refine Eq.mpr (rHr _ _ d _ hs w fr hs.length _) ?_
   rw [List.take_length]
   exact BIf.f (by simp) (hQ _)
 | m+1,i,hi=>by
   refine Zcq [6,8,9,10,44,45,46] mixed (spX_ok THr_ok MCTok.nil lent N w0) (k:=100) ?_
   refine Eq.mpr (rHr _ _ d _ hs w fr hs.length i) ?_
   rw [Zcb,rowsH_at (by omega:i<hs.length),wrapN (by omega)]
   have hlen:(tabH (hs.take i)).length<1000000:=by have:=tabH_len (hs.take i);simp at this;omega
   refine Zca (by simp;omega) (Zca (by simp) ⟨_,_,_,_,_,_,rfl,rfl,d,_,_,nthH hs i,rfl,rfl,rfl,rfl,hv i (by omega),hlen,rfl, ?_⟩)
   rw [←tabH_take (by omega)]
   exact wrHr hs d w fr hv hl hQ m (i+1) (by omega)
def cAsked (args:List AV) (g:SpG) (K:AV→SpG→Prop):Prop:=∃(d:Nat) (hs hs':List HalfS) (e fr:Int) (w:WordS),args= [.agg [mapA d, .d (i64 fr)],wordA w]∧g=some (d,hs)∧(InI w.st∧hs.length<1000000∧e=(askedS hs fr w).1∧hs'=(askedS hs fr w).2)∧K (.d (i64 e)) (some (d,hs'))
def cProved (args:List AV) (g:SpG) (K:AV→SpG→Prop):Prop:=∃(d:Nat) (hs hs':List HalfS) (e fr:Int) (w:WordS),args= [.agg [mapA d, .d (i64 fr)],wordA w]∧g=some (d,hs)∧(InI w.st∧hs.length<1000000∧e=(provedS hs w).1∧hs'=(provedS hs w).2)∧K (.d (i64 e)) (some (d,hs'))
theorem cAsked_ok:∀args g K,cAsked args g K→∃R,MCall Tryd.prog spF 30 args g R∧∀x g',R x g'→K x g':=by
 rintro _ _ K ⟨d,hs,_,_,fr,w,rfl,rfl,⟨hw,hl,rfl,rfl⟩,hk⟩
 exact ⟨_,mcAsked d hs fr w hw hl,by rintro x g' ⟨rfl,rfl⟩;exact hk⟩
theorem cProved_ok:∀args g K,cProved args g K→∃R,MCall Tryd.prog spF 31 args g R∧∀x g',R x g'→K x g':=by
 rintro _ _ K ⟨d,hs,_,_,fr,w,rfl,rfl,⟨hw,hl,rfl,rfl⟩,hk⟩
 exact ⟨_,mcProved d hs fr w hw hl,by rintro x g' ⟨rfl,rfl⟩;exact hk⟩
noncomputable def lpH2:Code:=sub [1,1,1,1,0,1,2,3] (code Tryd.f11)
def fnA (k:Nat):AV:= .fn (.func k) [] []
def TH2:List (Nat×(List AV→(AV→Prop)→Prop)):= [(4000013,cNone),(4000016,cNone)]
def tmH2 (i:Int):List AV:= [.bad, .bad, .bad, .bad, .bad, .bad, .ptr 0 0, .bad, .d (.s (.slice none 0 0)), .d (i64 0), .ptr 1 0]++Zao 47 .bad++ [.agg [.d (i64 1),fnA 30, .d (i64 3),fnA 31], .d (i64 i)]++Zao 19 .bad
open Go.Maps (Keyed)
variable {β:Type} (wl:WLT β) (y:YieldT β) (b:β) (R:AV→β→Prop) (RS:AV→List Blk→β→Prop) (K:Exit→List AV→List Blk→β→Prop) (Q:β→Prop)
def boxB (d:Nat):Blk:=⟨[mapA d],false,false,0⟩
theorem keys_nf (d:Nat):wpFnS Tryd.prog ⟨[], [],wl,y,false⟩ 100 Tryd.f51 [mapA d] b RS=(RS (Zcz (Fn.func 60) [] [Zci 0 0]) [cell (Dv.s (Zbe (some d)))] b):=by kernel_rfl
theorem fcKeys (d:Nat):FCall Tryd.prog 51 [mapA d] (.fn (.func 60) [] [.ptr 0 0]) [boxB d]:=by
 refine FCall.ofFnW (n:=100) (u:=false) wlNo mixed Zat Zap (fun Ev=>wlNo_ok Ev) Tryd.func51 (by rfl) (by rfl) (by rfl) fun Ev bb=> ?_
 rw [keys_nf]
 exact ⟨rfl,rfl⟩
def sKeys (args:List AV) (hp:List Blk) (K:AV→List Blk→Prop):Prop:=∃(d:Nat),args= [mapA d]∧K (.fn (.func 60) [] [.ptr hp.length 0]) (hp++ [boxB d])
theorem sKeys_ok:∀args hp K,sKeys args hp K→∃x hp',SCall Tryd.prog 51 args hp x hp'∧K x hp':=by
 rintro _ hp K ⟨d,rfl,h⟩
 have:=(fcKeys d).toS rfl hp
 simp only [shift,shifts,shiftH,List.map_cons,List.map_nil,shiftB,Nat.add_zero,boxB,mapA] at this
 exact ⟨_,_,this,h⟩
def TLf:List (Nat×(List AV→(AV→Prop)→Prop)):= [(4000002,cNone)]
theorem TLf_ok:CallsOk Tryd.prog TLf:=Zan cNone_ok Zat
def ULf:List (Nat×(List AV→List Blk→(AV→List Blk→Prop)→Prop)):= [(51,sKeys)]
theorem ULf_ok:SCallsOk Tryd.prog ULf:=by
 intro k f h args hp K hf
 simp only [ULf,List.lookup_cons,List.lookup_nil] at h
 split at h
 · rename_i he
   cases h;rw [eq_of_beq he];exact sKeys_ok args hp K hf
 · cases h
def spS:MHook SpG:=fun o s g K=>match o.op with
 | .call c=>match c.callee with
   | .value _=>match opCall s.tm o with
     | some (k,args)=>if Nat.beq k 50 then match args with
       | [.fn (.func kk) [] [.ptr q 0]]=>if Nat.beq kk 60 then some (∃(d:Nat) (hs:List HalfS) (ks:List Int),g=some (d,hs)∧s.hp[q]? =some (boxB d)∧(hs.length<1000000∧ks=sortK (entH hs))∧K {tm:=putA s.tm o.dst (.d (.sl 1 (rowsI ks))),hp:=s.hp,pv:=pvPut s.pv o.dst} g) else none
       |_=>none
       else none
     |none=>none
   |_=>spM [] o s g K
 |_=>spM [] o s g K
theorem spS_ok (hsk:SortedKeys Tryd.prog 50 60 3) (N:Nat) (w0:World) (lent:List Nat):MOk (Zch Tryd.prog none N w0 lent spF) spS:=by
 intro o s g K p hp h
 unfold spS at hp
 split at hp
 · rename_i c ho
   split at hp
   · split at hp
     · rename_i k args hc
       split at hp
       · rename_i hk
         split at hp
         · rename_i kk q
           split at hp
           · rename_i hkk
             cases hp
             obtain ⟨d,hs,_,rfl,hq,⟨hl,rfl⟩,hK⟩:=h
             have hk:=Nat.eq_of_beq_eq_true hk
             have hkk:=Nat.eq_of_beq_eq_true hkk
             subst hk;subst hkk
             refine ⟨_,sortedKeys_env (g:=some (d,hs)) (c:=⟨d,3,entH hs⟩) hsk hc hq rfl spF_mem (by simp [entH];omega), ?_⟩
             rintro s' g' ⟨rfl,rfl⟩
             exact hK
           · cases hp
         · cases hp
       · cases hp
     · cases hp
   · exact spM_ok MCTok.nil N w0 lent o s g K p hp h
 · exact spM_ok MCTok.nil N w0 lent o s g K p hp h
noncomputable def lpLi:Code:=sub [1,1,0,1,2,3] (code Tryd.f32)
def tmLi (d:Nat) (ks:List (List Dv)) (acc:AV) (n i:Int):List AV:= [mapA d, .bad, .bad,acc, .bad, .bad, .bad, .bad, .d (.sl 1 ks), .d (i64 n), .d (i64 i)]++Zao 11 .bad
def TLi:List (Nat×(List AV→(AV→Prop)→Prop)):= [(4000005,cNone)]
theorem TLi_ok:CallsOk Tryd.prog TLi:=Zan cNone_ok Zat
section
variable (y:YieldT SpG) (K:Exit→List AV→List Blk→SpG→Prop)
theorem rLi (d:Nat) (hs:List HalfS) (ks xs:List (List Dv)) (n i:Int):wpc Tryd.prog ⟨TLi, [],wlSp TLi [],y,false⟩ 100 lpLi (tmLi d ks (.own 40 6 xs) n i) [boxB d] (some (d,hs)) (maskK 1 [0,3,8,9,10] K)=(BIf (decide (i<n)) (BIf (true&&decide (0≤i)) (∃(x0:Int),ks[Zbb i]? =some [i64 x0]∧59=59∧∃(d3:Nat) (hs4:List HalfS) (k5:Int) (h6:HalfS) (z7:Bool),some (d,hs)=some (d3,hs4)∧Zak (Dv.s (Zbe (some d)))=Zak (Dv.s (Zbe (some d3)))∧Zak (i64 x0)=Zak (i64 k5)∧InI k5∧(h6=getH k5 hs4∧z7=hasH k5 hs4)∧BIf (true&&decide ((Zae xs+1)*48≤140737488355328)) (K .normal (Zak (Dv.s (Zbe (some d)))::Zam::Zam::AV.own 40 6 (xs++ [[i64 (HalfS.st h6),i64 (HalfS.no h6),i64 (HalfS.ch h6),i64 (HalfS.un h6),bo (HalfS.pr h6),i64 (HalfS.ke h6)]])::bds 4 (Zak (Zbd 1 ks)::Zak (i64 n)::Zak (i64 (Zad .i64 (i+1)))::bds 11 [])) [cell (Dv.s (Zbe (some d)))] (some (d,hs))) False) False) (K (Exit.exit 0) (Zak (Dv.s (Zbe (some d)))::Zam::Zam::AV.own 40 6 xs::bds 4 (Zak (Zbd 1 ks)::Zak (i64 n)::Zak (i64 i)::bds 11 [])) [cell (Dv.s (Zbe (some d)))] (some (d,hs)))):=by kernel_rfl
end
theorem rowsI_at {ks:List Int} {i:Nat} {x:Int} (h:ks[i]? =some x):(rowsI ks)[i]? =some [i64 x]:=by
 simp only [rowsI,List.getElem?_map,h];rfl
theorem rowsI_len (ks:List Int):(rowsI ks).length=ks.length:=by simp [rowsI]
theorem rowsH_app (a:List HalfS) (h:HalfS):rowsH a++ [halfR h]=rowsH (a++ [h]):=by simp [rowsH]
def getsH (ks:List Int) (hs:List HalfS):List HalfS:=ks.map fun k=>getH k hs
theorem wrLi {N:Nat} {w0:World} {lent:List Nat} {Q:Exit→St SpG→Prop} (d:Nat) (hs:List HalfS) (ks:List Int) (hk:∀k∈ks,InI k) (hl:ks.length<1000000):
   ∀(rest:List Int) (k:Nat) (acc:List HalfS),ks.drop k=rest→k≤ks.length→acc.length≤k→(∀i:Int,Q (.exit 0) ⟨tmLi d (rowsI ks) (.own 40 6 (rowsH (acc++getsH rest hs))) ks.length i, [boxB d],some (d,hs)⟩)→
   WR (Zch Tryd.prog none N w0 lent spF) lpLi (rest.length+1) ⟨tmLi d (rowsI ks) (.own 40 6 (rowsH acc)) ks.length k, [boxB d],some (d,hs)⟩ Q
 | [],k,acc,hd,hk1,ha,h=>by
   refine Zcq [0,3,8,9,10] mixed (spX_ok TLi_ok MCTok.nil lent N w0) (k:=100) ?_
   refine Eq.mpr (rLi _ _ d hs _ _ _ _) ?_
   have:=drop_nil hd
   have h:=h k
   rw [getsH,List.map_nil,List.append_nil] at h
   exact BIf.f (by simp;omega) h
 | x::rest,k,acc,hd,hk1,ha,h=>by
   refine Zcq [0,3,8,9,10] mixed (spX_ok TLi_ok MCTok.nil lent N w0) (k:=100) ?_
   refine Eq.mpr (rLi _ _ d hs _ _ _ _) ?_
   obtain ⟨hk',hr,hd'⟩:=drop_cons hd
   refine Zca (by simp;omega) (Zca (by simp) ⟨x,by rw [Zcb];exact rowsI_at hr,rfl,d,hs,x,getH x hs,_,rfl,rfl,rfl,hk x (List.mem_of_getElem? hr),⟨rfl,rfl⟩,Zca (by simp [rowsH];omega) ?_⟩)
   have e:rowsH acc++ [[i64 (getH x hs).st,i64 (getH x hs).no,i64 (getH x hs).ch,i64 (getH x hs).un,bo (getH x hs).pr,i64 (getH x hs).ke]]=rowsH (acc++ [getH x hs]):=rowsH_app _ _
   rw [e,wrap_succ hk' (by omega)]
   refine wrLi d hs ks hk hl rest (k+1) (acc++ [getH x hs]) hd' hk' (by simp;omega) fun i=> ?_
   have h:=h i
   rw [getsH,List.map_cons] at h
   rw [List.append_assoc];exact h
def wlLi:WLT SpG:=fun c tm hp g K=>∃(d:Nat) (hs out:List HalfS) (ks:List Int),c= .loop lpLi∧maskTm [0,3,8,9,10] 0 tm=tmLi d (rowsI ks) (.d (.s (.slice none 0 0))) (rowsI ks).length 0∧hp= [boxB d]∧g=some (d,hs)∧
 ((∀k∈ks,InI k)∧ks.length<1000000∧out=getsH ks hs)∧∀i:Int,K (.exit 0) (tmLi d (rowsI ks) (.own 40 6 (rowsH out)) ks.length i) [boxB d] (some (d,hs))
theorem wlLi_ok (N:Nat) (w0:World) (lent:List Nat) (c:Code) (tm:List AV) (hp:List Blk) (b:SpG) (K:Exit→List AV→List Blk→SpG→Prop) (h:wlLi c tm hp b K):W (Zch Tryd.prog none N w0 lent spF) c ⟨tm,hp,b⟩ (fun e s=>K e s.tm s.hp s.b):=by
 obtain ⟨d,hs,_,ks,rfl,htm,rfl,rfl,⟨h1,h2,rfl⟩,hK⟩:=h
 rw [rowsI_len] at htm
 refine W.cast (htm▸maskTm_le _ tm 0) (Zcy _) ?_
 refine W.cast (tm':=tmLi d (rowsI ks) (.own 40 6 (rowsH [])) ks.length 0) (LeL.at [_,_,_] _ (LeA.nilOwn rfl)) (Zcy _) ?_
 exact W.rounds (wrLi (Q:=fun e s=>K e s.tm s.hp s.b) d hs ks h1 h2 ks 0 [] rfl (Nat.zero_le _) (Nat.zero_le _) hK)
def wlLf:WLT SpG:=wlM Tryd.prog ⟨TLf,ULf,fun _ _ _ _ _=>False,fun _ _ _=>False,false⟩ spS wlLi
theorem wlLf_ok (hsk:SortedKeys Tryd.prog 50 60 3) (lent:List Nat) (N:Nat) (w0:World):∀c tm hp b K,wlLf c tm hp b K→W (Zch Tryd.prog none N w0 lent spF) c ⟨tm,hp,b⟩ (fun e s=>K e s.tm s.hp s.b):=
 wlM_ok (Ev:=Zch Tryd.prog none N w0 lent spF) mixed (CX.Ok.ofWl (Ev:=Zch Tryd.prog none N w0 lent spF) TLf_ok ULf_ok fun _ _ _ _ _ h=>h.elim) (spS_ok hsk N w0 lent) (wlLi_ok N w0 lent)
section
variable (R:AV→SpG→Prop)
theorem list_nf (d:Nat) (hs:List HalfS):wpFn Tryd.prog ⟨TLf,ULf,wlLf,fun _ _ _=>False,false⟩ 100 Tryd.f32 [mapA d] (some (d,hs)) R=(∃(d0:Nat), [Zak (Dv.s (Zbe (some d)))]= [Zak (Dv.s (Zbe (some d0)))]∧∃(d1:Nat) (hs2:List HalfS) (ks3:List Int),some (d,hs)=some (d1,hs2)∧some (cell (Dv.s (Zbe (some d0))))=some (cell (Dv.s (Zbe (some d1))))∧(Zae hs2<1000000∧ks3=List.mergeSort (List.map (fun (p4:Lit×AV)=>Go.intOf (Prod.fst p4)) (entH hs2)) leI)∧∃(d5:Nat) (hs6:List HalfS) (out7:List HalfS) (ks8:List Int),Code.loop lpLi=Code.loop lpLi∧(Zak (Dv.s (Zbe (some d)))::Zam::Zam::Zak (Dv.s (.slice none 0 0))::bds 4 (Zak (Zbd 1 (List.map (fun (k9:Int)=> [i64 k9]) ks3))::Zak (i64 ((Zae (List.map (fun (k10:Int)=> [i64 k10]) ks3):Nat):Int))::Zak (i64 0)::bds 11 []))=(Zak (Dv.s (Zbe (some d5)))::Zam::Zam::Zak (Dv.s (.slice none 0 0))::bds 4 (Zak (Zbd 1 (List.map (fun (k11:Int)=> [i64 k11]) ks8))::Zak (i64 ((Zae (List.map (fun (k12:Int)=> [i64 k12]) ks8):Nat):Int))::Zak (i64 0)::bds 11 []))∧ [cell (Dv.s (Zbe (some d0)))]= [cell (Dv.s (Zbe (some d5)))]∧some (d,hs)=some (d5,hs6)∧((∀(k:Int),k∈ks8→InI k)∧Zae ks8<1000000∧out7=getsH ks8 hs6)∧∀(i:Int),R (.d (Zbd 6 (rowsH out7))) (some (d5,hs6))):=by kernel_rfl
end
end Go.Proofs.YtlnenbbmhidjeaaDoor.Am
namespace Go.Proofs.YtlnenbbmhidjeaaDoor.Am
open Go Go.RowKit Go.Proofs Go.Shelf Go.Sort Go.Maps
open AV renaming agg → Zbv, bad → Zam, d → Zak, fn → Zcz, ptr → Zci
open BIf renaming of → Zba, t → Zca
open Bool renaming and_eq_true → Zag, false_eq_true → Zcc
open CallsOk renaming cons → Zan, nil → Zat
open Dv renaming sl → Zbd
open Env renaming mapped → Zch
open Int renaming tmod → Zdi, toNat → Zbb, toNat_natCast → Zcb
open Go.IntKind renaming i64 → Zbo, u64 → Zcf, wrap → Zad
open LeH renaming refl → Zcy
open List renaming length → Zae, range → Zay, replicate → Zao
open PCall renaming ofFn → Zco
open SCallsOk renaming cons → Zdj, nil → Zap
open Go.Value renaming map → Zbe
open WR renaming ofMask → Zcq
variable {β:Type} (R:AV→β→Prop) (K:Exit→List AV→List Blk→β→Prop)
open AV (bad)
set_option linter.unusedVariables false
set_option maxRecDepth 20000
set_option maxHeartbeats 1000000
theorem sortsA (m:Nat):AnyZI.SortsIn Tryd.prog Tryd.sortedA_ren Fence.wide m:=
 ⟨fun blk off cap ss W hH hblk hsz=>callsIn_wide.2 (AnyM.slices_Sort_int Tryd.sortA blk off cap ss W hH hblk hsz),
  fun p cap W=>callsIn_wide.2 (AnyM.slices_Sort_int_none Tryd.sortA p cap W)⟩
theorem sk50:SortedKeys Tryd.prog 50 60 3:=by
 refine ⟨enters_of Tryd.func50 (by kernel_rfl) rfl,fun Bm d n L w hBm hm hown hL=> ?_⟩
 have hseq:SeqGives Fence.wide 2 Tryd.prog 60 #[.pointer (some ⟨Bm,0,none⟩)] encZ (fun ss=>ss.Perm (intKeys (DataW.map L))) (Maps.size (DataW.map L)) w:=
   AnyZI.keys_gives (ρ:=Tryd.keysA_ren) {Tryd.keysA with} Fence.wide _ trivial rfl (by omega) Bm d n (DataW.map L) w hBm hm hown
 have cS:=AnyZI.sorted_in Tryd.sortedA Fence.wide 5 trivial trivial trivial trivial rfl (by omega) (sortsA _) (enters_of Tryd.func59 (by kernel_rfl) rfl) 60 #[.pointer (some ⟨Bm,0,none⟩)] trivial (enters_of Tryd.func60 (by kernel_rfl) rfl) _ _ (by rw [Maps.size_eq];unfold maxLen;omega) (by rw [Maps.size_eq];omega) _ hseq
 change CallsIn _ _ Tryd.prog 50 _ _ _ at cS
 refine callsIn_wide.2 (Calls.mono (callsIn_wide.1 cS) ?_)
 rintro e w' ⟨v,ss,rfl,hS,hrow,hnil,hb⟩
 exact ⟨v,ss,rfl,hS,hrow,hb⟩
def listS (hs:List HalfS):List HalfS:=getsH (sortK (entH hs)) hs
theorem sortK_len (es:MC):(sortK es).length=es.length:=by simp [sortK]
theorem mem_sortK {hs:List HalfS} {k:Int} (h:k∈sortK (entH hs)):∃x∈hs,x.st=k:=by
 simp only [sortK,List.mem_mergeSort,entH,List.map_map,List.mem_map] at h
 obtain ⟨x,h1,h2⟩:=h
 exact ⟨x,h1,h2⟩
theorem mcList (d:Nat) (hs:List HalfS) (hk:∀h∈hs,InI h.st) (hl:hs.length<1000000):MCall Tryd.prog spF 32 [mapA d] (some (d,hs)) fun x g=>x= .d (.sl 6 (rowsH (listS hs)))∧g=some (d,hs):=by
 refine MCall.ofFn (n:=100) (u:=false) wlLf mixed TLf_ok ULf_ok (fun N w0=>wlLf_ok sk50 _ N w0) Tryd.func32 (by rfl) (by rfl) ?_
 rw [list_nf]
 refine ⟨d,rfl,d,hs,sortK (entH hs),rfl,rfl,⟨hl,rfl⟩,d,hs,_,sortK (entH hs),rfl,rfl,rfl,rfl,⟨fun k h=> ?_,by rw [sortK_len];simpa [entH] using hl,rfl⟩,fun i=>⟨rfl,rfl⟩⟩
 obtain ⟨x,h1,rfl⟩:=mem_sortK h
 exact hk x h1
def cList (args:List AV) (g:SpG) (K:AV→SpG→Prop):Prop:=∃(d:Nat) (hs out:List HalfS),args= [mapA d]∧g=some (d,hs)∧((∀h∈hs,InI h.st)∧hs.length<1000000∧out=listS hs)∧K (.d (.sl 6 (rowsH out))) (some (d,hs))
theorem cList_ok:∀args g K,cList args g K→∃R,MCall Tryd.prog spF 32 args g R∧∀x g',R x g'→K x g':=by
 rintro _ _ K ⟨d,hs,_,rfl,rfl,⟨h1,h2,rfl⟩,hk⟩
 exact ⟨_,mcList d hs h1 h2,by rintro x g' ⟨rfl,rfl⟩;exact hk⟩
end Go.Proofs.YtlnenbbmhidjeaaDoor.Am
namespace Go.Proofs.YtlnenbbmhidjeaaDoor.Am
open Go Go.RowKit Go.Proofs
open AV renaming agg → Zbv, bad → Zam, d → Zak, fn → Zcz, ptr → Zci
open BIf renaming of → Zba, t → Zca
open Bool renaming and_eq_true → Zag, false_eq_true → Zcc
open CallsOk renaming cons → Zan, nil → Zat
open Dv renaming sl → Zbd
open Env renaming mapped → Zch
open Int renaming tmod → Zdi, toNat → Zbb, toNat_natCast → Zcb
open Go.IntKind renaming i64 → Zbo, u64 → Zcf, wrap → Zad
open LeH renaming refl → Zcy
open List renaming length → Zae, range → Zay, replicate → Zao
open PCall renaming ofFn → Zco
open SCallsOk renaming cons → Zdj, nil → Zap
open Go.Value renaming map → Zbe
open WR renaming ofMask → Zcq
variable {β:Type} (wl:WLT β) (y:YieldT β) (b:β) (R:AV→β→Prop) (RS:AV→List Blk→β→Prop) (K:Exit→List AV→List Blk→β→Prop) (Q:β→Prop)
open AV (bad)
set_option linter.unusedVariables false
set_option maxRecDepth 20000
set_option maxHeartbeats 1000000
def nodeJ (n:Int):Bool:=decide (n≥0)&&decide (n<60)
def ownK (n:Int):Int:=if nodeJ n=true then Zad Zbo (1000000+n) else 0
def ownE (n:Int):Int:=if nodeJ n=true then 0 else 1
theorem nodeJ_nf (n:Int):wpFn Tryd.prog ⟨[], [],wl,y,false⟩ 100 Tryd.f45 [.d (i64 n)] b R=(BIf (decide (n≥(0:Int))) (R (Zak (bo (decide (n<(60:Int))))) b) (R (Zak (bo false)) b)):=by kernel_rfl
theorem number_nf (n:Int):wpFn Tryd.prog ⟨[], [],wl,y,false⟩ 100 Tryd.f103 [.d (i64 n)] b R=(R (Zak (i64 (Zad Zbo ((1000000:Int)+n)))) b):=by kernel_rfl
theorem pcNodeJ (n:Int):PCall Tryd.prog 45 [.d (i64 n)] (.d (bo (nodeJ n))):=by
 refine Zco (n:=100) (u:=false) mixed Zat Zap Tryd.func45 (by rfl) (by rfl) fun Ev bb=> ?_
 rw [nodeJ_nf]
 exact Zba (fun h1=>by rw [nodeJ,h1];rfl) fun h1=>by rw [nodeJ,h1];rfl
def cNodeJ (args:List AV) (K:AV→Prop):Prop:=∃(n:Int) (z:Bool),args= [.d (i64 n)]∧z=nodeJ n∧K (.d (bo z))
theorem cNodeJ_ok:∀args K,cNodeJ args K→∃x,PCall Tryd.prog 45 args x∧K x:=by
 rintro _ K ⟨n,_,rfl,rfl,hk⟩;exact ⟨_,pcNodeJ n,hk⟩
theorem pcNumber (n:Int):PCall Tryd.prog 103 [.d (i64 n)] (.d (i64 (Zad Zbo (1000000+n)))):=by
 refine Zco (n:=100) (u:=false) mixed Zat Zap Tryd.func103 (by rfl) (by rfl) fun Ev bb=> ?_
 rw [number_nf]
def cNumber (args:List AV) (K:AV→Prop):Prop:=∃(n z:Int),args= [.d (i64 n)]∧z=Zad Zbo (1000000+n)∧K (.d (i64 z))
theorem cNumber_ok:∀args K,cNumber args K→∃x,PCall Tryd.prog 103 args x∧K x:=by
 rintro _ K ⟨n,_,rfl,rfl,hk⟩;exact ⟨_,pcNumber n,hk⟩
def ownI (n:Int):AV:= .d (.s (.iface 91 (.int .i64 n)))
def TCk:List (Nat×(List AV→(AV→Prop)→Prop)):= [(4000003,cNone)]
theorem TCk_ok:CallsOk Tryd.prog TCk:=Zan cNone_ok Zat
def ICk:List (Nat×(List AV→(AV→Prop)→Prop)):= [(103,cNumber)]
theorem ICk_ok:CallsOk Tryd.prog ICk:=Zan cNumber_ok Zat
def wlCk {β:Type} (y:YieldT β):WLT β:=wlI Tryd.prog TCk ICk y fun _ _ _ _ _=>False
theorem checked_nf (n:Int) (z:Bool):wpFn Tryd.prog ⟨TCk, [],wlCk y,y,false⟩ 100 Tryd.f56 [ownI n, .d (bo z)] b R=(BIf (!z) (R (.tup [Zak (i64 0),Zak (i64 1)]) b) (true=true∧∃(n0:Int) (z1:Int), [Zak (i64 n)]= [Zak (i64 n0)]∧z1=Zad .i64 ((1000000:Int)+n0)∧R (.tup [Zak (i64 z1),Zak (i64 0)]) b)):=by kernel_rfl
theorem pcChecked (n:Int) (z:Bool):PCall Tryd.prog 56 [ownI n, .d (bo z)] (.tup [.d (i64 (if z=true then Zad Zbo (1000000+n) else 0)), .d (i64 (if z=true then 0 else 1))]):=by
 refine PCall.ofFnE (n:=100) (u:=false) (fun Ev=>wlCk Ev.Y) mixed TCk_ok Zap (fun Ev=>wlI_ok mixed TCk_ok ICk_ok fun _ _ _ _ _ h=>h.elim) Tryd.func56 (by rfl) (by rfl) fun Ev bb=> ?_
 rw [checked_nf]
 cases z with
 |true=>exact BIf.f rfl ⟨rfl,n,_,rfl,rfl,rfl⟩
 |false=>exact Zca rfl rfl
def cChecked (args:List AV) (K:AV→Prop):Prop:=∃(n k e:Int) (z:Bool),args= [ownI n, .d (bo z)]∧(k=(if z=true then Zad Zbo (1000000+n) else 0)∧e=(if z=true then 0 else 1))∧K (.tup [.d (i64 k), .d (i64 e)])
theorem cChecked_ok:∀args K,cChecked args K→∃x,PCall Tryd.prog 56 args x∧K x:=by
 rintro _ K ⟨n,_,_,z,rfl,⟨rfl,rfl⟩,hk⟩;exact ⟨_,pcChecked n z,hk⟩
def TOw:List (Nat×(List AV→(AV→Prop)→Prop)):= [(56,cChecked)]
theorem TOw_ok:CallsOk Tryd.prog TOw:=Zan cChecked_ok Zat
theorem own_nf (n:Int):wpFn Tryd.prog ⟨TOw, [],wl,y,false⟩ 100 Tryd.f47 [.d (i64 n)] b R=(BIf (decide (n≥(0:Int))) (∃(n0:Int) (k1:Int) (e2:Int) (z3:Bool), [Zak (Dv.s (Value.iface 91 (Value.int Zbo n))),Zak (bo (decide (n<(60:Int))))]= [Zak (Dv.s (Value.iface 91 (Value.int Zbo n0))),Zak (bo z3)]∧((k1=if z3=true then Zad .i64 ((1000000:Int)+n0) else (0:Int))∧e2=if z3=true then (0:Int) else (1:Int))∧R (.tup [Zak (i64 k1),Zak (i64 e2)]) b) (∃(n4:Int) (k5:Int) (e6:Int) (z7:Bool), [Zak (Dv.s (Value.iface 91 (Value.int Zbo n))),Zak (bo false)]= [Zak (Dv.s (Value.iface 91 (Value.int Zbo n4))),Zak (bo z7)]∧((k5=if z7=true then Zad .i64 ((1000000:Int)+n4) else (0:Int))∧e6=if z7=true then (0:Int) else (1:Int))∧R (.tup [Zak (i64 k5),Zak (i64 e6)]) b)):=by kernel_rfl
theorem pcOwn (n:Int):PCall Tryd.prog 47 [.d (i64 n)] (.tup [.d (i64 (ownK n)), .d (i64 (ownE n))]):=by
 refine Zco (n:=100) (u:=false) mixed TOw_ok Zap Tryd.func47 (by rfl) (by rfl) fun Ev bb=> ?_
 rw [own_nf]
 refine Zba (fun h1=>⟨n,_,_,_,rfl,⟨rfl,rfl⟩, ?_⟩) fun h1=>⟨n,_,_,_,rfl,⟨rfl,rfl⟩, ?_⟩
 · rw [ownK,ownE,nodeJ,h1];rfl
 · rw [ownK,ownE,nodeJ,h1];rfl
def cOwn (args:List AV) (K:AV→Prop):Prop:=∃(n k e:Int),args= [.d (i64 n)]∧(k=ownK n∧e=ownE n)∧K (.tup [.d (i64 k), .d (i64 e)])
theorem cOwn_ok:∀args K,cOwn args K→∃x,PCall Tryd.prog 47 args x∧K x:=by
 rintro _ K ⟨n,_,_,rfl,⟨rfl,rfl⟩,hk⟩;exact ⟨_,pcOwn n,hk⟩
def TFo:List (Nat×(List AV→(AV→Prop)→Prop)):= [(45,cNodeJ)]
theorem TFo_ok:CallsOk Tryd.prog TFo:=Zan cNodeJ_ok Zat
theorem formed_nf (w:WordS):wpFn Tryd.prog ⟨TFo, [],wl,y,false⟩ 100 Tryd.f48 [wordA w] b R=(∃(n0:Int) (z1:Bool), [Zak (i64 (WordS.st w))]= [Zak (i64 n0)]∧z1=nodeJ n0∧BIf z1 (∃(n2:Int) (z3:Bool), [Zak (i64 (WordS.sp w))]= [Zak (i64 n2)]∧z3=nodeJ n2∧BIf z3 (BIf (WordS.st w !=WordS.sp w) (∃(z4:Int),(z4=if WordS.ch w<WordS.no w then WordS.ch w else WordS.no w)∧BIf (decide (z4≥(0:Int))) (BIf (decide ((if WordS.ch w>WordS.no w then WordS.ch w else WordS.no w)≤(1000000000:Int))) (BIf (decide (WordS.ki w≥(1:Int))) (R (.d (bo (decide (WordS.ki w≤(4:Int))))) b) (R (.d (bo false)) b)) (R (.d (bo false)) b)) (R (.d (bo false)) b)) (R (.d (bo false)) b)) (R (.d (bo false)) b)) (R (.d (bo false)) b)):=by kernel_rfl
def formedW (w:WordS):Bool:=nodeJ w.st&&(nodeJ w.sp&&((w.st !=w.sp)&&(decide ((if w.ch<w.no then w.ch else w.no)≥0)&&(decide ((if w.ch>w.no then w.ch else w.no)≤1000000000)&&(decide (w.ki≥1)&&decide (w.ki≤4))))))
theorem pcFormed (w:WordS):PCall Tryd.prog 48 [wordA w] (.d (bo (formedW w))):=by
 refine Zco (n:=100) (u:=false) mixed TFo_ok Zap Tryd.func48 (by rfl) (by rfl) fun Ev bb=> ?_
 rw [formed_nf]
 refine ⟨_,_,rfl,rfl,Zba (fun h1=>⟨_,_,rfl,rfl,Zba (fun h2=>Zba (fun h3=>⟨_,rfl,Zba (fun h4=>Zba (fun h5=>Zba (fun h6=> ?_) fun h6=> ?_) fun h5=> ?_) fun h4=> ?_⟩) fun h3=> ?_) fun h2=> ?_⟩) fun h1=> ?_⟩
 all_goals simp only [formedW, *,Bool.true_and,Bool.false_and]
def cFormed (args:List AV) (K:AV→Prop):Prop:=∃(w:WordS) (z:Bool),args= [wordA w]∧z=formedW w∧K (.d (bo z))
theorem cFormed_ok:∀args K,cFormed args K→∃x,PCall Tryd.prog 48 args x∧K x:=by
 rintro _ K ⟨w,_,rfl,rfl,hk⟩;exact ⟨_,pcFormed w,hk⟩
def TJu:List (Nat×(List AV→(AV→Prop)→Prop)):= [(48,cFormed),(47,cOwn)]
theorem TJu_ok:CallsOk Tryd.prog TJu:=Zan cFormed_ok (Zan cOwn_ok Zat)
abbrev Qz10:List AV:= [Zak (i64 0),Zak (i64 0),Zak (i64 0),Zak (i64 0),Zak (i64 0),Zak (i64 0),Zak (i64 0),Zak (i64 0)]
theorem judge_nf (w:WordS) (f n:Int):wpFn Tryd.prog ⟨TJu, [],wl,y,false⟩ 100 Tryd.f26 [wordA w, .agg [.d (i64 f), .d (i64 n)]] b R=(∃(w0:WordS) (z1:Bool), [Zbv (Qz1 w)]= [Zbv (Qz1 w0)]∧z1=formedW w0∧BIf (!z1) (R (.tup [Zbv Qz10,Zak (i64 1)]) b) (BIf (decide (f<(0:Int))) (R (.tup [Zbv Qz10,Zak (i64 1)]) b) (BIf (decide (f≥n)) (R (.tup [Zbv Qz10,Zak (i64 1)]) b) (BIf (decide (n>(1000000000:Int))) (R (.tup [Zbv Qz10,Zak (i64 1)]) b) (∃(n2:Int) (k3:Int) (e4:Int), [Zak (i64 (WordS.st w))]= [Zak (i64 n2)]∧(k3=ownK n2∧e4=ownE n2)∧BIf (WordS.ki w !=(3:Int)) (R (.tup [Zbv Qz10,Zak (i64 9)]) b) (BIf (e4 !=(0:Int)) (R (.tup [Zbv Qz10,Zak (i64 13)]) b) (BIf (WordS.ke w !=k3) (R (.tup [Zbv Qz10,Zak (i64 13)]) b) (R (.tup [Zbv [Zak (i64 4),Zak (i64 (WordS.st w)),Zak (i64 (WordS.sp w)),Zak (i64 (WordS.no w)),Zak (i64 0),Zak (i64 (WordS.ke w)),Zak (i64 f),Zak (i64 n)],Zak (i64 0)]) b)))))))):=by kernel_rfl
def zeroW:WordS:=⟨0,0,0,0,0,0,0,0⟩
def judgeS (w:WordS) (f n:Int):WordS×Int:=
 if (!formedW w)=true then (zeroW,1) else if f<0 then (zeroW,1) else if f≥n then (zeroW,1) else if n>1000000000 then (zeroW,1)
 else if (w.ki !=3)=true then (zeroW,9) else if (ownE w.st !=0)=true then (zeroW,13) else if (w.ke !=ownK w.st)=true then (zeroW,13) else (⟨4,w.st,w.sp,w.no,0,w.ke,f,n⟩,0)
theorem pcJudge (w:WordS) (f n:Int):PCall Tryd.prog 26 [wordA w, .agg [.d (i64 f), .d (i64 n)]] (.tup [wordA (judgeS w f n).1, .d (i64 (judgeS w f n).2)]):=by
 refine Zco (n:=100) (u:=false) mixed TJu_ok Zap Tryd.func26 (by rfl) (by rfl) fun Ev bb=> ?_
 rw [judge_nf]
 refine ⟨w,_,rfl,rfl,Zba (fun h1=> ?_) fun h1=>Zba (fun h2=> ?_) fun h2=>Zba (fun h3=> ?_) fun h3=>Zba (fun h4=> ?_) fun h4=>⟨w.st,_,_,rfl,⟨rfl,rfl⟩,Zba (fun h5=> ?_) fun h5=>Zba (fun h6=> ?_) fun h6=>Zba (fun h7=> ?_) fun h7=> ?_⟩⟩
 · rw [judgeS,if_pos h1];rfl
 · rw [judgeS,if_neg (by rw [h1];decide),if_pos (of_decide_eq_true h2)];rfl
 · rw [judgeS,if_neg (by rw [h1];decide),if_neg (of_decide_eq_false h2),if_pos (of_decide_eq_true h3)];rfl
 · rw [judgeS,if_neg (by rw [h1];decide),if_neg (of_decide_eq_false h2),if_neg (of_decide_eq_false h3),if_pos (of_decide_eq_true h4)];rfl
 all_goals rw [judgeS,if_neg (by rw [h1];decide),if_neg (of_decide_eq_false h2),if_neg (of_decide_eq_false h3),if_neg (of_decide_eq_false h4)]
 · rw [if_pos h5];rfl
 · rw [if_neg (by rw [h5];decide),if_pos h6];rfl
 · rw [if_neg (by rw [h5];decide),if_neg (by rw [h6];decide),if_pos h7];rfl
 · rw [if_neg (by rw [h5];decide),if_neg (by rw [h6];decide),if_neg (by rw [h7];decide)];rfl
def cJudge (args:List AV) (K:AV→Prop):Prop:=∃(w q:WordS) (f n e:Int),args= [wordA w, .agg [.d (i64 f), .d (i64 n)]]∧(q=(judgeS w f n).1∧e=(judgeS w f n).2)∧K (.tup [wordA q, .d (i64 e)])
theorem cJudge_ok:∀args K,cJudge args K→∃x,PCall Tryd.prog 26 args x∧K x:=by
 rintro _ K ⟨w,_,f,n,_,rfl,⟨rfl,rfl⟩,hk⟩;exact ⟨_,pcJudge w f n,hk⟩
def TIw:List (Nat×(List AV→(AV→Prop)→Prop)):= [(26,cJudge)]
theorem TIw_ok:CallsOk Tryd.prog TIw:=Zan cJudge_ok Zat
theorem isWord_nf (w:WordS):wpFn Tryd.prog ⟨TIw, [],wl,y,false⟩ 100 Tryd.f28 [wordA w] b R=(∃(w0:WordS) (q1:WordS) (f2:Int) (n3:Int) (e4:Int), [Zbv (Qz1 w),Zbv [Zak (i64 0),Zak (i64 1)]]= [Zbv (Qz1 w0),Zbv [Zak (i64 f2),Zak (i64 n3)]]∧(q1=Prod.fst (judgeS w0 f2 n3)∧e4=Prod.snd (judgeS w0 f2 n3))∧R (.d (bo (e4 !=(1:Int)))) b):=by kernel_rfl
def isWordS (w:WordS):Bool:=(judgeS w 0 1).2 !=1
theorem pcIsWord (w:WordS):PCall Tryd.prog 28 [wordA w] (.d (bo (isWordS w))):=by
 refine Zco (n:=100) (u:=false) mixed TIw_ok Zap Tryd.func28 (by rfl) (by rfl) fun Ev bb=> ?_
 rw [isWord_nf]
 exact ⟨w,_,0,1,_,rfl,⟨rfl,rfl⟩,rfl⟩
def cIsWord (args:List AV) (K:AV→Prop):Prop:=∃(w:WordS) (z:Bool),args= [wordA w]∧z=isWordS w∧K (.d (bo z))
theorem cIsWord_ok:∀args K,cIsWord args K→∃x,PCall Tryd.prog 28 args x∧K x:=by
 rintro _ K ⟨w,_,rfl,rfl,hk⟩;exact ⟨_,pcIsWord w,hk⟩
def CH3:MCT SpG:= [(30,cAsked),(31,cProved),(32,cList)]
theorem CH3_ok:MCTok CH3:=by
 intro k f hf
 unfold CH3 at hf
 rw [List.lookup_cons] at hf
 split at hf
 · rename_i h;cases hf;rw [show k=30 by simpa using h];exact cAsked_ok
 · rw [List.lookup_cons] at hf
   split at hf
   · rename_i h;cases hf;rw [show k=31 by simpa using h];exact cProved_ok
   · rw [List.lookup_cons] at hf
     split at hf
     · rename_i h;cases hf;rw [show k=32 by simpa using h];exact cList_ok
     · cases hf
theorem TH2_ok:CallsOk Tryd.prog TH2:=Zan cNone_ok (Zan cNone_ok Zat)
section
variable (y:YieldT SpG) (K:Exit→List AV→List Blk→SpG→Prop)
abbrev Qz24 (v0:Nat) (v1:Int) (v2:WordS):List AV:= [Zbv [Zak (Dv.s (Zbe (some v0))),Zak (i64 v1)],Zbv (Qz1 v2)]
theorem h2r0 (d:Nat) (hs:List HalfS) (w:WordS) (fr:Int):wpc Tryd.prog ⟨TH2, [],wlSp TH2 CH3,y,false⟩ 100 lpH2 (tmH2 0) [wordB w,deskB d fr] (some (d,hs)) (maskK 2 [6,8,9,10,58,59] K)=(BIf ((1:Int) !=WordS.ki w) (K .normal (bds 6 (Zci 0 0::Zam::Zak (Dv.s (.slice none 0 0))::Zak (i64 0)::Zci 1 0::bds 47 (Zbv [Zak (i64 1),Zcz (Fn.func 30) [] [],Zak (i64 3),Zcz (Fn.func 31) [] []]::Zak (i64 1)::bds 19 []))) (Qz6 w d fr) (some (d,hs))) (true=true∧∃(d0:Nat) (hs1:List HalfS) (hs2:List HalfS) (e3:Int) (fr4:Int) (w5:WordS),(Qz24 d fr w)=(Qz24 d0 fr4 w5)∧some (d,hs)=some (d0,hs1)∧(InI (WordS.st w5)∧Zae hs1<1000000∧e3=Prod.fst (askedS hs1 fr4 w5)∧hs2=Prod.snd (askedS hs1 fr4 w5))∧BIf (e3 !=(0:Int)) (K .ret (bds 6 (Zci 0 0::Zam::Zak (Dv.s (.slice none 0 0))::Zak (i64 e3)::Zci 1 0::bds 47 (Zbv [Zak (i64 1),Zcz (Fn.func 30) [] [],Zak (i64 3),Zcz (Fn.func 31) [] []]::Zak (i64 0)::bds 19 []))) (Qz6 w d fr) (some (d0,hs2))) (true=true∧∃(d6:Nat) (hs7:List HalfS) (out8:List HalfS), [Zak (Dv.s (Zbe (some d)))]= [Zak (Dv.s (Zbe (some d6)))]∧some (d0,hs2)=some (d6,hs7)∧((∀(h:HalfS),h∈hs7→InI (HalfS.st h))∧Zae hs7<1000000∧out8=listS hs7)∧K .ret (bds 6 (Zci 0 0::Zam::Zak (Zbd 6 (rowsH out8))::Zak (i64 0)::Zci 1 0::bds 47 (Zbv [Zak (i64 1),Zcz (Fn.func 30) [] [],Zak (i64 3),Zcz (Fn.func 31) [] []]::Zak (i64 0)::bds 19 []))) (Qz6 w d fr) (some (d6,hs7))))):=by kernel_rfl
theorem h2r1 (d:Nat) (hs:List HalfS) (w:WordS) (fr:Int):wpc Tryd.prog ⟨TH2, [],wlSp TH2 CH3,y,false⟩ 100 lpH2 (tmH2 1) [wordB w,deskB d fr] (some (d,hs)) (maskK 2 [6,8,9,10,58,59] K)=(BIf ((3:Int) !=WordS.ki w) (K .normal (bds 6 (Zci 0 0::Zam::Zak (Dv.s (.slice none 0 0))::Zak (i64 0)::Zci 1 0::bds 47 (Zbv [Zak (i64 1),Zcz (Fn.func 30) [] [],Zak (i64 3),Zcz (Fn.func 31) [] []]::Zak (i64 2)::bds 19 []))) (Qz6 w d fr) (some (d,hs))) (true=true∧∃(d0:Nat) (hs1:List HalfS) (hs2:List HalfS) (e3:Int) (fr4:Int) (w5:WordS),(Qz24 d fr w)=(Qz24 d0 fr4 w5)∧some (d,hs)=some (d0,hs1)∧(InI (WordS.st w5)∧Zae hs1<1000000∧e3=Prod.fst (provedS hs1 w5)∧hs2=Prod.snd (provedS hs1 w5))∧BIf (e3 !=(0:Int)) (K .ret (bds 6 (Zci 0 0::Zam::Zak (Dv.s (.slice none 0 0))::Zak (i64 e3)::Zci 1 0::bds 47 (Zbv [Zak (i64 1),Zcz (Fn.func 30) [] [],Zak (i64 3),Zcz (Fn.func 31) [] []]::Zak (i64 1)::bds 19 []))) (Qz6 w d fr) (some (d0,hs2))) (true=true∧∃(d6:Nat) (hs7:List HalfS) (out8:List HalfS), [Zak (Dv.s (Zbe (some d)))]= [Zak (Dv.s (Zbe (some d6)))]∧some (d0,hs2)=some (d6,hs7)∧((∀(h:HalfS),h∈hs7→InI (HalfS.st h))∧Zae hs7<1000000∧out8=listS hs7)∧K .ret (bds 6 (Zci 0 0::Zam::Zak (Zbd 6 (rowsH out8))::Zak (i64 0)::Zci 1 0::bds 47 (Zbv [Zak (i64 1),Zcz (Fn.func 30) [] [],Zak (i64 3),Zcz (Fn.func 31) [] []]::Zak (i64 1)::bds 19 []))) (Qz6 w d fr) (some (d6,hs7))))):=by kernel_rfl
theorem h2r2 (d:Nat) (hs:List HalfS) (w:WordS) (fr:Int):wpc Tryd.prog ⟨TH2, [],wlSp TH2 CH3,y,false⟩ 100 lpH2 (tmH2 2) [wordB w,deskB d fr] (some (d,hs)) (maskK 2 [6,8,9,10,58,59] K)=(K (Exit.exit 2) (bds 6 (Zci 0 0::Zam::Zak (Dv.s (.slice none 0 0))::Zak (i64 0)::Zci 1 0::bds 47 (Zbv [Zak (i64 1),Zcz (Fn.func 30) [] [],Zak (i64 3),Zcz (Fn.func 31) [] []]::Zak (i64 2)::bds 19 []))) (Qz6 w d fr) (some (d,hs))):=by kernel_rfl
end
theorem mem_insH {x h:HalfS} {l:List HalfS}:x∈insH h l↔x=h∨x∈l:=by
 induction l with
 |nil=>simp [insH]
 | cons y r ih=>
   simp only [insH]
   split
   · simp
   · simp only [List.mem_cons,ih]
     constructor
     · rintro (h|h|h)<;>simp [h]
     · rintro (h|h|h)<;>simp [h]
theorem mem_putH {x h:HalfS} {l:List HalfS}:x∈putH h l↔x=h∨(x∈l∧x.st≠h.st):=by
 simp [putH,mem_insH]
theorem askedS_mem {hs:List HalfS} {fr:Int} {w:WordS} {x:HalfS} (h:x∈(askedS hs fr w).2):x∈hs∨x.st=w.st:=by
 unfold askedS at h
 split at h
 · split at h
   · exact .inl h
   · split at h
     · exact .inl h
     · rcases mem_putH.1 h with rfl|⟨h,_⟩
       · exact .inr rfl
       · exact .inl h
 · split at h
   · exact .inl h
   · rcases mem_putH.1 h with rfl|⟨h,_⟩
     · exact .inr rfl
     · exact .inl h
theorem provedS_mem {hs:List HalfS} {w:WordS} {x:HalfS} (h:x∈(provedS hs w).2):x∈hs∨x.st=w.st:=by
 unfold provedS at h
 simp only at h
 split at h
 · rename_i h1
   split at h
   · exact .inl h
   · split at h
     · exact .inl h
     · rcases mem_putH.1 h with rfl|⟨h,_⟩
       · exact .inr (getH_st h1)
       · exact .inl h
 · exact .inl h
theorem askedS_len (hs:List HalfS) (fr:Int) (w:WordS):(askedS hs fr w).2.length≤hs.length+1:=by
 unfold askedS
 split
 · split
   · exact Nat.le_succ _
   · split
     · exact Nat.le_succ _
     · exact putH_len _ _
 · split
   · exact Nat.le_succ _
   · exact putH_len _ _
theorem provedS_len (hs:List HalfS) (w:WordS):(provedS hs w).2.length≤hs.length+1:=by
 unfold provedS
 simp only
 split
 · split
   · exact Nat.le_succ _
   · split
     · exact Nat.le_succ _
     · exact putH_len _ _
 · exact Nat.le_succ _
def tmH3 (l:AV) (e i:Int):List AV:= [.bad, .bad, .bad, .bad, .bad, .bad, .ptr 0 0, .bad,l, .d (i64 e), .ptr 1 0]++Zao 47 .bad++ [.agg [.d (i64 1),fnA 30, .d (i64 3),fnA 31], .d (i64 i)]++Zao 19 .bad
theorem wrH2 {N:Nat} {w0:World} {lent:List Nat} {Q:Exit→St SpG→Prop} (d:Nat) (hs:List HalfS) (w:WordS) (fr:Int) (hw:InI w.st) (hi:∀h∈hs,InI h.st) (hl:hs.length<999999)
   (hq:BIf (1 !=w.ki) (BIf (3 !=w.ki) (Q (.exit 2) ⟨tmH2 2, [wordB w,deskB d fr],some (d,hs)⟩)
     (BIf ((provedS hs w).1 !=0) (Q .ret ⟨tmH3 nilA (provedS hs w).1 1, [wordB w,deskB d fr],some (d,(provedS hs w).2)⟩) (Q .ret ⟨tmH3 (.d (.sl 6 (rowsH (listS (provedS hs w).2)))) 0 1, [wordB w,deskB d fr],some (d,(provedS hs w).2)⟩)))
     (BIf ((askedS hs fr w).1 !=0) (Q .ret ⟨tmH3 nilA (askedS hs fr w).1 0, [wordB w,deskB d fr],some (d,(askedS hs fr w).2)⟩) (Q .ret ⟨tmH3 (.d (.sl 6 (rowsH (listS (askedS hs fr w).2)))) 0 0, [wordB w,deskB d fr],some (d,(askedS hs fr w).2)⟩))):
   WR (Zch Tryd.prog none N w0 lent spF) lpH2 3 ⟨tmH2 0, [wordB w,deskB d fr],some (d,hs)⟩ Q:=by
 have hm1:∀h∈(askedS hs fr w).2,InI h.st:=fun h hh=>(askedS_mem hh).elim (hi h) fun e=>e▸hw
 have hm2:∀h∈(provedS hs w).2,InI h.st:=fun h hh=>(provedS_mem hh).elim (hi h) fun e=>e▸hw
 have hl1:=askedS_len hs fr w
 have hl2:=provedS_len hs w
 refine Zcq [6,8,9,10,58,59] mixed (spX_ok TH2_ok CH3_ok lent N w0) (k:=100) ?_
 refine Eq.mpr (h2r0 _ _ d hs w fr) ?_
 refine Zba (fun h1=> ?_) fun h1=> ?_
 · have hq:=bif_t hq h1
   refine Zcq [6,8,9,10,58,59] mixed (spX_ok TH2_ok CH3_ok lent N w0) (k:=100) ?_
   refine Eq.mpr (h2r1 _ _ d hs w fr) ?_
   refine Zba (fun h2=> ?_) fun h2=> ?_
   · have hq:=bif_t hq h2
     refine Zcq [6,8,9,10,58,59] mixed (spX_ok TH2_ok CH3_ok lent N w0) (k:=100) ?_
     exact Eq.mpr (h2r2 _ _ d hs w fr) hq
   · have hq:=bif_f hq h2
     refine ⟨rfl,d,hs,_,_,fr,w,rfl,rfl,⟨hw,by omega,rfl,rfl⟩,Zba (fun h3=>bif_t hq h3) fun h3=>⟨rfl,d,_,_,rfl,rfl,⟨hm2,by omega,rfl⟩,bif_f hq h3⟩⟩
 · have hq:=bif_f hq h1
   refine ⟨rfl,d,hs,_,_,fr,w,rfl,rfl,⟨hw,by omega,rfl,rfl⟩,Zba (fun h3=>bif_t hq h3) fun h3=>⟨rfl,d,_,_,rfl,rfl,⟨hm1,by omega,rfl⟩,bif_f hq h3⟩⟩
def THe:List (Nat×(List AV→(AV→Prop)→Prop)):= [(13,cValid),(28,cIsWord),(29,cIn),(4000003,cNone)]
theorem THe_ok:CallsOk Tryd.prog THe:=Zan cValid_ok (Zan cIsWord_ok (Zan cIn_ok (Zan cNone_ok Zat)))
def wlHe0:WLT SpG:=fun c tm hp g K=>match cidO c with
 | 6 =>∃(d:Nat) (hs t t0:List HalfS) (w:WordS) (fr:Int),c= .loop lpHr∧maskTm [6,8,9,10,44,45,46] 0 tm=tmHr hs (rowsH hs).length 0∧hp= [wordB w,deskB d fr]∧g=some (d,t0)∧(t0= []∧(∀i,i<hs.length→InI (nthH hs i).st)∧hs.length<1000000∧t=tabH hs)∧
     ∀i:Int,K (.exit 0) (tmHr hs hs.length i) [wordB w,deskB d fr] (some (d,t))
 |11=>∃(d:Nat) (hs r1 r2 q1 q2:List HalfS) (e1 e2:Int) (w:WordS) (fr:Int),c= .loop lpH2∧maskTm [6,8,9,10,58,59] 0 tm=tmH2 0∧hp= [wordB w,deskB d fr]∧g=some (d,hs)∧(InI w.st∧(∀h∈hs,InI h.st)∧hs.length<999999∧e1=(askedS hs fr w).1∧r1=(askedS hs fr w).2∧q1=listS r1∧e2=(provedS hs w).1∧r2=(provedS hs w).2∧q2=listS r2)∧
     BIf (1 !=w.ki) (BIf (3 !=w.ki) (K (.exit 2) (tmH2 2) [wordB w,deskB d fr] (some (d,hs)))
       (BIf (e2 !=0) (K .ret (tmH3 nilA e2 1) [wordB w,deskB d fr] (some (d,r2))) (K .ret (tmH3 (.d (.sl 6 (rowsH q2))) 0 1) [wordB w,deskB d fr] (some (d,r2)))))
       (BIf (e1 !=0) (K .ret (tmH3 nilA e1 0) [wordB w,deskB d fr] (some (d,r1))) (K .ret (tmH3 (.d (.sl 6 (rowsH q1))) 0 0) [wordB w,deskB d fr] (some (d,r1))))
 |_=>False
theorem wlHe0_ok (N:Nat) (w0:World) (lent:List Nat) (c:Code) (tm:List AV) (hp:List Blk) (b:SpG) (K:Exit→List AV→List Blk→SpG→Prop) (h:wlHe0 c tm hp b K):W (Zch Tryd.prog none N w0 lent spF) c ⟨tm,hp,b⟩ (fun e s=>K e s.tm s.hp s.b):=by
 unfold wlHe0 at h
 split at h
 · obtain ⟨d,hs,_,_,w,fr,rfl,htm,rfl,rfl,⟨rfl,h1,h2,rfl⟩,hK⟩:=h
   rw [rowsH_len] at htm
   refine W.cast (htm▸maskTm_le _ tm 0) (Zcy _) ?_
   exact W.rounds (wrHr (Q:=fun e s=>K e s.tm s.hp s.b) hs d w fr h1 h2 hK hs.length 0 (by omega))
 · obtain ⟨d,hs,_,_,_,_,_,_,w,fr,rfl,htm,rfl,rfl,⟨h1,h2,h3,rfl,rfl,rfl,rfl,rfl,rfl⟩,hK⟩:=h
   refine W.cast (htm▸maskTm_le _ tm 0) (Zcy _) ?_
   exact W.rounds (wrH2 (Q:=fun e s=>K e s.tm s.hp s.b) d hs w fr h1 h2 h3 hK)
 · exact h.elim
def wlHe:WLT SpG:=wlM Tryd.prog ⟨THe, [],fun _ _ _ _ _=>False,fun _ _ _=>False,false⟩ (spM []) wlHe0
theorem wlHe_ok (lent:List Nat) (N:Nat) (w0:World):∀c tm hp b K,wlHe c tm hp b K→W (Zch Tryd.prog none N w0 lent spF) c ⟨tm,hp,b⟩ (fun e s=>K e s.tm s.hp s.b):=
 wlM_ok (Ev:=Zch Tryd.prog none N w0 lent spF) mixed (CX.Ok.ofWl (Ev:=Zch Tryd.prog none N w0 lent spF) THe_ok Zap fun _ _ _ _ _ h=>h.elim) (spM_ok MCTok.nil N w0 lent) (wlHe0_ok N w0 lent)
section
variable (R:AV→SpG→Prop)
abbrev Qz19 (v0:List HalfS):List AV:=bds 6 (Zci 0 0::Zam::Zak (Dv.s (.slice none 0 0))::Zak (i64 0)::Zci 1 0::bds 33 (Zak (Zbd 6 (rowsH v0))::Zak (i64 ((Zae (rowsH v0):Nat):Int))::Zak (i64 0)::bds 32 []))
abbrev Qz22:List AV:= [Zak (Dv.s (.slice none 0 0)),Zak (i64 1)]
theorem hear_nf (hs:List HalfS) (me fr:Int) (w:WordS):wpFn Tryd.prog ⟨THe, [],wlHe,fun _ _ _=>False,false⟩ 100 Tryd.f11 [.d (.sl 6 (rowsH hs)), .d (i64 me),wordA w, .d (i64 fr)] none R=(∃(hs0:List HalfS) (z1:Bool), [Zak (Zbd 6 (rowsH hs))]= [Zak (Zbd 6 (rowsH hs0))]∧(Zae hs0≤9223372036854775807∧z1=validH hs0)∧BIf (!z1) (R (.tup Qz22) none) (∃(w2:WordS) (z3:Bool), [Zbv (Qz1 w)]= [Zbv (Qz1 w2)]∧z3=isWordS w2∧BIf (!z3) (R (.tup Qz22) none) (BIf (WordS.sp w !=me) (R (.tup Qz22) none) (∃(n4:Int) (h5:Int), [Zak (i64 (WordS.ke w)),Zak (i64 2000000)]= [Zak (i64 n4),Zak (i64 h5)]∧BIf (!inN n4 h5) (R (.tup Qz22) none) (∃(n6:Int) (h7:Int), [Zak (i64 fr),Zak (i64 999999988)]= [Zak (i64 n6),Zak (i64 h7)]∧BIf (!inN n6 h7) (R (.tup Qz22) none) (NoG none∧59=59∧∀(d:Nat),∃(d8:Nat) (hs9:List HalfS) (t10:List HalfS) (t11:List HalfS) (w12:WordS) (fr13:Int),Code.loop lpHr=Code.loop lpHr∧(Qz19 hs)=(Qz19 hs9)∧(Qz6 w d fr)=(Qz6 w12 d8 fr13)∧some (d, [])=some (d8,t11)∧(t11= []∧(∀(i:Nat),i<Zae hs9→InI (HalfS.st (nthH hs9 i)))∧Zae hs9<1000000∧t10=tabH hs9)∧∀(i:Int),∃(d14:Nat) (hs15:List HalfS) (r16:List HalfS) (r17:List HalfS) (q18:List HalfS) (q19:List HalfS) (e20:Int) (e21:Int) (w22:WordS) (fr23:Int),Code.loop lpH2=Code.loop lpH2∧(bds 6 (Zci 0 0::Zam::Zak (Dv.s (.slice none 0 0))::Zak (i64 0)::Zci 1 0::bds 47 (Zbv [Zak (i64 1),Zcz (Fn.func 30) [] [],Zak (i64 3),Zcz (Fn.func 31) [] []]::Zak (i64 0)::bds 19 [])))=(bds 6 (Zci 0 0::Zam::Zak (Dv.s (.slice none 0 0))::Zak (i64 0)::Zci 1 0::bds 47 (Zbv [Zak (i64 1),Zcz (Fn.func 30) [] [],Zak (i64 3),Zcz (Fn.func 31) [] []]::Zak (i64 0)::bds 19 [])))∧(Qz6 w12 d8 fr13)=(Qz6 w22 d14 fr23)∧some (d8,t10)=some (d14,hs15)∧(InI (WordS.st w22)∧(∀(h:HalfS),h∈hs15→InI (HalfS.st h))∧Zae hs15<999999∧e20=Prod.fst (askedS hs15 fr23 w22)∧r16=Prod.snd (askedS hs15 fr23 w22)∧q18=listS r16∧e21=Prod.fst (provedS hs15 w22)∧r17=Prod.snd (provedS hs15 w22)∧q19=listS r17)∧BIf ((1:Int) !=WordS.ki w22) (BIf ((3:Int) !=WordS.ki w22) (R (.tup [Zak (Dv.s (.slice none 0 0)),Zak (i64 9)]) (some (d14,hs15))) (BIf (e21 !=(0:Int)) (R (.tup [Zak (Dv.s (.slice none 0 0)),Zak (i64 e21)]) (some (d14,r17))) (R (.tup [Zak (Zbd 6 (rowsH q19)),Zak (i64 0)]) (some (d14,r17))))) (BIf (e20 !=(0:Int)) (R (.tup [Zak (Dv.s (.slice none 0 0)),Zak (i64 e20)]) (some (d14,r16))) (R (.tup [Zak (Zbd 6 (rowsH q18)),Zak (i64 0)]) (some (d14,r16)))))))))):=by kernel_rfl
end
def hearS (hs:List HalfS) (me:Int) (w:WordS) (fr:Int):List HalfS×Int:=
 if (!validH hs)=true then ([],1) else if (!isWordS w)=true then ([],1) else if (w.sp !=me)=true then ([],1) else if (!inN w.ke 2000000)=true then ([],1) else if (!inN fr 999999988)=true then ([],1)
 else if (1 !=w.ki)=true then (if (3 !=w.ki)=true then ([],9) else if ((provedS (tabH hs) w).1 !=0)=true then ([],(provedS (tabH hs) w).1) else (listS (provedS (tabH hs) w).2,0))
 else if ((askedS (tabH hs) fr w).1 !=0)=true then ([],(askedS (tabH hs) fr w).1) else (listS (askedS (tabH hs) fr w).2,0)
theorem tabH_mem {hs:List HalfS} {x:HalfS} (h:x∈tabH hs):x∈hs:=by
 have key:∀(l t:List HalfS),x∈l.foldl (fun t h=>putH h t) t→x∈l∨x∈t:=by
   intro l
   induction l with
   |nil=>intro t h;exact .inr h
   | cons y r ih=>
     intro t h
     rcases ih _ h with h|h
     · exact .inl (List.mem_cons_of_mem _ h)
     · rcases mem_putH.1 h with rfl|⟨h,_⟩
       · exact .inl (List.mem_cons_self ..)
       · exact .inr h
 rcases key hs [] h with h|h
 · exact h
 · cases h
theorem inI_of_halfOk {h:HalfS} (hh:halfOk h=true):InI h.st:=by
 simp only [halfOk,Zag,nodeN,inN,decide_eq_true_eq] at hh
 exact ⟨by omega,by omega⟩
theorem valid_halfOk {hs:List HalfS} (hv:validH hs=true) {i:Nat} (hi:i<hs.length):halfOk (nthH hs i)=true:=by
 simp only [validH,Zag,Bool.not_eq_true',List.any_eq_false,List.mem_range] at hv
 have:=hv.1 i hi
 simp only [badAt,Bool.or_eq_true,not_or] at this
 simpa using this.1
theorem valid_len {hs:List HalfS} (hv:validH hs=true):hs.length≤4:=by
 simp only [validH,Zag,decide_eq_true_eq] at hv
 exact hv.2
theorem valid_mem {hs:List HalfS} (hv:validH hs=true) {x:HalfS} (hx:x∈hs):halfOk x=true:=by
 obtain ⟨i,hi⟩:=List.mem_iff_getElem?.1 hx
 have hl:=(List.getElem?_eq_some_iff.1 hi).1
 have:=valid_halfOk hv hl
 rwa [nthH,List.getD_eq_getElem?_getD,hi] at this
theorem inI_word {w:WordS} (h:isWordS w=true):InI w.st:=by
 have hf:formedW w=true:=by
   cases hf:formedW w with
   |true=>rfl
   |false=>simp [isWordS,judgeS,hf] at h
 simp only [formedW,Zag,nodeJ,decide_eq_true_eq] at hf
 exact ⟨by omega,by omega⟩
theorem leNil {e:Int}:LeT (.tup [nilA, .d (i64 e)]) (.tup [.d (.sl 6 (rowsH [])), .d (i64 e)]):= .tup (.cons (LeA.nilSl rfl) (.cons LeA.rfl .nil))
theorem leRefl {q:List HalfS} {e:Int}:LeT (.tup [.d (.sl 6 (rowsH q)), .d (i64 e)]) (.tup [.d (.sl 6 (rowsH q)), .d (i64 e)]):= .tup (.cons LeA.rfl (.cons LeA.rfl .nil))
theorem pcHear (hs:List HalfS) (me fr:Int) (w:WordS) (hl:hs.length≤9223372036854775807):PCall Tryd.prog 11 [.d (.sl 6 (rowsH hs)), .d (i64 me),wordA w, .d (i64 fr)] (.tup [.d (.sl 6 (rowsH (hearS hs me w fr).1)), .d (i64 (hearS hs me w fr).2)]):=by
 refine MCall.toP (f:=spF) (g:=none) rfl (MCall.leT ?_)
 refine MCall.ofFn (n:=100) (u:=false) wlHe mixed THe_ok Zap (fun N w0=>wlHe_ok _ N w0) Tryd.func11 (by rfl) (by rfl) ?_
 rw [hear_nf]
 refine ⟨hs,_,rfl,⟨hl,rfl⟩,Zba (fun h1=> ?_) fun h1=>⟨w,_,rfl,rfl,Zba (fun h2=> ?_) fun h2=>Zba (fun h3=> ?_) fun h3=>⟨_,_,rfl,Zba (fun h4=> ?_) fun h4=>⟨_,_,rfl,Zba (fun h5=> ?_) fun h5=> ?_⟩⟩⟩⟩
 · rw [hearS,if_pos h1];exact ⟨leNil,rfl⟩
 · rw [hearS,if_neg (by rw [h1];decide),if_pos h2];exact ⟨leNil,rfl⟩
 · rw [hearS,if_neg (by rw [h1];decide),if_neg (by rw [h2];decide),if_pos h3];exact ⟨leNil,rfl⟩
 · rw [hearS,if_neg (by rw [h1];decide),if_neg (by rw [h2];decide),if_neg (by rw [h3];decide),if_pos h4];exact ⟨leNil,rfl⟩
 · rw [hearS,if_neg (by rw [h1];decide),if_neg (by rw [h2];decide),if_neg (by rw [h3];decide),if_neg (by rw [h4];decide),if_pos h5];exact ⟨leNil,rfl⟩
 rw [hearS,if_neg (by rw [h1];decide),if_neg (by rw [h2];decide),if_neg (by rw [h3];decide),if_neg (by rw [h4];decide),if_neg (by rw [h5];decide)]
 have hv:validH hs=true:=by simpa using h1
 have hw:isWordS w=true:=by simpa using h2
 have hi:∀h∈tabH hs,InI h.st:=fun h hh=>inI_of_halfOk (valid_mem hv (tabH_mem hh))
 have htl:=tabH_len hs
 have hsl:=valid_len hv
 refine ⟨⟨rfl⟩,rfl,fun d=>⟨d,hs,_, [],w,fr,rfl,rfl,rfl,rfl,⟨rfl,fun i hi=>inI_of_halfOk (valid_halfOk hv hi),by omega,rfl⟩,fun i=>⟨d,tabH hs,_,_,_,_,_,_,w,fr,rfl,rfl,rfl,rfl,⟨inI_word hw,hi,by omega,rfl,rfl,rfl,rfl,rfl,rfl⟩,
   Zba (fun h6=>Zba (fun h7=> ?_) fun h7=>Zba (fun h8=> ?_) fun h8=> ?_) fun h6=>Zba (fun h8=> ?_) fun h8=> ?_⟩⟩⟩
 · rw [if_pos h6,if_pos h7];exact ⟨leNil,rfl⟩
 · rw [if_pos h6,if_neg (by rw [h7];decide),if_pos h8];exact ⟨leNil,rfl⟩
 · rw [if_pos h6,if_neg (by rw [h7];decide),if_neg (by rw [h8];decide)];exact ⟨leRefl,rfl⟩
 · rw [if_neg (by rw [h6];decide),if_pos h8];exact ⟨leNil,rfl⟩
 · rw [if_neg (by rw [h6];decide),if_neg (by rw [h8];decide)];exact ⟨leRefl,rfl⟩
def G40:List (Nat×(List AV→List Blk→(AV→List Blk→Prop)→Prop)):= [(1000040,fun _ _ _=>False)]
theorem G40_ok:SCallsOk Tryd.prog G40:=Zdj (fun _ _ _ h=>h.elim) Zap
def fnL (fr:Int):AV:= .fn (.func 40) [] [.rptr [i64 fr]]
theorem lateF_nf (h:HalfS) (fr:Int):wpFn Tryd.prog ⟨[], [],wl,y,false⟩ 100 Tryd.f40 [halfA h, .rptr [i64 fr]] b R=(R (Zak (bo (decide (HalfS.un h<fr)))) b):=by kernel_rfl
theorem clone39S_nf (xs:List (List Dv)):wpFnS Tryd.prog ⟨[],G40,wl,y,false⟩ 100 Tryd.f39 [.d (.sl 6 xs)] b RS=(∀(t:Bool),(t=true→xs= [])→BIf t (RS (Zak (Dv.s (.slice none 0 0))) [] b) (BIf (true&&decide (Zae xs*48≤140737488355328)) (BIf (decide (0<Zae xs)) (RS (AV.gref 0 0 (Zae xs) 6) [Blk.mk (flatA xs) false true 0] b) (RS (AV.full 6 []) [] b)) False)):=by kernel_rfl
theorem pcLate (h:HalfS) (fr:Int):PCall Tryd.prog 40 [halfA h, .rptr [i64 fr]] (.d (bo (decide (h.un<fr)))):=by
 refine Zco (n:=100) (u:=false) mixed Zat Zap Tryd.func40 (by rfl) (by rfl) fun Ev bb=> ?_
 rw [lateF_nf]
def cLate (args:List AV) (K:AV→Prop):Prop:=∃(h:HalfS) (fr:Int),args= [halfA h, .rptr [i64 fr]]∧K (.d (bo (decide (h.un<fr))))
theorem cLate_ok:∀args K,cLate args K→∃x,PCall Tryd.prog 40 args x∧K x:=by
 rintro _ K ⟨h,fr,rfl,hk⟩;exact ⟨_,pcLate h fr,hk⟩
theorem pcClone39:CloneF Tryd.prog 39 6:=fun xs hl=>by
 refine FCall.ofFnF (n:=100) (u:=false) wlNo mixed Zat G40_ok (fun Ev=>wlNo_ok Ev) Tryd.func39 (by rfl) (by rfl) (by split<;>rfl) fun Ev bb=> ?_
 rw [clone39S_nf]
 refine fun t ht=>Zba (fun h=>by rw [ht h];exact ⟨.nilFull rfl,rfl⟩) fun h=>Zca (by simp<;>omega) ?_
 cases xs with
 |nil=>exact BIf.f rfl ⟨.rfl,rfl⟩
 |cons a xs=>exact Zca (by simp) ⟨.rfl,rfl⟩
def TLa:List (Nat×(List AV→(AV→Prop)→Prop)):= [(40,cLate)]
theorem TLa_ok:CallsOk Tryd.prog TLa:=Zan cLate_ok Zat
noncomputable def lpIf:Code:=sub [1,0,1,2,3] (code Tryd.f55)
def tmIf (hs:List HalfS) (fr z n i:Int):List AV:= [.d (.sl 6 (rowsH hs)),fnL fr, .bad, .bad, .d (i64 z), .bad, .bad, .d (i64 n), .d (i64 i)]++Zao 10 .bad
theorem rIf (hs:List HalfS) (fr n i:Int):wpc Tryd.prog ⟨TLa, [],wl,y,false⟩ 100 lpIf (tmIf hs fr 0 n i) [] b (maskK 0 [0,1,4,7,8] K)=(BIf (decide (i<n)) (BIf (true&&decide (0≤i)) (∃(x0:Int) (x1:Int) (x2:Int) (x3:Int) (b4:Bool) (x5:Int),(rowsH hs)[Zbb i]? =some (Qz12 x0 x1 x2 x3 b4 x5)∧∃(h8:HalfS) (fr9:Int), [Zbv (Qz14 x0 x1 x2 x3 b4 x5),AV.rptr [i64 fr]]= [Zbv (Qz2 h8),AV.rptr [i64 fr9]]∧BIf (decide (HalfS.un h8<fr9)) (K .ret (Zak (Zbd 6 (rowsH hs))::Zcz (Fn.func 40) [] [AV.rptr [i64 fr]]::Zam::Zam::Zak (i64 i)::Zam::Zam::Zak (i64 n)::Zak (i64 i)::bds 10 []) [] b) (K .normal (Zak (Zbd 6 (rowsH hs))::Zcz (Fn.func 40) [] [AV.rptr [i64 fr]]::Zam::Zam::Zak (i64 0)::Zam::Zam::Zak (i64 n)::Zak (i64 (Zad .i64 (i+1)))::bds 10 []) [] b)) False) (K (Exit.exit 0) (Zak (Zbd 6 (rowsH hs))::Zcz (Fn.func 40) [] [AV.rptr [i64 fr]]::Zam::Zam::Zak (i64 0)::Zam::Zam::Zak (i64 n)::Zak (i64 i)::bds 10 []) [] b)):=by kernel_rfl
def lateB (fr:Int) (h:HalfS):Bool:=decide (h.un<fr)
def firstL (fr:Int):List HalfS→Nat
 | []=>0
 |h::r=>if lateB fr h=true then 0 else firstL fr r+1
def indexS (hs:List HalfS) (fr:Int):Int:=if firstL fr hs<hs.length then firstL fr hs else -1
theorem nthH_drop {hs:List HalfS} {i:Nat} {h:HalfS} {r:List HalfS} (hd:hs.drop i=h::r):i<hs.length∧nthH hs i=h∧hs.drop (i+1)=r:=by
 have hi:i<hs.length:=by
   apply Classical.byContradiction
   intro hn
   rw [List.drop_eq_nil_of_le (by omega)] at hd;cases hd
 rw [List.drop_eq_getElem_cons hi] at hd
 injection hd with h1 h2
 exact ⟨hi,by simp [nthH,hi,h1],h2⟩
theorem wrIf {Ev:Env Tryd.prog} {b:Ev.β} {Q:Exit→St Ev.β→Prop} (hs:List HalfS) (fr:Int) (hl:hs.length<1000000)
   (hQ1:firstL fr hs=hs.length→∀i:Int,Q (.exit 0) ⟨tmIf hs fr 0 hs.length i, [],b⟩) (hQ2:firstL fr hs<hs.length→∀i:Int,Q .ret ⟨tmIf hs fr (firstL fr hs:Nat) hs.length i, [],b⟩):
   ∀(rest:List HalfS) (i:Nat),hs.drop i=rest→i≤hs.length→firstL fr hs=i+firstL fr rest→WR Ev lpIf (rest.length+1) ⟨tmIf hs fr 0 hs.length i, [],b⟩ Q
 | [],i,hd,hi,hf=>by
   refine Zcq [0,1,4,7,8] mixed (CX.Ok.of (u:=false) TLa_ok Zap) (k:=100) ?_
   refine Eq.mpr (rIf _ _ _ _ hs fr hs.length i) ?_
   have hil:i=hs.length:=by have:=List.drop_eq_nil_iff.1 hd;omega
   exact BIf.f (by simp;omega) (hQ1 (by rw [hf,hil];simp [firstL]) _)
 | h::rest,i,hd,hi,hf=>by
   refine Zcq [0,1,4,7,8] mixed (CX.Ok.of (u:=false) TLa_ok Zap) (k:=100) ?_
   refine Eq.mpr (rIf _ _ _ _ hs fr hs.length i) ?_
   obtain ⟨hi',hh,hd'⟩:=nthH_drop hd
   rw [Zcb,rowsH_at hi']
   refine Zca (by simp;omega) (Zca (by simp) ⟨_,_,_,_,_,_,rfl,nthH hs i,fr,rfl,Zba (fun h1=> ?_) fun h1=> ?_⟩)
   · have h1':lateB fr h=true:=by rw [←hh];exact h1
     have hfi:firstL fr hs=i:=by rw [hf,firstL,if_pos h1'];rfl
     have:=hQ2 (by omega) i
     rw [hfi] at this
     exact this
   · have h1':¬lateB fr h=true:=by rw [←hh];simp only [lateB];rw [h1];decide
     rw [wrapN (by omega)]
     exact wrIf hs fr hl hQ1 hQ2 rest (i+1) hd' hi' (by rw [hf,firstL,if_neg h1'];omega)
def wlIf {β:Type}:WLT β:=fun c tm hp b K=>∃(hs:List HalfS) (fr:Int) (k:Nat),c= .loop lpIf∧maskTm [0,1,4,7,8] 0 tm=tmIf hs fr 0 (rowsH hs).length 0∧hp= []∧(hs.length<1000000∧k=firstL fr hs)∧
 BIf (decide (k<hs.length)) (∀i:Int,K .ret (tmIf hs fr k hs.length i) [] b) (∀i:Int,K (.exit 0) (tmIf hs fr 0 hs.length i) [] b)
theorem wlIf_ok {Ev:Env Tryd.prog} (c:Code) (tm:List AV) (hp:List Blk) (b:Ev.β) (K:Exit→List AV→List Blk→Ev.β→Prop) (h:wlIf c tm hp b K):W Ev c ⟨tm,hp,b⟩ (fun e s=>K e s.tm s.hp s.b):=by
 obtain ⟨hs,fr,_,rfl,htm,rfl,⟨hl,rfl⟩,hK⟩:=h
 rw [rowsH_len] at htm
 refine W.cast (htm▸maskTm_le _ tm 0) (Zcy _) ?_
 exact W.rounds (wrIf (Q:=fun e s=>K e s.tm s.hp s.b) hs fr hl (fun h=>bif_f hK (decide_eq_false (by omega))) (fun h=>bif_t hK (decide_eq_true h)) hs 0 rfl (Nat.zero_le _) (by omega))
theorem index_nf (hs:List HalfS) (fr:Int):wpFn Tryd.prog ⟨TLa, [],wlIf,y,false⟩ 100 Tryd.f55 [.d (.sl 6 (rowsH hs)),fnL fr] b R=(∃(hs0:List HalfS) (fr1:Int) (k2:Nat),Code.loop lpIf=Code.loop lpIf∧(Zak (Zbd 6 (rowsH hs))::Zcz (Fn.func 40) [] [AV.rptr [i64 fr]]::Zam::Zam::Zak (i64 0)::Zam::Zam::Zak (i64 ((Zae (rowsH hs):Nat):Int))::Zak (i64 0)::bds 10 [])=(Zak (Zbd 6 (rowsH hs0))::Zcz (Fn.func 40) [] [AV.rptr [i64 fr1]]::Zam::Zam::Zak (i64 0)::Zam::Zam::Zak (i64 ((Zae (rowsH hs0):Nat):Int))::Zak (i64 0)::bds 10 [])∧([]:List Blk)= []∧(Zae hs0<1000000∧k2=firstL fr1 hs0)∧BIf (decide (k2<Zae hs0)) (∀(i:Int),R (.d (i64 (k2:Int))) b) (∀(i:Int),R (.d (i64 (-1))) b)):=by kernel_rfl
theorem pcIndex (hs:List HalfS) (fr:Int) (hl:hs.length<1000000):PCall Tryd.prog 55 [.d (.sl 6 (rowsH hs)),fnL fr] (.d (i64 (indexS hs fr))):=by
 refine PCall.ofFnW (n:=100) (u:=false) (fun _=>wlIf) mixed TLa_ok Zap (fun Ev=>wlIf_ok) Tryd.func55 (by rfl) (by rfl) fun Ev bb=> ?_
 rw [index_nf]
 refine ⟨hs,fr,_,rfl,rfl,rfl,⟨hl,rfl⟩,Zba (fun h i=> ?_) fun h i=> ?_⟩
 · rw [indexS,if_pos (of_decide_eq_true h)]
 · rw [indexS,if_neg (of_decide_eq_false h)]
def cIndex (args:List AV) (K:AV→Prop):Prop:=∃(hs:List HalfS) (fr z:Int),args= [.d (.sl 6 (rowsH hs)),fnL fr]∧(hs.length<1000000∧z=indexS hs fr)∧K (.d (i64 z))
theorem cIndex_ok:∀args K,cIndex args K→∃x,PCall Tryd.prog 55 args x∧K x:=by
 rintro _ K ⟨hs,fr,_,rfl,⟨hl,rfl⟩,hk⟩;exact ⟨_,pcIndex hs fr hl,hk⟩
def boxI (fr:Int):Blk:=⟨[.d (i64 fr)],false,false,0⟩
noncomputable def lpDf:Code:=sub [1,1,1,0,1,2,3] (code Tryd.f38)
def tmDf (v n:Nat) (i j:Int):List AV:= [.gref 1 v n 6, .fn (.func 40) [] [.ptr 0 0], .bad, .bad, .bad, .d (i64 i), .d (i64 j)]++Zao 35 .bad
def ULa:List (Nat×(List AV→List Blk→(AV→List Blk→Prop)→Prop)):= [(1000040,fun _ _ _=>False),(40,lendC cLate)]
theorem ULa_ok:SCallsOk Tryd.prog ULa:=Zdj (fun _ _ _ h=>h.elim) (Zdj (lendC_ok cLate_ok) Zap)
def grB (v:Nat) (cs:List AV):Blk:=⟨cs,false,true,v⟩
theorem rDf (v n:Nat) (i j fr:Int) (cs:List AV):wpc Tryd.prog ⟨[],ULa,wl,y,false⟩ 100 lpDf (tmDf v n i j) [boxI fr,grB v cs] b (maskK 2 [0,1,5,6] K)=(v=v∧BIf (decide (j<(n:Int))) (v=v∧BIf (decide (0≤j)&&decide (j<(n:Int))) (v=v∧∃(x0:Int) (x1:Int) (x2:Int) (x3:Int) (b4:Bool) (x5:Int),List.take 6 (List.drop (Zbb j*6) cs)=(Qz14 x0 x1 x2 x3 b4 x5)∧∃(h6:HalfS) (fr7:Int), [Zbv (Qz14 x0 x1 x2 x3 b4 x5),AV.rptr [i64 fr]]= [Zbv (Qz2 h6),AV.rptr [i64 fr7]]∧BIf (!decide (HalfS.un h6<fr7)) (v=v∧BIf (decide (0≤i)&&decide (i<(n:Int))) (v=v∧BIf (decide (Zbb i*6+6≤Zae cs)) (BIf (List.all [cell (i64 fr),Blk.mk (List.take (Zbb i*6) cs++(Qz14 x0 x1 x2 x3 b4 x5)++List.drop (Zbb i*6+6) cs) false true v] fun (blk8:Blk)=>lows 2 blk8.1) (K .normal (AV.gref 1 v n 6::Zcz (Fn.func 40) [] [Zci 0 0]::bds 3 (Zak (i64 (Zad .i64 (i+1)))::Zak (i64 (Zad .i64 (j+1)))::bds 35 [])) [cell (i64 fr),Blk.mk (List.take (Zbb i*6) cs++(Qz14 x0 x1 x2 x3 b4 x5)++List.drop (Zbb i*6+6) cs) false true v] b) False) False) False) (BIf (List.all [cell (i64 fr),Blk.mk cs false true v] fun (blk9:Blk)=>lows 2 blk9.1) (K .normal (AV.gref 1 v n 6::Zcz (Fn.func 40) [] [Zci 0 0]::bds 3 (Zak (i64 i)::Zak (i64 (Zad .i64 (j+1)))::bds 35 [])) [cell (i64 fr),Blk.mk cs false true v] b) False)) False) (BIf (List.all [cell (i64 fr),Blk.mk cs false true v] fun (blk10:Blk)=>lows 2 blk10.1) (K (Exit.exit 0) (AV.gref 1 v n 6::Zcz (Fn.func 40) [] [Zci 0 0]::bds 3 (Zak (i64 i)::Zak (i64 j)::bds 35 [])) [cell (i64 fr),Blk.mk cs false true v] b) False)):=by kernel_rfl
theorem hc_cons (h:HalfS) (hs:List HalfS):flatA (rowsH (h::hs))=(halfR h).map .d++flatA (rowsH hs):=flatA_cons _ _
theorem hc_len:∀hs:List HalfS,(flatA (rowsH hs)).length=hs.length*6
 | []=>rfl
 |h::hs=>by rw [hc_cons,List.length_append,hc_len hs];simp [halfR];omega
theorem hc_take:∀(hs:List HalfS) (i:Nat),(flatA (rowsH hs)).take (i*6)=flatA (rowsH (hs.take i))
 | [],i=>by simp [rowsH,flatA]
 |h::hs,0=>by simp [rowsH,flatA]
 | h::hs,i+1=>by
   rw [hc_cons,List.take_succ_cons,hc_cons,←hc_take hs i,List.take_append]
   have e:((halfR h).map Zak).length=6:=rfl
   rw [e,List.take_of_length_le (by rw [e];omega)]
   congr 2;omega
theorem hc_drop:∀(hs:List HalfS) (i:Nat),(flatA (rowsH hs)).drop (i*6)=flatA (rowsH (hs.drop i))
 | [],i=>by simp [rowsH,flatA]
 |h::hs,0=>by simp
 | h::hs,i+1=>by
   rw [hc_cons,List.drop_succ_cons,←hc_drop hs i,List.drop_append]
   have e:((halfR h).map Zak).length=6:=rfl
   rw [e,List.drop_eq_nil_of_le (by rw [e];omega),List.nil_append]
   congr 1;omega
theorem hc_at {hs:List HalfS} {j:Nat} (hj:j<hs.length):((flatA (rowsH hs)).drop (j*6)).take 6=(halfR (nthH hs j)).map .d:=by
 rw [hc_drop,List.drop_eq_getElem_cons hj,hc_cons]
 have e:nthH hs j=hs[j]:=by simp [nthH,hj]
 rw [e];rfl
theorem hc_app (a b:List HalfS):flatA (rowsH (a++b))=flatA (rowsH a)++flatA (rowsH b):=by simp [rowsH,flatA_append]
theorem hc_set {hs:List HalfS} {i:Nat} (hi:i<hs.length) (h:HalfS):(flatA (rowsH hs)).take (i*6)++(halfR h).map .d++(flatA (rowsH hs)).drop (i*6+6)=flatA (rowsH (hs.set i h)):=by
 have e:i*6+6=(i+1)*6:=by omega
 rw [e,hc_take,hc_drop,List.set_eq_take_append_cons_drop,if_pos hi,hc_app,hc_cons,List.append_assoc]
theorem hc_lows (n:Nat):∀hs:List HalfS,lows n (flatA (rowsH hs))=true
 | []=>rfl
 | h::hs=>by
   rw [hc_cons]
   have:=hc_lows n hs
   simp only [halfR,List.map_cons,List.map_nil,List.cons_append,List.nil_append,lows,AV.low,this,Bool.and_true]
theorem hc_low2 (fr:Int) (v:Nat) (hs:List HalfS):List.all [boxI fr,grB v (flatA (rowsH hs))] (fun blk=>lows 2 blk.1)=true:=by
 simp only [List.all_cons,List.all_nil,Bool.and_true,Zag]
 exact ⟨rfl,hc_lows 2 hs⟩
def keepH (fr:Int) (h:HalfS):Bool:= !lateB fr h
theorem wrDf {Ev:Env Tryd.prog} {b:Ev.β} {Q:Exit→St Ev.β→Prop} (v:Nat) (fr:Int) (hs:List HalfS) (hl:hs.length<1000000)
   (hQ:∀(cur:List HalfS) (j:Int),cur.length=hs.length→cur.take (hs.filter (keepH fr)).length=hs.filter (keepH fr)→Q (.exit 0) ⟨tmDf v hs.length ((hs.filter (keepH fr)).length:Nat) j, [boxI fr,grB v (flatA (rowsH cur))],b⟩):
   ∀ (rest:List HalfS) (j i:Nat) (cur:List HalfS),hs.drop j=rest→j≤hs.length→i≤j→cur.length=hs.length→cur.take i=(hs.take j).filter (keepH fr)→cur.drop j=rest→
     WR Ev lpDf (rest.length+1) ⟨tmDf v hs.length i j, [boxI fr,grB v (flatA (rowsH cur))],b⟩ Q
 | [],j,i,cur,hd,hj,hi,hcl,ht,hcd=>by
   refine Zcq [0,1,5,6] mixed (CX.Ok.of (u:=false) Zat ULa_ok) (k:=100) ?_
   refine Eq.mpr (rDf _ _ _ _ v hs.length i j fr _) ?_
   have hjl:j=hs.length:=by have:=List.drop_eq_nil_iff.1 hd;omega
   subst hjl
   rw [List.take_length] at ht
   have hil:i=(hs.filter (keepH fr)).length:=by rw [←ht,List.length_take];omega
   refine ⟨rfl,BIf.f (by simp) (Zca (hc_low2 fr v cur) ?_)⟩
   rw [hil] at ht ⊢
   exact hQ cur _ hcl ht
 | h::rest,j,i,cur,hd,hj,hi,hcl,ht,hcd=>by
   refine Zcq [0,1,5,6] mixed (CX.Ok.of (u:=false) Zat ULa_ok) (k:=100) ?_
   refine Eq.mpr (rDf _ _ _ _ v hs.length i j fr _) ?_
   obtain ⟨hj1,hh1,hd1⟩:=nthH_drop hd
   obtain ⟨hj2,hh2,hd2⟩:=nthH_drop hcd
   have htake:hs.take (j+1)=hs.take j++ [h]:=by
     rw [List.take_succ_eq_append_getElem hj1]
     congr 2
     rw [←hh1];simp [nthH,hj1]
   refine ⟨rfl,Zca (by simp;omega) ⟨rfl,Zca (by simp;omega) ⟨rfl,(nthH cur j).st,(nthH cur j).no,(nthH cur j).ch,(nthH cur j).un,(nthH cur j).pr,(nthH cur j).ke,by rw [Zcb];exact hc_at hj2,nthH cur j,fr,rfl,Zba (fun h1=> ?_) fun h1=> ?_⟩⟩⟩
   · have hk:keepH fr h=true:=by rw [←hh2];exact h1
     refine ⟨rfl,Zca (by simp;omega) ⟨rfl,Zca (by rw [Zcb,hc_len];simp;omega) ?_⟩⟩
     rw [Zcb]
     have e:=hc_set (hs:=cur) (i:=i) (by omega) (nthH cur j)
     have e':((halfR (nthH cur j)).map Zak)= [Zak (i64 (nthH cur j).st),Zak (i64 (nthH cur j).no),Zak (i64 (nthH cur j).ch),Zak (i64 (nthH cur j).un),Zak (bo (nthH cur j).pr),Zak (i64 (nthH cur j).ke)]:=rfl
     rw [e'] at e
     rw [e,hh2,wrapN (by omega),wrapN (by omega)]
     refine Zca (hc_low2 fr v _) ?_
     refine wrDf v fr hs hl hQ rest (j+1) (i+1) (cur.set i h) hd1 hj1 (by omega) (by simpa using hcl) ?_ ?_
     · rw [htake,List.filter_append,←ht,List.take_succ_eq_append_getElem (by simp;omega)]
       simp [hk,List.take_set_of_le]
     · rw [List.drop_set_of_lt (by omega)];exact hd2
   · have hk:keepH fr h=false:=by rw [←hh2];exact h1
     rw [wrapN (by omega)]
     refine Zca (hc_low2 fr v _) ?_
     refine wrDf v fr hs hl hQ rest (j+1) i cur hd1 hj1 (by omega) hcl ?_ hd2
     rw [htake,List.filter_append,ht]
     simp [hk]
theorem first_take (fr:Int):∀hs:List HalfS,firstL fr hs<hs.length→hs.take (firstL fr hs)=(hs.take (firstL fr hs+1)).filter (keepH fr)
 | [],h=>by simp at h
 | h::r,hf=>by
   simp only [firstL] at hf ⊢
   split
   · rename_i h1;simp [keepH,h1]
   · rename_i h1
     rw [if_neg h1] at hf
     have:=first_take fr r (by simpa using hf)
     simp only [List.take_succ_cons,List.filter_cons,keepH,h1,Bool.not_false,if_true]
     rw [this]
theorem first_all (fr:Int):∀hs:List HalfS,¬firstL fr hs<hs.length→hs.filter (keepH fr)=hs
 | [],_=>rfl
 | h::r,hf=>by
   simp only [firstL] at hf
   split at hf
   · simp at hf
   · rename_i h1
     have:=first_all fr r (by simpa using hf)
     simp only [List.filter_cons,keepH,h1,Bool.not_false,if_true]
     rw [this]
def wlDf0 {β:Type}:WLT β:=fun c tm hp b K=>∃(v:Nat) (fr i j:Int) (hs out:List HalfS),c= .loop lpDf∧maskTm [0,1,5,6] 0 tm=tmDf v hs.length i j∧hp= [boxI fr,grB v (flatA (rowsH hs))]∧(hs.length<1000000∧firstL fr hs<hs.length∧i=firstL fr hs∧j=Zad Zbo (i+1)∧out=hs.filter (keepH fr))∧
 ∀(cur:List HalfS) (j:Int),cur.length=hs.length→cur.take out.length=out→K (.exit 0) (tmDf v hs.length (out.length:Nat) j) [boxI fr,grB v (flatA (rowsH cur))] b
theorem wlDf0_ok {Ev:Env Tryd.prog} (c:Code) (tm:List AV) (hp:List Blk) (b:Ev.β) (K:Exit→List AV→List Blk→Ev.β→Prop) (h:wlDf0 c tm hp b K):W Ev c ⟨tm,hp,b⟩ (fun e s=>K e s.tm s.hp s.b):=by
 obtain ⟨v,fr,_,_,hs,_,rfl,htm,rfl,⟨hl,hf,rfl,rfl,rfl⟩,hK⟩:=h
 rw [wrapN (by omega)] at htm
 refine W.cast (htm▸maskTm_le _ tm 0) (Zcy _) ?_
 exact W.rounds (wrDf (Q:=fun e s=>K e s.tm s.hp s.b) v fr hs hl hK (hs.drop (firstL fr hs+1)) (firstL fr hs+1) (firstL fr hs) hs rfl hf (by omega) rfl (first_take fr hs hf) rfl)
def TDf:List (Nat×(List AV→(AV→Prop)→Prop)):= [(4000011,cNone)]
theorem TDf_ok:CallsOk Tryd.prog TDf:=Zan cNone_ok Zat
def UDf:List (Nat×(List AV→List Blk→(AV→List Blk→Prop)→Prop)):= [(1000040,fun _ _ _=>False),(55,lendC cIndex)]
theorem UDf_ok:SCallsOk Tryd.prog UDf:=Zdj (fun _ _ _ h=>h.elim) (Zdj (lendC_ok cIndex_ok) Zap)
def wlDf {β:Type} (y:YieldT β):WLT β:=wlZ Tryd.prog ⟨TDf,UDf,fun _ _ _ _ _=>False,y,false⟩ wlDf0
theorem del_nf (v n:Nat) (fr:Int) (cs:List AV):wpc Tryd.prog ⟨TDf,UDf,wlDf y,y,false⟩ 100 (code Tryd.f38) (startTm Tryd.f38 [.gref 1 v n 6, .fn (.func 40) [] [.ptr 0 0]]) [boxI fr,grB v cs] b (fnKS Tryd.prog Tryd.f38 RS)=(v=v∧∃(xs0:List (List Dv)),cs=flatA xs0∧Zae xs0=n∧(∀(r:List Dv),r∈xs0→Zae r=6)∧∃(hs1:List HalfS) (fr2:Int) (z3:Int), [Zak (Zbd 6 xs0),Zcz (Fn.func 40) [] [AV.rptr [i64 fr]]]= [Zak (Zbd 6 (rowsH hs1)),Zcz (Fn.func 40) [] [AV.rptr [i64 fr2]]]∧(Zae hs1<1000000∧z3=indexS hs1 fr2)∧BIf (z3==(-1:Int)) (RS (AV.gref 1 v n 6) [cell (i64 fr),Blk.mk cs false true v] b) (∃(v4:Nat) (fr5:Int) (i6:Int) (j7:Int) (hs8:List HalfS) (out9:List HalfS),Code.loop lpDf=Code.loop lpDf∧(AV.gref 1 v n 6::Zcz (Fn.func 40) [] [Zci 0 0]::bds 3 (Zak (i64 z3)::Zak (i64 (Zad .i64 (z3+1)))::bds 35 []))=(AV.gref 1 v4 (Zae hs8) 6::Zcz (Fn.func 40) [] [Zci 0 0]::bds 3 (Zak (i64 i6)::Zak (i64 j7)::bds 35 []))∧ [cell (i64 fr),Blk.mk cs false true v]= [cell (i64 fr5),Blk.mk (flatA (rowsH hs8)) false true v4]∧(Zae hs8<1000000∧firstL fr5 hs8<Zae hs8∧i6=((firstL fr5 hs8:Nat):Int)∧j7=Zad .i64 (i6+1)∧out9=List.filter (keepH fr5) hs8)∧∀(cur:List HalfS) (j:Int),Zae cur=Zae hs8→List.take (Zae out9) cur=out9→v4=v4∧BIf (true&&decide (((Zae out9:Nat):Int)≤((Zae hs8:Nat):Int))) (BIf (true&&decide (((Zae out9:Nat):Int)≤((Zae hs8:Nat):Int))) (v4=v4∧RS (AV.gref 1 (v4+1) (Zbb ((Zae out9:Nat):Int)) 6) [cell (i64 fr5),Blk.mk (List.take (Zbb ((Zae out9:Nat):Int)*6) (List.take (Zbb ((Zae out9:Nat):Int)*6) (flatA (rowsH cur))++flatA (Zao (Zae hs8 - Zbb ((Zae out9:Nat):Int)) [i64 0,i64 0,i64 0,i64 0,bo false,i64 0]))) false true (v4+1)] b) False) False)):=by kernel_rfl
theorem del_body:Tryd.f38.body=some (code Tryd.f38):=by rfl
def delV (v:Nat) (fr:Int) (hs:List HalfS):Nat:=if firstL fr hs<hs.length then v+1 else v
theorem del_X (Ev:Env Tryd.prog):CX.Ok Ev ⟨TDf,UDf,wlDf Ev.Y,Ev.Y,false⟩:=
 CX.Ok.ofWl TDf_ok UDf_ok (wlZ_ok (X:=⟨TDf,UDf,fun _ _ _ _ _=>False,Ev.Y,false⟩) (CX.Ok.ofWl TDf_ok UDf_ok fun _ _ _ _ _ h=>h.elim) wlDf0_ok)
theorem del0_nf (fr:Int):wpc Tryd.prog ⟨TDf,UDf,wlDf y,y,false⟩ 100 (code Tryd.f38) (startTm Tryd.f38 [.d (.sl 6 []), .fn (.func 40) [] [.ptr 0 0]]) [boxI fr] b (fnKS Tryd.prog Tryd.f38 RS)=(∃(hs0:List HalfS) (fr1:Int) (z2:Int), [Zak (Zbd 6 []),Zcz (Fn.func 40) [] [AV.rptr [i64 fr]]]= [Zak (Zbd 6 (rowsH hs0)),Zcz (Fn.func 40) [] [AV.rptr [i64 fr1]]]∧(Zae hs0<1000000∧z2=indexS hs0 fr1)∧BIf (z2==(-1:Int)) (RS (Zak (Zbd 6 [])) [cell (i64 fr)] b) (∃(v3:Nat) (fr4:Int) (i5:Int) (j6:Int) (hs7:List HalfS) (out8:List HalfS),Code.loop lpDf=Code.loop lpDf∧(Zak (Zbd 6 [])::Zcz (Fn.func 40) [] [Zci 0 0]::bds 3 (Zak (i64 z2)::Zak (i64 (Zad .i64 (z2+1)))::bds 35 []))=(AV.gref 1 v3 (Zae hs7) 6::Zcz (Fn.func 40) [] [Zci 0 0]::bds 3 (Zak (i64 i5)::Zak (i64 j6)::bds 35 []))∧ [cell (i64 fr)]= [cell (i64 fr4),Blk.mk (flatA (rowsH hs7)) false true v3]∧(Zae hs7<1000000∧firstL fr4 hs7<Zae hs7∧i5=((firstL fr4 hs7:Nat):Int)∧j6=Zad .i64 (i5+1)∧out8=List.filter (keepH fr4) hs7)∧∀(cur:List HalfS) (j:Int),Zae cur=Zae hs7→List.take (Zae out8) cur=out8→v3=v3∧BIf (true&&decide (((Zae out8:Nat):Int)≤((Zae hs7:Nat):Int))) (BIf (true&&decide (((Zae out8:Nat):Int)≤((Zae hs7:Nat):Int))) (v3=v3∧RS (AV.gref 1 (v3+1) (Zbb ((Zae out8:Nat):Int)) 6) [cell (i64 fr4),Blk.mk (List.take (Zbb ((Zae out8:Nat):Int)*6) (List.take (Zbb ((Zae out8:Nat):Int)*6) (flatA (rowsH cur))++flatA (Zao (Zae hs7 - Zbb ((Zae out8:Nat):Int)) [i64 0,i64 0,i64 0,i64 0,bo false,i64 0]))) false true (v3+1)] b) False) False)):=by kernel_rfl
theorem scDel0 (fr:Int):SCall Tryd.prog 38 [.d (.sl 6 []), .fn (.func 40) [] [.ptr 0 0]] [boxI fr] (.d (.sl 6 [])) [boxI fr]:=by
 refine SCall.ofW Tryd.func38 del_body (by rfl) fun Ev b=> ?_
 refine wpc_sound (X:=⟨TDf,UDf,wlDf Ev.Y,Ev.Y,false⟩) (n:=100) mixed (del_X Ev) ?_ fun e tm hp b hK=>fnKS_sound hK
 refine Eq.mpr (del0_nf _ _ _ fr) ?_
 exact ⟨[],fr,_,rfl,⟨by simp,rfl⟩,Zca rfl ⟨rfl,rfl⟩⟩
theorem scDel (v:Nat) (fr:Int) (hs:List HalfS) (hl:hs.length<1000000):
   SCall Tryd.prog 38 [.gref 1 v hs.length 6, .fn (.func 40) [] [.ptr 0 0]] [boxI fr,grB v (flatA (rowsH hs))] (.gref 1 (delV v fr hs) (hs.filter (keepH fr)).length 6) [boxI fr,grB (delV v fr hs) (flatA (rowsH (hs.filter (keepH fr))))]:=by
 refine SCall.ofW Tryd.func38 del_body (by rfl) fun Ev b=> ?_
 refine wpc_sound (X:=⟨TDf,UDf,wlDf Ev.Y,Ev.Y,false⟩) (n:=100) mixed (del_X Ev) ?_ fun e tm hp b hK=>fnKS_sound hK
 refine Eq.mpr (del_nf _ _ _ v hs.length fr _) ?_
 refine ⟨rfl,rowsH hs,rfl,rowsH_len hs,fun r hr=> ?_,hs,fr,_,rfl,⟨hl,rfl⟩,Zba (fun h1=> ?_) fun h1=> ?_⟩
 · simp only [rowsH,List.mem_map] at hr
   obtain ⟨x,_,rfl⟩:=hr;rfl
 · have hn:¬firstL fr hs<hs.length:=by
     intro h
     simp only [indexS,if_pos h,beq_iff_eq] at h1
     omega
   rw [delV,if_neg hn,first_all fr hs hn]
   exact ⟨rfl,rfl⟩
 · have hn:firstL fr hs<hs.length:=by
     apply Classical.byContradiction
     intro h
     simp [indexS,if_neg h] at h1
   have hle:(hs.filter (keepH fr)).length≤hs.length:=List.length_filter_le _ _
   refine ⟨v,fr,_,_,hs,_,rfl,rfl,rfl,⟨hl,hn,by rw [indexS,if_pos hn],rfl,rfl⟩,fun cur j hcl hct=>⟨rfl,Zca (by simp;exact hle) (Zca (by simp;exact hle) ⟨rfl, ?_⟩)⟩⟩
   rw [Zcb,delV,if_pos hn]
   refine ⟨rfl, ?_⟩
   have e:((flatA (rowsH cur)).take ((hs.filter (keepH fr)).length*6)).length=(hs.filter (keepH fr)).length*6:=by
     rw [List.length_take,hc_len,hcl];omega
   rw [List.take_append_of_le_length (by rw [e];exact Nat.le_refl _),List.take_take,Nat.min_self,hc_take,hct]
   rfl
def sDel (args:List AV) (hp:List Blk) (K:AV→List Blk→Prop):Prop:=match hp with
 | [b0]=>∃(fr:Int),args= [.d (.sl 6 []), .fn (.func 40) [] [.ptr 0 0]]∧b0=boxI fr∧K (.d (.sl 6 [])) [boxI fr]
 | [b0,b1]=>∃(v n:Nat) (fr:Int) (hs out:List HalfS),args= [.gref 1 v n 6, .fn (.func 40) [] [.ptr 0 0]]∧b0=boxI fr∧b1=grB v (flatA (rowsH hs))∧(n=hs.length∧hs.length<1000000∧out=hs.filter (keepH fr))∧
   ∀v',K (.gref 1 v' out.length 6) [boxI fr,grB v' (flatA (rowsH out))]
 |_=>False
theorem sDel_ok:∀args hp K,sDel args hp K→∃x hp',SCall Tryd.prog 38 args hp x hp'∧K x hp':=by
 intro args hp K h
 unfold sDel at h
 split at h
 · obtain ⟨fr,rfl,rfl,h⟩:=h
   exact ⟨_,_,scDel0 fr,h⟩
 · obtain ⟨v,_,fr,hs,_,rfl,rfl,rfl,⟨rfl,hl,rfl⟩,h⟩:=h
   exact ⟨_,_,scDel v fr hs hl,h _⟩
 · exact h.elim
theorem SCall.toSl {P:Program} {f k:Nat} {args:List AV} {hp hp':List Blk} {xs:List (List Dv)} (h:SCall P f args hp (.full k xs) hp'):SCall P f args hp (.d (.sl k xs)) hp':=by
 refine ⟨h.1,fun S X yv w m B hv vs hl hr=>CallsIn.mono (h.2 S X yv w m B hv vs hl hr) ?_⟩
 rintro e w' ⟨v,S',m',hv',he,h1,h2⟩
 have hrv:=h2.rv _ (List.mem_cons_self ..)
 refine ⟨v,S',m',hv',he,h1,(h2.sub (List.sublist_cons_self _ _)).cons ?_ rfl⟩
 cases hrv with|full h=>exact .d h
def sCl6 (args:List AV) (hp:List Blk) (K:AV→List Blk→Prop):Prop:=∃(hs:List HalfS),args= [.d (.sl 6 (rowsH hs))]∧hs.length<1000000∧BIf hs.isEmpty (K (.d (.sl 6 [])) hp) (K (.gref hp.length 0 hs.length 6) (hp++ [grB 0 (flatA (rowsH hs))]))
theorem sCl6_ok:∀args hp K,sCl6 args hp K→∃x hp',SCall Tryd.prog 39 args hp x hp'∧K x hp':=by
 rintro _ hp K ⟨hs,rfl,hl,hK⟩
 have h1:=(pcClone39 (rowsH hs) (by rw [rowsH_len];omega)).toS rfl hp
 cases hs with
 |nil=>exact ⟨_,_,SCall.toSl h1,by simpa [rowsH,shiftH,BIf] using hK⟩
 | cons a r=>
   refine ⟨_,_,h1, ?_⟩
   simpa [rowsH,shift,shiftH,shiftB,blkG,shifts_flatA,BIf,grB] using hK
def UEx:List (Nat×(List AV→List Blk→(AV→List Blk→Prop)→Prop)):= [(1000040,fun _ _ _=>False),(39,sCl6),(38,sDel)]
theorem UEx_ok:SCallsOk Tryd.prog UEx:=Zdj (fun _ _ _ h=>h.elim) (Zdj sCl6_ok (Zdj sDel_ok Zap))
theorem expire_nf (hs:List HalfS) (fr:Int):wpFn Tryd.prog ⟨[],UEx,wl,y,false⟩ 100 Tryd.f16 [.d (.sl 6 (rowsH hs)), .d (i64 fr)] b R=(∃(hs0:List HalfS), [Zak (Zbd 6 (rowsH hs))]= [Zak (Zbd 6 (rowsH hs0))]∧Zae hs0<1000000∧BIf (List.isEmpty hs0) (∃(fr1:Int), [Zak (Zbd 6 []),Zcz (Fn.func 40) [] [Zci 0 0]]= [Zak (Zbd 6 []),Zcz (Fn.func 40) [] [Zci 0 0]]∧cell (i64 fr)=cell (i64 fr1)∧R (.d (Zbd 6 [])) b) (∃(v2:Nat) (n3:Nat) (fr4:Int) (hs5:List HalfS) (out6:List HalfS), [AV.gref 1 0 (Zae hs0) 6,Zcz (Fn.func 40) [] [Zci 0 0]]= [AV.gref 1 v2 n3 6,Zcz (Fn.func 40) [] [Zci 0 0]]∧cell (i64 fr)=cell (i64 fr4)∧Blk.mk (flatA (rowsH hs0)) false true 0=Blk.mk (flatA (rowsH hs5)) false true v2∧(n3=Zae hs5∧Zae hs5<1000000∧out6=List.filter (keepH fr4) hs5)∧∀(v':Nat),v'=v'∧∃(xs7:List (List Dv)),flatA (rowsH out6)=flatA xs7∧Zae xs7=Zae out6∧(∀(r:List Dv),r∈xs7→Zae r=6)∧R (.d (Zbd 6 xs7)) b)):=by kernel_rfl
theorem rowsH_six (hs:List HalfS):∀r∈rowsH hs,r.length=6:=by
 intro r hr
 simp only [rowsH,List.mem_map] at hr
 obtain ⟨x,_,rfl⟩:=hr;rfl
def expireS (hs:List HalfS) (fr:Int):List HalfS:=hs.filter (keepH fr)
theorem pcExpire (hs:List HalfS) (fr:Int) (hl:hs.length<1000000):PCall Tryd.prog 16 [.d (.sl 6 (rowsH hs)), .d (i64 fr)] (.d (.sl 6 (rowsH (expireS hs fr)))):=by
 refine Zco (n:=100) (u:=false) mixed Zat UEx_ok Tryd.func16 (by rfl) (by rfl) fun Ev bb=> ?_
 rw [expire_nf]
 refine ⟨hs,rfl,hl,Zba (fun h1=> ?_) fun h1=> ?_⟩
 · have h2:hs= []:=List.isEmpty_iff.1 h1
   subst h2
   exact ⟨fr,rfl,rfl,rfl⟩
 · refine ⟨0,_,fr,hs,_,rfl,rfl,rfl,⟨rfl,hl,rfl⟩,fun v'=>⟨rfl,rowsH (hs.filter (keepH fr)),rfl,rowsH_len _,rowsH_six _,rfl⟩⟩
def gath {γ:Type} (n:Nat) (step:Nat→List γ):List γ:=(Zay n).flatMap step
theorem gath_succ {γ:Type} (n:Nat) (step:Nat→List γ):gath (n+1) step=gath n step++step n:=by simp [gath,List.range_succ]
theorem gath_len {γ:Type} {step:Nat→List γ} (h:∀i,(step i).length≤1):∀n,(gath n step).length≤n
 |0=>Nat.le_refl _
 |n+1=>by have:=gath_len h n;have:=h n;rw [gath_succ,List.length_append];omega
theorem WR.gathK {P:Program} {Ev:Env P} {X:CX Ev.β} {lp:Code} {b:Ev.β} {Q:Exit→St Ev.β→Prop} {k:Nat} {γ:Type} (keep:List Nat) (hm:P.follows .mixedOrders=true) (hX:X.Ok) (n:Nat) (step:Nat→List γ) (hs:∀i,(step i).length≤1) (tmOf:List γ→Nat→List AV) (hp:List Blk) (id:Nat)
   (hr:∀(i:Nat) (acc:List γ),i<n→acc.length≤i→∀K:Exit→List AV→List Blk→Ev.β→Prop,K .normal (tmOf (acc++step i) (i+1)) hp b→wpc P X k lp (tmOf acc i) hp b (maskK hp.length keep K))
   (he:∀(acc:List γ) (K:Exit→List AV→List Blk→Ev.β→Prop),K (.exit id) (tmOf acc n) hp b→wpc P X k lp (tmOf acc n) hp b (maskK hp.length keep K))
   (hQ:Q (.exit id) ⟨tmOf (gath n step) n,hp,b⟩):WR Ev lp (n+1) ⟨tmOf [] 0,hp,b⟩ Q:=by
 have key:∀(m i:Nat),i+m=n→WR Ev lp (m+1) ⟨tmOf (gath i step) i,hp,b⟩ Q:=by
   intro m
   induction m with
   | zero=>
     intro i hi
     have:i=n:=by omega
     subst this
     exact Zcq keep hm hX (he _ _ hQ)
   | succ m ih=>
     intro i hi
     refine Zcq keep hm hX (hr i _ (by omega) (gath_len hs i) _ ?_)
     rw [←gath_succ]
     exact ih (i+1) (by omega)
 exact key n 0 (by omega)
def rowsW (ws:List WordS):List (List Dv):=ws.map wordR
noncomputable def lpTo:Code:=sub [1,1,1,0,1,2,3] (code Tryd.f41)
def tmTo (hs:List HalfS) (me kd:Int) (pr:Bool) (acc:AV) (n i:Int):List AV:= [.bad, .d (i64 me), .d (i64 kd), .d (bo pr), .bad, .bad, .bad, .bad, .bad,acc, .bad, .bad]++Zao 8 .bad++ [.d (.sl 6 (rowsH hs)), .d (i64 n), .d (i64 i)]++Zao 23 .bad
theorem rTo (hs:List HalfS) (ws:List (List Dv)) (me kd n i:Int) (pr:Bool):wpc Tryd.prog ⟨[], [],wl,y,false⟩ 100 lpTo (tmTo hs me kd pr (.own 26 8 ws) n i) [] b (maskK 0 [1,2,3,9,20,21,22] K)=(BIf (decide (i<n)) (BIf (true&&decide (0≤i)) (∃(x0:Int) (x1:Int) (x2:Int) (x3:Int) (b4:Bool) (x5:Int),(rowsH hs)[Zbb i]? =some (Qz12 x0 x1 x2 x3 b4 x5)∧BIf (b4==pr) (BIf (true&&decide ((Zae ws+1)*64≤140737488355328)) (K .normal (Zam::Zak (i64 me)::Zak (i64 kd)::Zak (bo pr)::bds 5 (AV.own 26 8 (ws++ [[i64 kd,i64 x0,i64 me,i64 x1,i64 x2,i64 x5,i64 0,i64 0]])::bds 10 (Zak (Zbd 6 (rowsH hs))::Zak (i64 n)::Zak (i64 (Zad .i64 (i+1)))::bds 23 []))) [] b) False) (K .normal (Zam::Zak (i64 me)::Zak (i64 kd)::Zak (bo pr)::bds 5 (AV.own 26 8 ws::bds 10 (Zak (Zbd 6 (rowsH hs))::Zak (i64 n)::Zak (i64 (Zad .i64 (i+1)))::bds 23 []))) [] b)) False) (K (Exit.exit 0) (Zam::Zak (i64 me)::Zak (i64 kd)::Zak (bo pr)::bds 5 (AV.own 26 8 ws::bds 10 (Zak (Zbd 6 (rowsH hs))::Zak (i64 n)::Zak (i64 i)::bds 23 []))) [] b)):=by kernel_rfl
end Go.Proofs.YtlnenbbmhidjeaaDoor.Am
namespace Go.Proofs.YtlnenbbmhidjeaaDoor.Am
open Go Go.RowKit Go.Proofs Go.ChangeShapes Go.WideShapes Go.ChangeAt
open AV renaming agg → Zbv, bad → Zam, d → Zak, fn → Zcz, ptr → Zci
open BIf renaming of → Zba, t → Zca
open Bool renaming and_eq_true → Zag, false_eq_true → Zcc
open CallsOk renaming cons → Zan, nil → Zat
open Dv renaming sl → Zbd
open Env renaming mapped → Zch
open Int renaming tmod → Zdi, toNat → Zbb, toNat_natCast → Zcb
open Go.IntKind renaming i64 → Zbo, u64 → Zcf, wrap → Zad
open LeH renaming refl → Zcy
open List renaming length → Zae, range → Zay, replicate → Zao
open PCall renaming ofFn → Zco
open SCallsOk renaming cons → Zdj, nil → Zap
open Go.Value renaming map → Zbe
open WR renaming ofMask → Zcq
open AV (bad)
set_option linter.unusedVariables false
theorem Try_own:ownKnob Tryd.prog.godebug=none:=by kernel_rfl
theorem Try_laidOut:laidOutB Tryd.prog=true:=by kernel_rfl
def laid1:List (String×DataW Unit):= [("slotmesh/random.steps",Rows.laid_slotmesh_random_steps)]
theorem gn0:Tryd.prog.globalNamed "slotmesh/random.steps" =some 0:=by kernel_rfl
theorem flat_of {P:Program} {g n t:Nat} (h:(P.globals[g]?).map (·.type)=some t) (k:(((P.globals[g]?).map (·.type)).bind (flat P n)).isSome=true):∃tys,flat P n t=some tys:=by
 rw [h] at k;exact Option.isSome_iff_exists.1 k
theorem fl0:(((Tryd.prog.globals[0]?).map (·.type)).bind (flat Tryd.prog 9)).isSome=true:=by kernel_rfl
theorem glob_met {W:World} (h:laidMetH Tryd.prog laid1 W):Glob (AllOf W) W:=by
 rw [MakeChecks.laidMetH_plain _ _ _ (by kernel_rfl)] at h
 obtain ⟨ps,⟨g0,t0,cs0,f0,p0,q0,hg0,ht0,hv0,hd0,_⟩,_,_⟩:=h
 obtain rfl:=Option.some.inj (gn0.symm.trans hg0)
 have e0:=flat_of ht0 fl0
 obtain ⟨tys0,e0⟩:=e0
 have v0:=var_at gn0 hv0 hd0 e0 (k:=9) (vs:=laidTable 0) (by kernel_rfl)
 have one:∀g,g<1→∀v∈laidTable g,v.oneCell'=true:=by
   have:(Zay 1).all (fun g=>(laidTable g).all fun v=>v.oneCell')=true:=by kernel_rfl
   intro g hg v hv
   exact List.all_eq_true.1 (List.all_eq_true.1 this g (List.mem_range.2 hg)) v hv
 refine glob_of fun g hg j v hj=> ?_
 match g,hg with
 |0,_=>exact ⟨v0 j v hj,one 0 (by omega) v (List.mem_of_getElem? hj)⟩
 |n+1,hg=>exact absurd rfl hg
theorem door_met (os:Os) (args:Array Value):laidMetH Tryd.prog laid1 ((World.doorLaid Tryd.prog 400 os).forCall (fun _ _=>0) ⟨#[],args, []⟩).memory:=
 laidMetH_of_parts3 (fuel:=8) (laidMet_of_run' 8 (by kernel_rfl) (by kernel_rfl)) (by kernel_rfl) (by kernel_rfl)
def halfTys:List Ty:= [.int .i64, .int .i64, .int .i64, .int .i64, .bool, .int .i64]
theorem half_row {row:List Dv} (h:HasTys halfTys row):∃x:HalfS,row=halfR x:=by
 unfold halfTys at h
 obtain _|⟨h0,h⟩:=h
 obtain _|⟨h1,h⟩:=h
 obtain _|⟨h2,h⟩:=h
 obtain _|⟨h3,h⟩:=h
 obtain _|⟨h4,h⟩:=h
 obtain _|⟨h5,h⟩:=h
 cases h
 cases h0;cases h1;cases h2;cases h3;cases h4;cases h5
 exact ⟨⟨_,_,_,_,_,_⟩,rfl⟩
theorem halves_of {x:Dv} (h:HasTy (.sl halfTys) x):∃l:List HalfS,x= .sl 6 (rowsH l)∧l.length≤maxLen∧True:=by
 cases h with
 | sl _ xs hl h=>
   have key:∀(xs:List (List Dv)),(∀row∈xs,HasTys halfTys row)→∃l:List HalfS,xs=rowsH l:=by
     intro xs
     induction xs with
     |nil=>exact fun _=>⟨[],rfl⟩
     | cons row xs ih=>
       intro h
       obtain ⟨p,rfl⟩:=ih fun r hr=>h r (List.mem_cons_of_mem _ hr)
       obtain ⟨x,rfl⟩:=half_row (h row (List.mem_cons_self ..))
       exact ⟨x::p,rfl⟩
   obtain ⟨p,rfl⟩:=key xs h
   exact ⟨p,rfl,by simpa [rowsH] using hl,trivial⟩
def wordTys:List Ty:= [.int .i64, .int .i64, .int .i64, .int .i64, .int .i64, .int .i64, .int .i64, .int .i64]
theorem word_row {row:List Dv} (h:HasTys wordTys row):∃x:WordS,row=wordR x:=by
 unfold wordTys at h
 obtain _|⟨h0,h⟩:=h
 obtain _|⟨h1,h⟩:=h
 obtain _|⟨h2,h⟩:=h
 obtain _|⟨h3,h⟩:=h
 obtain _|⟨h4,h⟩:=h
 obtain _|⟨h5,h⟩:=h
 obtain _|⟨h6,h⟩:=h
 obtain _|⟨h7,h⟩:=h
 cases h
 cases h0;cases h1;cases h2;cases h3;cases h4;cases h5;cases h6;cases h7
 exact ⟨⟨_,_,_,_,_,_,_,_⟩,rfl⟩
theorem row_word {row:List Dv} (h:HasTys wordTys row):∃x:WordS,Zbv (row.map .d)=wordA x∧True:=by
 obtain ⟨x,rfl⟩:=word_row h
 exact ⟨x,rfl,trivial⟩
theorem flatHs:flat Tryd.prog 20 22=some [.sl halfTys]:=by kernel_rfl
theorem flatWo:flat Tryd.prog 20 26=some wordTys:=by kernel_rfl
end Go.Proofs.YtlnenbbmhidjeaaDoor.Am
namespace Go.Proofs.YtlnenbbmhidjeaaDoor.Am
open Go Go.RowKit Go.Proofs
open AV renaming agg → Zbv, bad → Zam, d → Zak, fn → Zcz, ptr → Zci
open BIf renaming of → Zba, t → Zca
open Bool renaming and_eq_true → Zag, false_eq_true → Zcc
open CallsOk renaming cons → Zan, nil → Zat
open Dv renaming sl → Zbd
open Env renaming mapped → Zch
open Int renaming tmod → Zdi, toNat → Zbb, toNat_natCast → Zcb
open Go.IntKind renaming i64 → Zbo, u64 → Zcf, wrap → Zad
open LeH renaming refl → Zcy
open List renaming length → Zae, range → Zay, replicate → Zao
open PCall renaming ofFn → Zco
open SCallsOk renaming cons → Zdj, nil → Zap
open Go.Value renaming map → Zbe
open WR renaming ofMask → Zcq
variable {β:Type} (wl:WLT β) (y:YieldT β) (b:β) (R:AV→β→Prop) (K:Exit→List AV→List Blk→β→Prop) (Q:β→Prop)
open AV (bad)
set_option linter.unusedVariables false
set_option maxRecDepth 20000
set_option maxHeartbeats 1000000
theorem gath_nthH {γ:Type} (f:HalfS→List γ):∀(hs:List HalfS),gath hs.length (fun i=>f (nthH hs i))=hs.flatMap f:=by
 intro hs
 have key:∀k,k≤hs.length→gath k (fun i=>f (nthH hs i))=(hs.take k).flatMap f:=by
   intro k
   induction k with
   |zero=>intro _;simp [gath]
   | succ k ih=>
     intro hk
     rw [gath_succ,ih (by omega),List.take_succ_eq_append_getElem (by omega),List.flatMap_append]
     simp [nthH,show k<hs.length by omega]
 rw [key _ (Nat.le_refl _),List.take_length]
def wordOf (me kd:Int) (h:HalfS):WordS:=⟨kd,h.st,me,h.no,h.ch,h.ke,0,0⟩
def stepTo (me kd:Int) (pr:Bool) (h:HalfS):List WordS:=if (h.pr==pr)=true then [wordOf me kd h] else []
def toldW (hs:List HalfS) (me kd:Int) (pr:Bool):List WordS:=hs.flatMap (stepTo me kd pr)
theorem rowsW_app (a b:List WordS):rowsW (a++b)=rowsW a++rowsW b:=by simp [rowsW]
theorem stepTo_len (me kd:Int) (pr:Bool) (h:HalfS):(stepTo me kd pr h).length≤1:=by unfold stepTo;split<;>simp
theorem wrTo {Ev:Env Tryd.prog} {b:Ev.β} {Q:Exit→St Ev.β→Prop} (hs:List HalfS) (me kd:Int) (pr:Bool) (hl:hs.length<1000000) (hQ:∀i:Int,Q (.exit 0) ⟨tmTo hs me kd pr (.own 26 8 (rowsW (toldW hs me kd pr))) hs.length i, [],b⟩):
   WR Ev lpTo (hs.length+1) ⟨tmTo hs me kd pr (.own 26 8 (rowsW [])) hs.length (0:Nat), [],b⟩ Q:=by
 refine WR.gathK (X:=⟨[], [],wlW Ev,Ev.Y,false⟩) (k:=100) [1,2,3,9,20,21,22] mixed (CX.Ok.of Zat Zap) hs.length (fun i=>stepTo me kd pr (nthH hs i)) (fun i=>stepTo_len me kd pr _) (fun acc i=>tmTo hs me kd pr (.own 26 8 (rowsW acc)) hs.length (i:Nat)) [] 0 (fun i acc hi ha K k1=> ?_) (fun acc K k1=> ?_) ?_
 · refine Eq.mpr (rTo _ _ _ K hs _ me kd hs.length i pr) ?_
   rw [Zcb,rowsH_at hi]
   refine Zca (by simp;omega) (Zca (by simp) ⟨_,_,_,_,_,_,rfl,Zba (fun h1=> ?_) fun h1=> ?_⟩)
   · refine Zca (by simp [rowsW];omega) ?_
     rw [stepTo,if_pos h1,rowsW_app] at k1
     rw [wrapN (by omega)]
     exact k1
   · rw [stepTo,if_neg (by rw [h1];decide),List.append_nil] at k1
     rw [wrapN (by omega)]
     exact k1
 · refine Eq.mpr (rTo _ _ _ K hs _ me kd hs.length _ pr) ?_
   exact BIf.f (by simp) k1
 · rw [gath_nthH];exact hQ _
def wlTo {β:Type}:WLT β:=fun c tm hp b K=>∃(hs:List HalfS) (q:List WordS) (me kd:Int) (pr:Bool),c= .loop lpTo∧maskTm [1,2,3,9,20,21,22] 0 tm=tmTo hs me kd pr nilA (rowsH hs).length 0∧hp= []∧(hs.length<1000000∧q=toldW hs me kd pr)∧
 ∀i:Int,K (.exit 0) (tmTo hs me kd pr (.own 26 8 (rowsW q)) hs.length i) [] b
theorem wlTo_ok {Ev:Env Tryd.prog} (c:Code) (tm:List AV) (hp:List Blk) (b:Ev.β) (K:Exit→List AV→List Blk→Ev.β→Prop) (h:wlTo c tm hp b K):W Ev c ⟨tm,hp,b⟩ (fun e s=>K e s.tm s.hp s.b):=by
 obtain ⟨hs,_,me,kd,pr,rfl,htm,rfl,⟨hl,rfl⟩,hK⟩:=h
 rw [rowsH_len] at htm
 refine W.cast (htm▸maskTm_le _ tm 0) (Zcy _) ?_
 refine W.cast (tm':=tmTo hs me kd pr (.own 26 8 (rowsW [])) hs.length 0) (LeL.at [_,_,_,_,_,_,_,_,_] _ (LeA.nilOwn rfl)) (Zcy _) ?_
 exact W.rounds (wrTo (Q:=fun e s=>K e s.tm s.hp s.b) hs me kd pr hl hK)
def TTo:List (Nat×(List AV→(AV→Prop)→Prop)):= [(13,cValid),(54,cNode)]
theorem TTo_ok:CallsOk Tryd.prog TTo:=Zan cValid_ok (Zan cNode_ok Zat)
abbrev Qz23 (v0:Int) (v1:Int) (v2:Bool) (v3:List HalfS):=Zam::Zak (i64 v0)::Zak (i64 v1)::Zak (bo v2)::bds 5 (Zak (Dv.s (.slice none 0 0))::bds 10 (Zak (Zbd 6 (rowsH v3))::Zak (i64 ((Zae (rowsH v3):Nat):Int))::Zak (i64 0)::bds 23 []))
theorem told_nf (hs:List HalfS) (me kd:Int) (pr:Bool):wpFn Tryd.prog ⟨TTo, [],wlTo,y,false⟩ 100 Tryd.f41 [.d (.sl 6 (rowsH hs)), .d (i64 me), .d (i64 kd), .d (bo pr)] b R=(∃(hs0:List HalfS) (z1:Bool), [Zak (Zbd 6 (rowsH hs))]= [Zak (Zbd 6 (rowsH hs0))]∧(Zae hs0≤9223372036854775807∧z1=validH hs0)∧BIf (!z1) (R (.d (Dv.s (.slice none 0 0))) b) (∃(n2:Int), [Zak (i64 me)]= [Zak (i64 n2)]∧BIf (!nodeN n2) (R (.d (Dv.s (.slice none 0 0))) b) (∃(hs3:List HalfS) (q4:List WordS) (me5:Int) (kd6:Int) (pr7:Bool),Code.loop lpTo=Code.loop lpTo∧(Qz23 me kd pr hs)=(Qz23 me5 kd6 pr7 hs3)∧([]:List Blk)= []∧(Zae hs3<1000000∧q4=toldW hs3 me5 kd6 pr7)∧∀(i:Int),R (.d (Zbd 8 (rowsW q4))) b))):=by kernel_rfl
def toldS (hs:List HalfS) (me kd:Int) (pr:Bool):List WordS:=if (!validH hs)=true then [] else if (!nodeN me)=true then [] else toldW hs me kd pr
theorem pcTold (hs:List HalfS) (me kd:Int) (pr:Bool) (hl:hs.length<1000000):PCall Tryd.prog 41 [.d (.sl 6 (rowsH hs)), .d (i64 me), .d (i64 kd), .d (bo pr)] (.d (.sl 8 (rowsW (toldS hs me kd pr)))):=by
 refine PCall.ofFnL (n:=100) (u:=false) (fun _=>wlTo) mixed TTo_ok Zap (fun Ev=>wlTo_ok) Tryd.func41 (by rfl) (by rfl) fun Ev bb=> ?_
 rw [told_nf]
 refine ⟨hs,_,rfl,⟨by omega,rfl⟩,Zba (fun h1=> ?_) fun h1=>⟨me,rfl,Zba (fun h2=> ?_) fun h2=>⟨hs,_,me,kd,pr,rfl,rfl,rfl,⟨hl,rfl⟩,fun i=> ?_⟩⟩⟩
 · rw [toldS,if_pos h1];exact .base (LeA.nilSl rfl)
 · rw [toldS,if_neg (by rw [h1];decide),if_pos h2];exact .base (LeA.nilSl rfl)
 · rw [toldS,if_neg (by rw [h1];decide),if_neg (by rw [h2];decide)];exact .base LeA.rfl
def cTold (args:List AV) (K:AV→Prop):Prop:=∃(hs:List HalfS) (q:List WordS) (me kd:Int) (pr:Bool),args= [.d (.sl 6 (rowsH hs)), .d (i64 me), .d (i64 kd), .d (bo pr)]∧(hs.length<1000000∧q=toldS hs me kd pr)∧K (.d (.sl 8 (rowsW q)))
theorem cTold_ok:∀args K,cTold args K→∃x,PCall Tryd.prog 41 args x∧K x:=by
 rintro _ K ⟨hs,_,me,kd,pr,rfl,⟨hl,rfl⟩,hk⟩;exact ⟨_,pcTold hs me kd pr hl,hk⟩
def TWd:List (Nat×(List AV→(AV→Prop)→Prop)):= [(41,cTold)]
theorem TWd_ok:CallsOk Tryd.prog TWd:=Zan cTold_ok Zat
theorem words_nf (hs:List HalfS) (me:Int):wpFn Tryd.prog ⟨TWd, [],wl,y,false⟩ 100 Tryd.f19 [.d (.sl 6 (rowsH hs)), .d (i64 me)] b R=(∃(hs0:List HalfS) (q1:List WordS) (me2:Int) (kd3:Int) (pr4:Bool), [Zak (Zbd 6 (rowsH hs)),Zak (i64 me),Zak (i64 2),Zak (bo false)]= [Zak (Zbd 6 (rowsH hs0)),Zak (i64 me2),Zak (i64 kd3),Zak (bo pr4)]∧(Zae hs0<1000000∧q1=toldS hs0 me2 kd3 pr4)∧R (.d (Zbd 8 (rowsW q1))) b):=by kernel_rfl
theorem proofs_nf (hs:List HalfS) (me:Int):wpFn Tryd.prog ⟨TWd, [],wl,y,false⟩ 100 Tryd.f21 [.d (.sl 6 (rowsH hs)), .d (i64 me)] b R=(∃(hs0:List HalfS) (q1:List WordS) (me2:Int) (kd3:Int) (pr4:Bool), [Zak (Zbd 6 (rowsH hs)),Zak (i64 me),Zak (i64 3),Zak (bo true)]= [Zak (Zbd 6 (rowsH hs0)),Zak (i64 me2),Zak (i64 kd3),Zak (bo pr4)]∧(Zae hs0<1000000∧q1=toldS hs0 me2 kd3 pr4)∧R (.d (Zbd 8 (rowsW q1))) b):=by kernel_rfl
theorem pcWords (hs:List HalfS) (me:Int) (hl:hs.length<1000000):PCall Tryd.prog 19 [.d (.sl 6 (rowsH hs)), .d (i64 me)] (.d (.sl 8 (rowsW (toldS hs me 2 false)))):=by
 refine Zco (n:=100) (u:=false) mixed TWd_ok Zap Tryd.func19 (by rfl) (by rfl) fun Ev bb=> ?_
 rw [words_nf]
 exact ⟨hs,_,me,2,false,rfl,⟨hl,rfl⟩,rfl⟩
theorem pcProofs (hs:List HalfS) (me:Int) (hl:hs.length<1000000):PCall Tryd.prog 21 [.d (.sl 6 (rowsH hs)), .d (i64 me)] (.d (.sl 8 (rowsW (toldS hs me 3 true)))):=by
 refine Zco (n:=100) (u:=false) mixed TWd_ok Zap Tryd.func21 (by rfl) (by rfl) fun Ev bb=> ?_
 rw [proofs_nf]
 exact ⟨hs,_,me,3,true,rfl,⟨hl,rfl⟩,rfl⟩
theorem formedH_nf (h:HalfS):wpFn Tryd.prog ⟨[], [],wl,y,false⟩ 100 Tryd.f37 [halfA h] b R=(BIf (decide (HalfS.st h<(0:Int))) (R (.d (bo false)) b) (BIf (decide (HalfS.st h>(59:Int))) (R (.d (bo false)) b) (BIf (decide (HalfS.no h<(0:Int))) (R (.d (bo false)) b) (BIf (decide (HalfS.no h>(1000000000:Int))) (R (.d (bo false)) b) (BIf (decide (HalfS.ch h<(0:Int))) (R (.d (bo false)) b) (BIf (decide (HalfS.ch h>(1000000000:Int))) (R (.d (bo false)) b) (BIf (decide (HalfS.un h≥(0:Int))) (BIf (decide (HalfS.un h≤(1000000000:Int))) (BIf (decide (HalfS.ke h≥(0:Int))) (BIf (decide (HalfS.ke h≤(2000000:Int))) (BIf (HalfS.ke h==(0:Int)) (R (.d (bo true)) b) (R (.d (bo (HalfS.pr h))) b)) (R (.d (bo false)) b)) (R (.d (bo false)) b)) (R (.d (bo false)) b)) (R (.d (bo false)) b)))))))):=by kernel_rfl
theorem pcFormedH (h:HalfS):PCall Tryd.prog 37 [halfA h] (.d (bo (halfOk h))):=by
 refine Zco (n:=100) (u:=false) mixed Zat Zap Tryd.func37 (by rfl) (by rfl) fun Ev bb=> ?_
 rw [formedH_nf]
 have key:∀z:Bool,(z=halfOk h)→Zak (bo z)=Zak (bo (halfOk h)):=by rintro _ rfl;rfl
 refine Zba (fun h1=>key _ ?_) fun h1=>Zba (fun h2=>key _ ?_) fun h2=>Zba (fun h3=>key _ ?_) fun h3=>Zba (fun h4=>key _ ?_) fun h4=>Zba (fun h5=>key _ ?_) fun h5=>Zba (fun h6=>key _ ?_) fun h6=>Zba (fun h7=>Zba (fun h8=>Zba (fun h9=>Zba (fun h10=>Zba (fun h11=>key _ ?_) fun h11=>key _ ?_) fun h10=>key _ ?_) fun h9=>key _ ?_) fun h8=>key _ ?_) fun h7=>key _ ?_
 all_goals
   simp only [decide_eq_true_eq,decide_eq_false_iff_not,beq_iff_eq,beq_eq_false_iff_ne] at*
   rw [Bool.eq_iff_iff]
   simp only [halfOk,nodeN,inN,Zag,Bool.or_eq_true,decide_eq_true_eq,beq_iff_eq,Zcc,false_iff,true_iff,iff_true]
   cases h.pr<;>simp only [Zcc,false_or,true_or,and_true,false_iff,true_iff]<;>omega
def cFormedH (args:List AV) (K:AV→Prop):Prop:=∃(h:HalfS) (z:Bool),args= [halfA h]∧z=halfOk h∧K (.d (bo z))
theorem cFormedH_ok:∀args K,cFormedH args K→∃x,PCall Tryd.prog 37 args x∧K x:=by
 rintro _ K ⟨h,_,rfl,rfl,hk⟩;exact ⟨_,pcFormedH h,hk⟩
noncomputable def lpVr:Code:=sub [1,0,1,2,3] (code Tryd.f14)
def tmVr (hs:List HalfS) (z:Bool) (i:Int):List AV:= [.d (.sl 6 (rowsH hs)), .bad, .d (bo z), .d (i64 i)]++Zao 35 .bad
def TVr:List (Nat×(List AV→(AV→Prop)→Prop)):= [(37,cFormedH)]
theorem TVr_ok:CallsOk Tryd.prog TVr:=Zan cFormedH_ok Zat
noncomputable def lpOf:Code:=sub [1,0,1,2,3] (code Tryd.f23)
def tmOf (hs:List HalfS) (k:Int) (z:Bool) (i:Int):List AV:= [.d (.sl 6 (rowsH hs)), .d (i64 k), .bad, .bad, .ptr 0 0, .d (bo z), .d (i64 i)]++Zao 18 .bad
def halfB (h:HalfS):Blk:=⟨[.d (i64 h.st), .d (i64 h.no), .d (i64 h.ch), .d (i64 h.un), .d (bo h.pr), .d (i64 h.ke)],false,false,0⟩
abbrev Qz25 (v0:List HalfS) (v1:Int):=Zak (Zbd 6 (rowsH v0))::Zam::Zak (bo false)::Zak (i64 v1)::bds 35 []
theorem rVr (hs:List HalfS) (i:Int):wpc Tryd.prog ⟨TVr, [],wl,y,false⟩ 100 lpVr (tmVr hs false i) [] b (maskK 0 [0,2,3] K)=(BIf (decide (i<((Zae (rowsH hs):Nat):Int))) (BIf (true&&decide (0≤i)) (∃(x0:Int) (x1:Int) (x2:Int) (x3:Int) (b4:Bool) (x5:Int),(rowsH hs)[Zbb i]? =some (Qz12 x0 x1 x2 x3 b4 x5)∧∃(h8:HalfS) (z9:Bool), [Zbv (Qz14 x0 x1 x2 x3 b4 x5)]= [Zbv (Qz2 h8)]∧z9=halfOk h8∧BIf (!z9) (K .ret (Qz25 hs i) [] b) (BIf (decide (i>(0:Int))) (BIf (true&&decide ((0:Int)≤Zad .i64 (i - 1))) (∃(x10:Int) (x11:Int) (x12:Int) (x13:Int) (b14:Bool) (x15:Int),(rowsH hs)[Zbb (Zad .i64 (i - 1))]? =some (Qz12 x10 x11 x12 x13 b14 x15)∧BIf (true&&decide (0≤i)) (∃(x18:Int) (x19:Int) (x20:Int) (x21:Int) (b22:Bool) (x23:Int),(rowsH hs)[Zbb i]? =some (Qz12 x18 x19 x20 x21 b22 x23)∧BIf (decide (x10≥x18)) (K .ret (Qz25 hs i) [] b) (K .normal (Zak (Zbd 6 (rowsH hs))::Zam::Zak (bo false)::Zak (i64 (Zad .i64 (i+1)))::bds 35 []) [] b)) False) False) (K .normal (Zak (Zbd 6 (rowsH hs))::Zam::Zak (bo false)::Zak (i64 (Zad .i64 (i+1)))::bds 35 []) [] b))) False) (K (Exit.exit 0) (Qz25 hs i) [] b)):=by kernel_rfl
abbrev Qz15:List AV:= [Zak (i64 0),Zak (i64 0),Zak (i64 0),Zak (i64 0),Zak (bo false),Zak (i64 0)]
theorem rOf (hs:List HalfS) (k i:Int):wpc Tryd.prog ⟨[], [],wl,y,false⟩ 100 lpOf (tmOf hs k false i) [halfB zeroH] b (maskK 1 [0,1,4,5,6] K)=(BIf (decide (i<((Zae (rowsH hs):Nat):Int))) (BIf (true&&decide (0≤i)) (∃(x0:Int) (x1:Int) (x2:Int) (x3:Int) (b4:Bool) (x5:Int),(rowsH hs)[Zbb i]? =some (Qz12 x0 x1 x2 x3 b4 x5)∧BIf (x0==k) (BIf (true&&decide (0≤i)) (∃(x8:Int) (x9:Int) (x10:Int) (x11:Int) (b12:Bool) (x13:Int),(rowsH hs)[Zbb i]? =some (Qz12 x8 x9 x10 x11 b12 x13)∧K .ret (Zak (Zbd 6 (rowsH hs))::Zak (i64 k)::Zam::Zam::Zci 0 0::Zak (bo true)::Zak (i64 i)::bds 18 []) [Blk.mk (Qz14 x8 x9 x10 x11 b12 x13) false false 0] b) False) (K .normal (Zak (Zbd 6 (rowsH hs))::Zak (i64 k)::Zam::Zam::Zci 0 0::Zak (bo false)::Zak (i64 (Zad .i64 (i+1)))::bds 18 []) [Blk.mk Qz15 false false 0] b)) False) (K (Exit.exit 0) (Zak (Zbd 6 (rowsH hs))::Zak (i64 k)::Zam::Zam::Zci 0 0::Zak (bo false)::Zak (i64 i)::bds 18 []) [Blk.mk Qz15 false false 0] b)):=by kernel_rfl
theorem wrVr {Ev:Env Tryd.prog} {b:Ev.β} {Q:Exit→St Ev.β→Prop} (hs:List HalfS) (hl:hs.length≤9223372036854775807) (h1:(Zay hs.length).any (badAt hs)=false→∀i:Int,Q (.exit 0) ⟨tmVr hs false i, [],b⟩)
   (h2:(Zay hs.length).any (badAt hs)=true→∀i:Int,Q .ret ⟨tmVr hs false i, [],b⟩):WR Ev lpVr (hs.length+1) ⟨tmVr hs false (0:Nat), [],b⟩ Q:=by
 refine WR.scanK (X:=⟨TVr, [],wlW Ev,Ev.Y,false⟩) (k:=100) [0,2,3] mixed (CX.Ok.of TVr_ok Zap) hs.length (badAt hs) (fun i=>tmVr hs false (i:Nat)) (fun i=>tmVr hs false (i:Nat)) [] 0 (fun i hi K k1 k2=> ?_) (fun K k1=> ?_) (fun h=>h1 h _) fun h i=>h2 h i
 · refine Eq.mpr (rVr _ _ _ K hs i) ?_
   rw [rowsH_len,Zcb,rowsH_at hi]
   refine Zca (by simp<;>omega) (Zca (by simp) ⟨_,_,_,_,_,_,rfl,nthH hs i,_,rfl,rfl, ?_⟩)
   refine Zba (fun g=>k1 (by rw [badAt,g];rfl)) fun g=>Zba (fun g2=> ?_) fun g2=> ?_
   · have h0:0<i:=by have:=of_decide_eq_true g2;omega
     rw [wrapP (by omega) h0,rowsH_at (by omega:i - 1<hs.length)]
     refine Zca (by simp [wrapQ (by omega:i<9223372036854775807) h0]) ⟨_,_,_,_,_,_,rfl,Zca (by simp) ⟨_,_,_,_,_,_,rfl,Zba (fun g3=>k1 (by rw [badAt,g,g2];exact g3)) fun g3=> ?_⟩⟩
     rw [wrapN (by omega)]
     exact k2 (by rw [badAt,g,g2];exact g3)
   · rw [wrapN (by omega)]
     exact k2 (by rw [badAt,g,g2];rfl)
 · refine Eq.mpr (rVr _ _ _ K hs _) ?_
   rw [rowsH_len]
   exact BIf.f (by simp) k1
theorem getH_not {k:Int} {hs:List HalfS} (h:hasH k hs=false):getH k hs=zeroH:=by
 have:hs.find? (fun h=>h.st==k)=none:=by
   rw [List.find?_eq_none]
   intro x hx
   simp only [hasH,List.any_eq_false] at h
   exact h x hx
 rw [getH,this];rfl
theorem getH_cons (k:Int) (h:HalfS) (r:List HalfS):getH k (h::r)=if (h.st==k)=true then h else getH k r:=by
 simp only [getH,List.find?_cons]
 cases h.st==k<;>rfl
theorem hasH_cons (k:Int) (h:HalfS) (r:List HalfS):hasH k (h::r)=(h.st==k||hasH k r):=rfl
theorem wrOf {Ev:Env Tryd.prog} {b:Ev.β} {Q:Exit→St Ev.β→Prop} (hs:List HalfS) (k:Int) (hl:hs.length≤9223372036854775807) (hQ1:hasH k hs=false→∀i:Int,Q (.exit 0) ⟨tmOf hs k false i, [halfB zeroH],b⟩)
   (hQ2:hasH k hs=true→∀i:Int,Q .ret ⟨tmOf hs k true i, [halfB (getH k hs)],b⟩):∀(rest:List HalfS) (i:Nat),hs.drop i=rest→i≤hs.length→getH k hs=getH k rest→hasH k hs=hasH k rest→
   WR Ev lpOf (rest.length+1) ⟨tmOf hs k false i, [halfB zeroH],b⟩ Q
 | [],i,hd,hi,hg,hh=>by
   refine Zcq [0,1,4,5,6] mixed (CX.Ok.of (u:=false) Zat Zap) (k:=100) ?_
   refine Eq.mpr (rOf _ _ _ _ hs k i) ?_
   have:=List.drop_eq_nil_iff.1 hd
   rw [rowsH_len]
   exact BIf.f (by simp;omega) (hQ1 hh _)
 | h::rest,i,hd,hi,hg,hh=>by
   refine Zcq [0,1,4,5,6] mixed (CX.Ok.of (u:=false) Zat Zap) (k:=100) ?_
   refine Eq.mpr (rOf _ _ _ _ hs k i) ?_
   obtain ⟨hi',hh',hd'⟩:=nthH_drop hd
   rw [rowsH_len,Zcb,rowsH_at hi']
   rw [getH_cons] at hg
   rw [hasH_cons] at hh
   rw [←hh'] at hg hh
   refine Zca (by simp;omega) (Zca (by simp) ⟨_,_,_,_,_,_,rfl,Zba (fun h1=>Zca (by simp) ⟨_,_,_,_,_,_,rfl, ?_⟩) fun h1=> ?_⟩)
   · rw [if_pos h1] at hg
     rw [h1] at hh
     have:=hQ2 hh i
     rw [hg] at this
     exact this
   · rw [if_neg (by rw [h1];decide)] at hg
     rw [h1] at hh
     rw [wrapN (by omega)]
     exact wrOf hs k hl hQ1 hQ2 rest (i+1) hd' hi' hg hh
def wlOf {β:Type}:WLT β:=fun t tm hp b K=>∃(hs:List HalfS) (k:Int) (z:Bool) (h:HalfS),t= .loop lpOf∧maskTm [0,1,4,5,6] 0 tm=tmOf hs k false 0∧hp= [halfB zeroH]∧(hs.length≤9223372036854775807∧z=hasH k hs∧h=getH k hs)∧
 BIf z (∀i:Int,K .ret (tmOf hs k true i) [halfB h] b) (∀i:Int,K (.exit 0) (tmOf hs k false i) [halfB zeroH] b)
theorem wlOf_ok {Ev:Env Tryd.prog} (c:Code) (tm:List AV) (hp:List Blk) (b:Ev.β) (K:Exit→List AV→List Blk→Ev.β→Prop) (h:wlOf c tm hp b K):W Ev c ⟨tm,hp,b⟩ (fun e s=>K e s.tm s.hp s.b):=by
 obtain ⟨hs,k,z,h,rfl,htm,rfl,⟨hl,hz,rfl⟩,hK⟩:=h
 refine W.cast (htm▸maskTm_le _ tm 0) (Zcy _) ?_
 exact W.rounds (wrOf (Q:=fun e s=>K e s.tm s.hp s.b) hs k hl (fun h=>by rw [hz,h] at hK;exact hK) (fun h=>by rw [hz,h] at hK;exact hK) hs 0 rfl (Nat.zero_le _) rfl rfl)
abbrev Qz29 (v0:List HalfS) (v1:Int):=Zak (Zbd 6 (rowsH v0))::Zak (i64 v1)::Zam::Zam::Zci 0 0::Zak (bo false)::Zak (i64 0)::bds 18 []
theorem of_nf (hs:List HalfS) (k:Int):wpFn Tryd.prog ⟨[], [],wlOf,y,false⟩ 100 Tryd.f23 [.d (.sl 6 (rowsH hs)), .d (i64 k)] b R=(∃(hs0:List HalfS) (k1:Int) (z2:Bool) (h3:HalfS),Code.loop lpOf=Code.loop lpOf∧(Qz29 hs k)=(Qz29 hs0 k1)∧ [Blk.mk Qz15 false false 0]= [Blk.mk Qz15 false false 0]∧(Zae hs0≤9223372036854775807∧z2=hasH k1 hs0∧h3=getH k1 hs0)∧BIf z2 (∀(i:Int),R (.tup [Zbv (Qz2 h3),Zak (bo true)]) b) (∀(i:Int),R (.tup [Zbv Qz15,Zak (bo false)]) b)):=by kernel_rfl
theorem pcOf (hs:List HalfS) (k:Int) (hl:hs.length≤9223372036854775807):PCall Tryd.prog 23 [.d (.sl 6 (rowsH hs)), .d (i64 k)] (.tup [halfA (getH k hs), .d (bo (hasH k hs))]):=by
 refine PCall.ofFnW (n:=100) (u:=false) (fun _=>wlOf) mixed Zat Zap (fun Ev=>wlOf_ok) Tryd.func23 (by rfl) (by rfl) fun Ev bb=> ?_
 rw [of_nf]
 refine ⟨hs,k,_,_,rfl,rfl,rfl,⟨hl,rfl,rfl⟩,Zba (fun h i=> ?_) fun h i=> ?_⟩
 · rw [h];rfl
 · rw [getH_not h,h];rfl
def cOf (args:List AV) (K:AV→Prop):Prop:=∃(hs:List HalfS) (k:Int) (h:HalfS) (z:Bool),args= [.d (.sl 6 (rowsH hs)), .d (i64 k)]∧(hs.length≤9223372036854775807∧h=getH k hs∧z=hasH k hs)∧K (.tup [halfA h, .d (bo z)])
theorem cOf_ok:∀args K,cOf args K→∃x,PCall Tryd.prog 23 args x∧K x:=by
 rintro _ K ⟨hs,k,_,_,rfl,⟨hl,rfl,rfl⟩,hk⟩;exact ⟨_,pcOf hs k hl,hk⟩
def stepKi (kd:Int) (w:WordS):List WordS:=if (w.ki==kd)=true then [w] else []
def kindS (ws:List WordS) (kd:Int):List WordS:=ws.flatMap (stepKi kd)
def tellW (me:Int) (h:HalfS):WordS:=if h.pr=true then ⟨3,h.st,me,h.no,h.ch,h.ke,0,0⟩ else ⟨2,h.st,me,h.no,h.ch,0,0,0⟩
def okTr (v:Bool) (me:Int):Bool:=v&&(decide (me≥0)&&decide (me≤59))
def tellS (hs:List HalfS) (me:Int) (v:Bool):List WordS:=if okTr v me=true then hs.map (tellW me) else []
def tellR (hs:List HalfS) (me:Int):List WordS:=tellS hs me (validH hs)
noncomputable def lpSa:Code:=sub [1,1,0,1,2,3] (code Tryd.f15)
def tmSa (a c:List HalfS) (z:Bool) (i:Int):List AV:= [.d (.sl 6 (rowsH a)), .d (.sl 6 (rowsH c)), .bad, .bad, .d (bo z), .d (i64 i)]++Zao 20 .bad
theorem rSa (a c:List HalfS) (i:Int):wpc Tryd.prog ⟨[], [],wl,y,false⟩ 100 lpSa (tmSa a c false i) [] b (maskK 0 [0,1,4,5] K)=(BIf (decide (i<((Zae (rowsH a):Nat):Int))) (BIf (true&&decide (0≤i)) (∃(x0:Int) (x1:Int) (x2:Int) (x3:Int) (b4:Bool) (x5:Int),(rowsH a)[Zbb i]? =some (Qz12 x0 x1 x2 x3 b4 x5)∧BIf (true&&decide (0≤i)) (∃(x8:Int) (x9:Int) (x10:Int) (x11:Int) (b12:Bool) (x13:Int),(rowsH c)[Zbb i]? =some (Qz12 x8 x9 x10 x11 b12 x13)∧BIf (!(x0==x8&&(x1==x9&&(x2==x10&&(x3==x11&&(b4==b12&&(x5==x13&&true))))))) (K .ret (Zak (Zbd 6 (rowsH a))::Zak (Zbd 6 (rowsH c))::Zam::Zam::Zak (bo false)::Zak (i64 i)::bds 20 []) [] b) (K .normal (Zak (Zbd 6 (rowsH a))::Zak (Zbd 6 (rowsH c))::Zam::Zam::Zak (bo false)::Zak (i64 (Zad .i64 (i+1)))::bds 20 []) [] b)) False) False) (K (Exit.exit 0) (Zak (Zbd 6 (rowsH a))::Zak (Zbd 6 (rowsH c))::Zam::Zam::Zak (bo false)::Zak (i64 i)::bds 20 []) [] b)):=by kernel_rfl
def SortH (l:List HalfS):Prop:=l.Pairwise fun a b=>a.st<b.st
theorem insH_sort {h:HalfS}:∀ {l:List HalfS},SortH l→(∀x∈l,x.st≠h.st)→SortH (insH h l)
 | [],_,_=>List.pairwise_singleton _ _
 | y::r,hl,hn=>by
   obtain ⟨hy,hr⟩:=List.pairwise_cons.1 hl
   simp only [insH]
   split
   · rename_i hlt
     refine List.pairwise_cons.2 ⟨fun x hx=> ?_,hl⟩
     rcases List.mem_cons.1 hx with rfl|hx
     · exact hlt
     · have:=hy x hx;omega
   · rename_i hlt
     refine List.pairwise_cons.2 ⟨fun x hx=> ?_,insH_sort hr fun x hx=>hn x (List.mem_cons_of_mem _ hx)⟩
     rcases mem_insH.1 hx with rfl|hx
     · have:=hn y (by simp);omega
     · exact hy x hx
theorem putH_sort {h:HalfS} {l:List HalfS} (hl:SortH l):SortH (putH h l):=
 insH_sort (hl.sublist List.filter_sublist) fun x hx=>by simpa using (List.mem_filter.1 hx).2
theorem valid_sort {hs:List HalfS} (hv:validH hs=true):SortH hs:=by
 simp only [validH,Zag,Bool.not_eq_true',List.any_eq_false,List.mem_range] at hv
 have hstep:∀i,i+1<hs.length→(nthH hs i).st<(nthH hs (i+1)).st:=by
   intro i hi
   have:=hv.1 (i+1) hi
   simp only [badAt,Bool.or_eq_true,Zag,decide_eq_true_eq,not_or,not_and] at this
   have h1:=this.2 (by omega)
   simp only [Nat.add_sub_cancel] at h1
   omega
 have hmono:∀(d i:Nat),i+d+1<hs.length→(nthH hs i).st<(nthH hs (i+d+1)).st:=by
   intro d
   induction d with
   |zero=>intro i hi;exact hstep i hi
   | succ d ih=>
     intro i hi
     have h1:=ih i (by omega)
     have h2:=hstep (i+d+1) (by omega)
     have e:i+(d+1)+1=i+d+1+1:=by omega
     rw [e];omega
 refine List.pairwise_iff_getElem.2 fun i j hi hj hij=> ?_
 have:=hmono (j - i - 1) i (by omega)
 have e:i+(j - i - 1)+1=j:=by omega
 rw [e] at this
 simpa [nthH,hi,hj] using this
theorem insH_last {h:HalfS}:∀ {l:List HalfS},(∀x∈l,x.st<h.st)→insH h l=l++ [h]
 | [],_=>rfl
 | y::r,hn=>by
   have:=hn y (by simp)
   simp only [insH]
   rw [if_neg (by omega),insH_last fun x hx=>hn x (List.mem_cons_of_mem _ hx)];rfl
theorem putH_last {h:HalfS} {l:List HalfS} (hn:∀x∈l,x.st<h.st):putH h l=l++ [h]:=by
 have e:l.filter (fun x=> !(x.st==h.st))=l:=List.filter_eq_self.2 fun x hx=>by have:=hn x hx;simp;omega
 rw [putH,e,insH_last hn]
theorem tab_sort {hs:List HalfS} (h:SortH hs):tabH hs=hs:=by
 have key:∀(l t:List HalfS),SortH (t++l)→l.foldl (fun t h=>putH h t) t=t++l:=by
   intro l
   induction l with
   |nil=>intro t _;simp
   | cons x r ih=>
     intro t ht
     have h1:putH x t=t++ [x]:=putH_last fun y hy=>(List.pairwise_append.1 ht).2.2 y hy x (by simp)
     rw [List.foldl_cons,h1,ih (t++ [x]) (by simpa using ht)]
     simp
 simpa [tabH] using key hs [] (by simpa using h)
theorem getH_self {l:List HalfS} (hl:SortH l) {x:HalfS} (hx:x∈l):getH x.st l=x:=by
 induction l with
 |nil=>cases hx
 | cons y r ih=>
   obtain ⟨hy,hr⟩:=List.pairwise_cons.1 hl
   rw [getH_cons]
   rcases List.mem_cons.1 hx with rfl|hx
   · rw [if_pos (by simp)]
   · have:=hy x hx
     rw [if_neg (by simp;omega)]
     exact ih hr hx
theorem list_sort {l:List HalfS} (hl:SortH l):listS l=l:=by
 have e:sortK (entH l)=l.map HalfS.st:=by
   have e1:(entH l).map (fun p=>Go.intOf p.1)=l.map HalfS.st:=by simp [entH,Function.comp_def,Go.intOf]
   rw [sortK,e1]
   refine List.mergeSort_of_pairwise (List.pairwise_map.2 (hl.imp fun {a b} h=> ?_))
   simp only [leI,decide_eq_true_eq];omega
 rw [listS,getsH,e,List.map_map]
 have:∀x∈l,((fun k=>getH k l) ∘ HalfS.st) x=id x:=fun x hx=>getH_self hl hx
 rw [List.map_congr_left this,List.map_id]
theorem hasH_iff {k:Int} {l:List HalfS}:hasH k l=true↔∃x∈l,x.st=k:=by simp [hasH]
def handV (hs:List HalfS) (w:WordS) (fr:Int):List HalfS×Int:=
 if (1 !=w.ki)=true then (if (3 !=w.ki)=true then ([],9) else if ((provedS hs w).1 !=0)=true then ([],(provedS hs w).1) else ((provedS hs w).2,0))
 else if ((askedS hs fr w).1 !=0)=true then ([],(askedS hs fr w).1) else ((askedS hs fr w).2,0)
def hearV (hs:List HalfS) (me:Int) (w:WordS) (fr:Int):List HalfS×Int:=
 if (!validH hs)=true then ([],1) else if (!isWordS w)=true then ([],1) else if (w.sp !=me)=true then ([],1) else if (!inN w.ke 2000000)=true then ([],1) else if (!inN fr 999999988)=true then ([],1) else handV hs w fr
theorem askedS_sort {hs:List HalfS} {fr:Int} {w:WordS} (h:SortH hs):SortH (askedS hs fr w).2:=by
 unfold askedS
 repeat' split
 all_goals first|exact h|exact putH_sort h
theorem provedS_sort {hs:List HalfS} {w:WordS} (h:SortH hs):SortH (provedS hs w).2:=by
 unfold provedS
 simp only
 repeat' split
 all_goals first|exact h|exact putH_sort h
theorem hear_eq (hs:List HalfS) (me:Int) (w:WordS) (fr:Int):hearS hs me w fr=hearV hs me w fr:=by
 unfold hearS hearV handV
 cases hv:validH hs with
 |false=>rfl
 | true=>
   have hs1:=valid_sort hv
   rw [tab_sort hs1,list_sort (provedS_sort hs1),list_sort (askedS_sort hs1)]
theorem isWord_eq (w:WordS):isWordS w=formedW w:=by
 cases hf:formedW w with
 |false=>simp [isWordS,judgeS,hf]
 | true=>
   simp only [isWordS,judgeS,hf,Bool.not_true,Zcc,if_false]
   rw [if_neg (by decide),if_neg (by decide),if_neg (by decide)]
   repeat' split
   all_goals rfl
theorem pcHearV (hs:List HalfS) (me fr:Int) (w:WordS) (hl:hs.length≤9223372036854775807):PCall Tryd.prog 11 [.d (.sl 6 (rowsH hs)), .d (i64 me),wordA w, .d (i64 fr)] (.tup [.d (.sl 6 (rowsH (hearV hs me w fr).1)), .d (i64 (hearV hs me w fr).2)]):=by
 have:=pcHear hs me fr w hl
 rwa [hear_eq] at this
def cHearV (args:List AV) (K:AV→Prop):Prop:=∃(hs q:List HalfS) (me fr e:Int) (w:WordS),args= [.d (.sl 6 (rowsH hs)), .d (i64 me),wordA w, .d (i64 fr)]∧(hs.length≤9223372036854775807∧q=(hearV hs me w fr).1∧e=(hearV hs me w fr).2)∧K (.tup [.d (.sl 6 (rowsH q)), .d (i64 e)])
theorem cHearV_ok:∀args K,cHearV args K→∃x,PCall Tryd.prog 11 args x∧K x:=by
 rintro _ K ⟨hs,_,me,fr,_,w,rfl,⟨hl,rfl,rfl⟩,hk⟩;exact ⟨_,pcHearV hs me fr w hl,hk⟩
theorem any_neG {α:Type} [DecidableEq α] (d:α) {a c:List α} (hl:a.length=c.length):(Zay a.length).any (fun i=> !decide (a.getD i d=c.getD i d))= !decide (a=c):=by
 rw [Bool.eq_iff_iff]
 simp only [List.any_eq_true,List.mem_range,Bool.not_eq_true',decide_eq_false_iff_not]
 constructor
 · rintro ⟨i,hi,h⟩ rfl;exact h rfl
 · intro h
   apply Classical.byContradiction
   intro hn
   refine h (List.ext_getElem hl fun i h1 h2=> ?_)
   have:=Classical.not_not.1 fun h3=>hn ⟨i,h1,h3⟩
   simpa [h1,h2] using this
theorem eqH (x y:HalfS):(x.st==y.st&&(x.no==y.no&&(x.ch==y.ch&&(x.un==y.un&&(x.pr==y.pr&&(x.ke==y.ke&&true))))))=decide (x=y):=by
 cases x;cases y
 rw [Bool.eq_iff_iff]
 simp
theorem wrSa {Ev:Env Tryd.prog} {b:Ev.β} {Q:Exit→St Ev.β→Prop} (a c:List HalfS) (hl:a.length=c.length) (hb:a.length<1000000) (h1:a=c→∀i:Int,Q (.exit 0) ⟨tmSa a c false i, [],b⟩) (h2:a≠c→∀i:Int,Q .ret ⟨tmSa a c false i, [],b⟩):
   WR Ev lpSa (a.length+1) ⟨tmSa a c false (0:Nat), [],b⟩ Q:=by
 refine WR.scanK (X:=⟨[], [],wlW Ev,Ev.Y,false⟩) (k:=100) [0,1,4,5] mixed (CX.Ok.of Zat Zap) a.length (fun i=> !decide (nthH a i=nthH c i)) (fun i=>tmSa a c false (i:Nat)) (fun i=>tmSa a c false (i:Nat)) [] 0 (fun i hi K k1 k2=> ?_) (fun K k1=> ?_) (fun h=>h1 ?_ _) fun h i=>h2 ?_ i
 · refine Eq.mpr (rSa _ _ _ K a c i) ?_
   rw [rowsH_len,Zcb,rowsH_at hi,rowsH_at (by omega:i<c.length)]
   refine Zca (by simp;omega) (Zca (by simp) ⟨_,_,_,_,_,_,rfl,Zca (by simp) ⟨_,_,_,_,_,_,rfl, ?_⟩⟩)
   rw [show ((nthH a i).st==(nthH c i).st&&((nthH a i).no==(nthH c i).no&&((nthH a i).ch==(nthH c i).ch&&((nthH a i).un==(nthH c i).un&&((nthH a i).pr==(nthH c i).pr&&((nthH a i).ke==(nthH c i).ke&&true))))))=decide (nthH a i=nthH c i) from eqH _ _]
   refine Zba (fun g=>k1 g) fun g=> ?_
   rw [wrapN (by omega)]
   exact k2 g
 · refine Eq.mpr (rSa _ _ _ K a c _) ?_
   rw [rowsH_len]
   exact BIf.f (by simp) k1
 · have:=any_neG zeroH hl
   unfold nthH at h
   rw [this] at h;simpa using h
 · have:=any_neG zeroH hl
   unfold nthH at h
   rw [this] at h;simpa using h
def wlSa {β:Type}:WLT β:=fun t tm hp b K=>∃(a c:List HalfS) (z:Bool),t= .loop lpSa∧maskTm [0,1,4,5] 0 tm=tmSa a c false 0∧hp= []∧(a.length=c.length∧a.length<1000000∧z=decide (a=c))∧BIf z (∀i:Int,K (.exit 0) (tmSa a c false i) [] b) (∀i:Int,K .ret (tmSa a c false i) [] b)
theorem wlSa_ok {Ev:Env Tryd.prog} (c:Code) (tm:List AV) (hp:List Blk) (b:Ev.β) (K:Exit→List AV→List Blk→Ev.β→Prop) (h:wlSa c tm hp b K):W Ev c ⟨tm,hp,b⟩ (fun e s=>K e s.tm s.hp s.b):=by
 obtain ⟨a,d,z,rfl,htm,rfl,⟨hl,hb,hz⟩,hK⟩:=h
 refine W.cast (htm▸maskTm_le _ tm 0) (Zcy _) ?_
 exact W.rounds (wrSa (Q:=fun e s=>K e s.tm s.hp s.b) a d hl hb (fun h=>by rw [hz,decide_eq_true h] at hK;exact hK) fun h=>by rw [hz,decide_eq_false h] at hK;exact hK)
abbrev Qz30 (v0:List HalfS) (v1:List HalfS):=Zak (Zbd 6 (rowsH v0))::Zak (Zbd 6 (rowsH v1))::Zam::Zam::Zak (bo false)::Zak (i64 0)::bds 20 []
theorem Sa_nf (a c:List HalfS):wpFn Tryd.prog ⟨[], [],wlSa,y,false⟩ 100 Tryd.f15 [.d (.sl 6 (rowsH a)), .d (.sl 6 (rowsH c))] b R=(BIf (((Zae (rowsH a):Nat):Int) !=((Zae (rowsH c):Nat):Int)) (R (.d (bo false)) b) (∃(a0:List HalfS) (c1:List HalfS) (z2:Bool),Code.loop lpSa=Code.loop lpSa∧(Qz30 a c)=(Qz30 a0 c1)∧([]:List Blk)= []∧(Zae a0=Zae c1∧Zae a0<1000000∧z2=decide (a0=c1))∧BIf z2 (∀(i:Int),R (.d (bo true)) b) (∀(i:Int),R (.d (bo false)) b))):=by kernel_rfl
theorem pcSame (a c:List HalfS) (ha:a.length<1000000):PCall Tryd.prog 15 [.d (.sl 6 (rowsH a)), .d (.sl 6 (rowsH c))] (.d (bo (decide (a=c)))):=by
 refine PCall.ofFnW (n:=100) (u:=false) (fun _=>wlSa) mixed Zat Zap (fun Ev=>wlSa_ok) Tryd.func15 (by rfl) (by rfl) fun Ev bb=> ?_
 rw [Sa_nf,rowsH_len,rowsH_len]
 refine Zba (fun g=> ?_) fun g=>⟨a,c,_,rfl,rfl,rfl,⟨by simp at g;omega,ha,rfl⟩,Zba (fun h i=>by rw [h]) fun h i=>by rw [h]⟩
 have:a≠c:=fun e=>by rw [e] at g;simp at g
 rw [decide_eq_false this]
theorem lask_nf (st no:Int):wpFn Tryd.prog ⟨[], [],wl,y,false⟩ 100 Tryd.f27 [.d (i64 st), .d (i64 no)] b R=(R (.agg [Zak (i64 1),Zak (i64 st),Zak (i64 2),Zak (i64 no),Zak (i64 0),Zak (i64 0),Zak (i64 0),Zak (i64 0)]) b):=by kernel_rfl
theorem pcAskL (st no:Int):PCall Tryd.prog 27 [.d (i64 st), .d (i64 no)] (wordA ⟨1,st,2,no,0,0,0,0⟩):=by
 refine Zco (n:=100) (u:=false) mixed Zat Zap Tryd.func27 (by rfl) (by rfl) fun Ev bb=> ?_
 rw [lask_nf];rfl
set_option maxRecDepth 100000
def asH:List Dv→Option HalfS
 | [.s (.int .i64 a), .s (.int .i64 b), .s (.int .i64 c), .s (.int .i64 d), .s (.bool p), .s (.int .i64 e)]=>some ⟨a,b,c,d,p,e⟩
 |_=>none
def asHs:List (List Dv)→Option (List HalfS)
 | []=>some []
 | r::rs=>match asH r,asHs rs with
   |some h,some hs=>some (h::hs)
   |_,_=>none
theorem asH_ok {r:List Dv} {h:HalfS} (e:asH r=some h):r=halfR h:=by
 unfold asH at e
 split at e
 · cases e;rfl
 · cases e
theorem asHs_ok:∀ {rs:List (List Dv)} {hs:List HalfS},asHs rs=some hs→rs=rowsH hs
 | [],hs,e=>by cases e;rfl
 | r::rs,hs,e=>by
   simp only [asHs] at e
   split at e
   · rename_i h hs' h1 h2
     cases e
     rw [asH_ok h1,asHs_ok h2];rfl
   · cases e
def asL:AV→Option (List HalfS)
 | .d (.sl 6 rs)=>asHs rs
 | .full 6 rs=>asHs rs
 | .d (.s (.slice none 0 0))=>some []
 |_=>none
theorem asL_ok {x:AV} {hs:List HalfS} (e:asL x=some hs):LeV x (.d (.sl 6 (rowsH hs))):=by
 unfold asL at e
 split at e
 · rw [asHs_ok e];exact .rfl
 · rw [asHs_ok e];exact .full
 · cases e;exact .nil rfl
 · cases e
def asW:AV→Option WordS
 | .agg [.d (.s (.int .i64 a)), .d (.s (.int .i64 b)), .d (.s (.int .i64 c)), .d (.s (.int .i64 d)), .d (.s (.int .i64 e)), .d (.s (.int .i64 f)), .d (.s (.int .i64 g)), .d (.s (.int .i64 h))]=>some ⟨a,b,c,d,e,f,g,h⟩
 |_=>none
theorem asW_ok {x:AV} {w:WordS} (e:asW x=some w):x=wordA w:=by
 unfold asW at e
 split at e
 · cases e;rfl
 · cases e
structure Small (n:Nat):Prop where
 lt:n<1000000
structure IsP (a b:List HalfS×Int):Prop where
 eq:a=b
structure IsH (a b:List HalfS):Prop where
 eq:a=b
structure IsW (a b:List WordS):Prop where
 eq:a=b
def headT (hs:List HalfS) (me:Int) (w:WordS) (fr:Int):List HalfS×Int:=
 if fr==10 then (match hs with
   | []=>([⟨7,300,300425718,22,false,0⟩],0)
   |_=>([],10))
 else if fr==15 then (if w.no==300 then ([⟨7,300,300425718,22,false,0⟩],0) else ([],14))
 else if me==3 then ([],1) else if w.ch==300425718 then ([⟨7,300,300425718,22,true,1000007⟩],0) else ([],4)
abbrev HVt:=List HalfS→Int→WordS→Int→List HalfS×Int
abbrev EXt:=List HalfS→Int→List HalfS
abbrev TOt:=List HalfS→Int→Int→Bool→List WordS
def hHear (HV:HVt) (args:List AV) (K:AV→Prop):Prop:=match args with
 | [l, .d (.s (.int .i64 me)),x, .d (.s (.int .i64 fr))]=>match asL l,asW x with
   |some hs,some w=>if fr==12 then (if me==3 then Small hs.length∧IsP (HV hs me w fr) ([],1)∧K (.tup [.d (.sl 6 []), .d (i64 1)])
      else (BIf (decide (w.ch=300425718)) (Small hs.length∧IsP (HV hs me w fr) ([⟨7,300,300425718,22,true,1000007⟩],0)∧K (.tup [.d (.sl 6 [[i64 7,i64 300,i64 300425718,i64 22,bo true,i64 1000007]]), .d (i64 0)]))
         (Small hs.length∧IsP (HV hs me w fr) ([],4)∧K (.tup [.d (.sl 6 []), .d (i64 4)])))) else match headT hs me w fr with
     |(q,e)=>Small hs.length∧IsP (HV hs me w fr) (q,e)∧K (.tup [.d (.sl 6 (rowsH q)), .d (i64 e)])
   |_,_=>False
 |_=>False
theorem hHear_fin {l x:AV} {hs q:List HalfS} {w:WordS} {me fr e:Int} {K:AV→Prop} (h1:asL l=some hs) (h2:asW x=some w) (h:Small hs.length∧IsP (hearV hs me w fr) (q,e)∧K (.tup [.d (.sl 6 (rowsH q)), .d (i64 e)])):∃y,PCall Tryd.prog 11 [l, .d (i64 me),x, .d (i64 fr)] y∧K y:=by
 obtain ⟨⟨hl⟩,⟨hq⟩,hk⟩:=h
 rw [asW_ok h2]
 have:=pcHearV hs me fr w (by omega)
 rw [hq] at this
 exact ⟨_,PCall.leArgsV (.cons (asL_ok h1) (.cons .rfl (.cons .rfl (.cons .rfl .nil)))) this,hk⟩
theorem hHear_ok:∀args K,hHear hearV args K→∃x,PCall Tryd.prog 11 args x∧K x:=by
 intro args K h
 unfold hHear at h
 split at h
 · rename_i l me x fr
   split at h
   · rename_i hs w h1 h2
     split at h
     · split at h
       · exact hHear_fin (q:= []) h1 h2 h
       · rcases BIf.elim h with ⟨_,h⟩|⟨_,h⟩
         · exact hHear_fin (q:= [⟨7,300,300425718,22,true,1000007⟩]) h1 h2 h
         · exact hHear_fin (q:= []) h1 h2 h
     · exact hHear_fin h1 h2 h
   · exact h.elim
 · exact h.elim
def hSame (args:List AV) (K:AV→Prop):Prop:=match args with
 | [l,m]=>match asL l,asL m with
   |some a,some c=>Small a.length∧IsH a c∧K (.d (bo true))
   |_,_=>False
 |_=>False
theorem hSame_ok:∀args K,hSame args K→∃x,PCall Tryd.prog 15 args x∧K x:=by
 intro args K h
 unfold hSame at h
 split at h
 · split at h
   · rename_i a c h1 h2
     obtain ⟨⟨hl⟩,⟨hq⟩,hk⟩:=h
     have:=pcSame a c hl
     rw [decide_eq_true hq] at this
     exact ⟨_,PCall.leArgsV (.cons (asL_ok h1) (.cons (asL_ok h2) .nil)) this,hk⟩
   · exact h.elim
 · exact h.elim
def hExpire (EX:EXt) (args:List AV) (K:AV→Prop):Prop:=match args with
 | [l, .d (.s (.int .i64 fr))]=>match asL l with
   | some a=>match (if fr==22 then a else []) with
     |q=>Small a.length∧IsH (EX a fr) q∧K (.d (.sl 6 (rowsH q)))
   |_=>False
 |_=>False
theorem hExpire_ok:∀args K,hExpire expireS args K→∃x,PCall Tryd.prog 16 args x∧K x:=by
 intro args K h
 unfold hExpire at h
 split at h
 · rename_i l fr
   split at h
   · rename_i a h1
     obtain ⟨⟨hl⟩,⟨hq⟩,hk⟩:=h
     have:=pcExpire a fr hl
     rw [hq] at this
     exact ⟨_,PCall.leArgsV (.cons (asL_ok h1) (.cons .rfl .nil)) this,hk⟩
   · exact h.elim
 · exact h.elim
def hWords (TO:TOt) (args:List AV) (K:AV→Prop):Prop:=match args with
 | [l, .d (.s (.int .i64 me))]=>match asL l with
   |some a=>Small a.length∧IsW (TO a me 2 false) [⟨2,7,2,300,300425718,0,0,0⟩]∧K (.d (.sl 8 (rowsW [⟨2,7,2,300,300425718,0,0,0⟩])))
   |_=>False
 |_=>False
theorem hWords_ok:∀args K,hWords toldS args K→∃x,PCall Tryd.prog 19 args x∧K x:=by
 intro args K h
 unfold hWords at h
 split at h
 · rename_i l me
   split at h
   · rename_i a h1
     obtain ⟨⟨hl⟩,⟨hq⟩,hk⟩:=h
     have:=pcWords a me hl
     rw [hq] at this
     exact ⟨_,PCall.leArgsV (.cons (asL_ok h1) (.cons .rfl .nil)) this,hk⟩
   · exact h.elim
 · exact h.elim
def proofT:List HalfS→List WordS
 |h::_=>if h.pr then [⟨3,7,2,300,300425718,1000007,0,0⟩] else []
 | []=> []
def hProofs (TO:TOt) (args:List AV) (K:AV→Prop):Prop:=match args with
 | [l, .d (.s (.int .i64 me))]=>match asL l with
   | some a=>match proofT a with
     |q=>Small a.length∧IsW (TO a me 3 true) q∧K (.d (.sl 8 (rowsW q)))
   |_=>False
 |_=>False
theorem hProofs_ok:∀args K,hProofs toldS args K→∃x,PCall Tryd.prog 21 args x∧K x:=by
 intro args K h
 unfold hProofs at h
 split at h
 · rename_i l me
   split at h
   · rename_i a h1
     obtain ⟨⟨hl⟩,⟨hq⟩,hk⟩:=h
     have:=pcProofs a me hl
     rw [hq] at this
     exact ⟨_,PCall.leArgsV (.cons (asL_ok h1) (.cons .rfl .nil)) this,hk⟩
   · exact h.elim
 · exact h.elim
def hAskL (args:List AV) (K:AV→Prop):Prop:=match args with
 | [.d (.s (.int .i64 st)), .d (.s (.int .i64 no))]=>K (.agg [.d (i64 1), .d (i64 st), .d (i64 2), .d (i64 no), .d (i64 0), .d (i64 0), .d (i64 0), .d (i64 0)])
 |_=>False
theorem hAskL_ok:∀args K,hAskL args K→∃x,PCall Tryd.prog 27 args x∧K x:=by
 intro args K h
 unfold hAskL at h
 split at h
 · rename_i st no
   exact ⟨_,pcAskL st no,h⟩
 · exact h.elim
def THd (HV:HVt) (EX:EXt) (TO:TOt):List (Nat×(List AV→(AV→Prop)→Prop)):= [(27,hAskL),(11,hHear HV),(15,hSame),(16,hExpire EX),(19,hWords TO),(21,hProofs TO)]
theorem THd_ok:CallsOk Tryd.prog (THd hearV expireS toldS):=Zan hAskL_ok (Zan hHear_ok (Zan hSame_ok (Zan hExpire_ok (Zan hWords_ok (Zan hProofs_ok Zat)))))
def rowL:List (List Dv):= [[i64 7,i64 300,i64 300425718,i64 22,bo false,i64 0]]
def rowP:List (List Dv):= [[i64 7,i64 300,i64 300425718,i64 22,bo true,i64 1000007]]
noncomputable def rg12:Code:=sub [1,1,1,1,1,1,1,1,1,1,1,0] (code Tryd.f10)
noncomputable def rg13:Code:=sub [1,1,1,1,1,1,1,1,1,1,1,1,0] (code Tryd.f10)
def tm12:List AV:= [.bad, .d (.sl 6 rowL), .bad, .d (.sl 6 rowL), .d (i64 0), .bad, .d (i64 14), .bad, .d (i64 10), .bad, .d (.sl 6 rowP), .d (i64 0), .bad, .d (i64 4), .bad, .d (i64 1)]++Zao 169 .bad
def tm13:List AV:= [.bad, .d (.sl 6 rowL), .bad, .bad, .bad, .bad, .bad, .bad, .bad, .bad, .d (.sl 6 rowP), .bad, .bad, .bad, .bad, .bad, .d (bo true)]++Zao 168 .bad
def tm14:List AV:= [.d (bo true)]++Zao 184 .bad
abbrev Qz3:= [HalfS.mk (7:Int) (300:Int) (300425718:Int) (22:Int) false (0:Int)]
abbrev Qz8:=Zam::Zak (Zbd 6 rowL)::bds 8 (Zak (Zbd 6 rowP)::bds 5 (Zak (bo true)::bds 168 []))
abbrev Qz16:= [i64 7,i64 300,i64 300425718,i64 22,bo false,i64 0]
abbrev Qz17:=Zam::Zak (Zbd 6 rowL)::bds 8 (Zak (Zbd 6 rowP)::bds 5 (Zak (bo false)::bds 168 []))
theorem r12_nf (HV:HVt) (EX:EXt) (TO:TOt) (bw:Blk):wpc Tryd.prog ⟨THd HV EX TO, [],wl,y,false⟩ 100 rg12 tm12 [bw] b (maskT [1,10,16] K)=(∃(x0:Int) (x1:Int) (x2:Int) (x3:Int) (b4:Bool) (x5:Int),some Qz16=some (Qz12 x0 x1 x2 x3 b4 x5)∧BIf (x0==(7:Int)) (∃(x6:Int) (x7:Int) (x8:Int) (x9:Int) (b10:Bool) (x11:Int),some Qz16=some (Qz12 x6 x7 x8 x9 b10 x11)∧BIf (x7==(300:Int)) (∃(x12:Int) (x13:Int) (x14:Int) (x15:Int) (b16:Bool) (x17:Int),some Qz16=some (Qz12 x12 x13 x14 x15 b16 x17)∧BIf (x15==(22:Int)) (∃(x18:Int) (x19:Int) (x20:Int) (x21:Int) (b22:Bool) (x23:Int),some Qz16=some (Qz12 x18 x19 x20 x21 b22 x23)∧BIf (!b22) (Small 1∧IsH Qz3 Qz3∧K .normal Qz8 [bw] b) (K .normal Qz17 [bw] b)) (K .normal Qz17 [bw] b)) (K .normal Qz17 [bw] b)) (K .normal Qz17 [bw] b)):=by kernel_rfl
abbrev Qz11:= [HalfS.mk (7:Int) (300:Int) (300425718:Int) (22:Int) true (1000007:Int)]
abbrev Qz20:= [i64 7,i64 300,i64 300425718,i64 22,bo true,i64 1000007]
theorem r13_nf (HV:HVt) (EX:EXt) (TO:TOt) (bw:Blk):wpc Tryd.prog ⟨THd HV EX TO, [],wl,y,false⟩ 100 rg13 tm13 [bw] b (maskT [0] K)=(∃(x0:Int) (x1:Int) (x2:Int) (x3:Int) (b4:Bool) (x5:Int),some Qz20=some (Qz12 x0 x1 x2 x3 b4 x5)∧BIf b4 (∃(x6:Int) (x7:Int) (x8:Int) (x9:Int) (b10:Bool) (x11:Int),some Qz20=some (Qz12 x6 x7 x8 x9 b10 x11)∧BIf (x11==(1000007:Int)) (Small 1∧IsW (TO Qz3 (2:Int) (2:Int) false) [WordS.mk (2:Int) (7:Int) (2:Int) (300:Int) (300425718:Int) (0:Int) (0:Int) (0:Int)]∧Small 1∧IsW (TO Qz3 (2:Int) (3:Int) true) (proofT Qz3)∧Small 1∧IsW (TO Qz11 (2:Int) (3:Int) true) (proofT Qz11)∧Small 1∧IsH (EX Qz11 (22:Int)) (if true=true then Qz11 else [])∧Small 1∧IsH (EX Qz11 (23:Int)) (if false=true then Qz11 else [])∧K .normal (Zak (bo true)::bds 184 []) [bw] b) (K .normal (Zak (bo false)::bds 184 []) [bw] b)) (K .normal (Zak (bo false)::bds 184 []) [bw] b)):=by kernel_rfl
def wlHd {β:Type}:WLT β:=fun c tm hp b K=>match cidO c with
 |13=>∃bw,c=rg12∧maskTm [1,3,4,6,8,10,11,13,15] 0 tm=tm12∧hp= [bw]∧K .normal tm13 [bw] b
 |14=>∃bw,c=rg13∧maskTm [1,10,16] 0 tm=tm13∧hp= [bw]∧K .normal tm14 [bw] b
 |_=>False
theorem wlHd_ok {Ev:Env Tryd.prog} (c:Code) (tm:List AV) (hp:List Blk) (b:Ev.β) (K:Exit→List AV→List Blk→Ev.β→Prop) (h:wlHd c tm hp b K):W Ev c ⟨tm,hp,b⟩ (fun e s=>K e s.tm s.hp s.b):=by
 have key:∀ {c:Code} {tm0 tm1:List AV} {bw:Blk} {keep:List Nat},(∀K':Exit→List AV→List Blk→Ev.β→Prop,K' .normal tm1 [bw] b→wpc Tryd.prog ⟨THd hearV expireS toldS, [],wlW Ev,Ev.Y,false⟩ 100 c tm0 [bw] b (maskT keep K'))→
     K .normal tm1 [bw] b→W Ev c ⟨tm0, [bw],b⟩ (fun e s=>K e s.tm s.hp s.b):=fun hr hk=>
   W.castPost (wpc_sound mixed (CX.Ok.of THd_ok Zap) (hr (fun e tm hp b'=>K e tm hp b') hk) fun e tm hp b hK=>⟨_,hp,maskTm_le _ tm 0,Zcy _,hK⟩)
 unfold wlHd at h
 split at h
 · obtain ⟨bw,rfl,htm,rfl,hK⟩:=h
   refine W.cast (htm▸maskTm_le _ tm 0) (Zcy _) (key (keep:= [1,10,16]) (fun K' hk=> ?_) hK)
   rw [r12_nf _ _ _ K' hearV expireS toldS bw]
   repeat (first
     |exact hk
     |refine ⟨⟨by kernel_rfl⟩, ?_⟩
     |refine ⟨⟨by decide⟩, ?_⟩
     |refine ⟨_,_,_,_,_,_,rfl, ?_⟩
     |refine Zca (by decide) ?_
     |refine BIf.f (by decide) ?_)
 · obtain ⟨bw,rfl,htm,rfl,hK⟩:=h
   refine W.cast (htm▸maskTm_le _ tm 0) (Zcy _) (key (keep:= [0]) (fun K' hk=> ?_) hK)
   rw [r13_nf _ _ _ K' hearV expireS toldS bw]
   repeat (first
     |exact hk
     |refine ⟨⟨by kernel_rfl⟩, ?_⟩
     |refine ⟨⟨by decide⟩, ?_⟩
     |refine ⟨_,_,_,_,_,_,rfl, ?_⟩
     |refine Zca (by decide) ?_
     |refine BIf.f (by decide) ?_)
 · exact h.elim
def THm (HV:HVt) (EX:EXt) (TO:TOt):List (Nat×(List AV→(AV→Prop)→Prop)):= [(27,hAskL),(11,hHear HV),(4000012,cNone),(4000013,cNone)]
theorem THm_ok:CallsOk Tryd.prog (THm hearV expireS toldS):=Zan hAskL_ok (Zan hHear_ok (Zan cNone_ok (Zan cNone_ok Zat)))
abbrev Qz9:=Zam::Zak (Zbd 6 rowL)::Zam::Zak (Zbd 6 rowL)::Zak (i64 0)::Zam::Zak (i64 14)::Zam::Zak (i64 10)::Zam::Zak (Zbd 6 rowP)::Zak (i64 0)::Zam::Zak (i64 4)::Zam::Zak (i64 1)::bds 169 []
theorem head_nf (HV:HVt) (EX:EXt) (TO:TOt):wpFn Tryd.prog ⟨THm HV EX TO, [],wlHd,y,false⟩ 100 Tryd.f10 [] b R=(Small 0∧IsP (HV [] (2:Int) (WordS.mk (1:Int) (7:Int) (2:Int) (300:Int) (0:Int) (0:Int) (0:Int) (0:Int)) (10:Int)) (Qz3,(0:Int))∧Small 1∧IsP (HV Qz3 (2:Int) (WordS.mk (1:Int) (7:Int) (2:Int) (300:Int) (0:Int) (0:Int) (0:Int) (0:Int)) (15:Int)) (Qz3,(0:Int))∧Small 1∧IsP (HV Qz3 (2:Int) (WordS.mk (1:Int) (7:Int) (2:Int) (299:Int) (0:Int) (0:Int) (0:Int) (0:Int)) (15:Int)) ([],(14:Int))∧Small 4∧IsP (HV [HalfS.mk (0:Int) (0:Int) (0:Int) (0:Int) false (0:Int),HalfS.mk (1:Int) (0:Int) (0:Int) (0:Int) false (0:Int),HalfS.mk (3:Int) (0:Int) (0:Int) (0:Int) false (0:Int),HalfS.mk (4:Int) (0:Int) (0:Int) (0:Int) false (0:Int)] (2:Int) (WordS.mk (1:Int) (7:Int) (2:Int) (300:Int) (0:Int) (0:Int) (0:Int) (0:Int)) (10:Int)) ([],(10:Int))∧∃(x0:Int) (x1:Int) (x2:Int) (x3:Int) (b4:Bool) (x5:Int),some Qz16=some (Qz12 x0 x1 x2 x3 b4 x5)∧BIf (decide (WordS.ch (WordS.mk (3:Int) (7:Int) (2:Int) (300:Int) x2 (1000007:Int) (0:Int) (0:Int))=(300425718:Int))) (Small 1∧IsP (HV Qz3 (2:Int) (WordS.mk (3:Int) (7:Int) (2:Int) (300:Int) x2 (1000007:Int) (0:Int) (0:Int)) (12:Int)) (Qz11,(0:Int))∧∃(x6:Int) (x7:Int) (x8:Int) (x9:Int) (b10:Bool) (x11:Int),some Qz16=some (Qz12 x6 x7 x8 x9 b10 x11)∧BIf (decide (WordS.ch (WordS.mk (3:Int) (7:Int) (2:Int) (300:Int) (Zdi (Zad .i64 (x8+1)) (1000000000:Int)) (1000007:Int) (0:Int) (0:Int))=(300425718:Int))) (Small 1∧IsP (HV Qz3 (2:Int) (WordS.mk (3:Int) (7:Int) (2:Int) (300:Int) (Zdi (Zad .i64 (x8+1)) (1000000000:Int)) (1000007:Int) (0:Int) (0:Int)) (12:Int)) (Qz11,(0:Int))∧Small 1∧IsP (HV Qz3 (3:Int) (WordS.mk (3:Int) (7:Int) (2:Int) (300:Int) (Zdi (Zad .i64 (x8+1)) (1000000000:Int)) (1000007:Int) (0:Int) (0:Int)) (12:Int)) ([],(1:Int))∧∃(bw12:Blk),rg12=rg12∧(Zam::Zak (Zbd 6 (rowsH Qz3))::Zam::Zak (Zbd 6 (rowsH Qz3))::Zak (i64 0)::Zam::Zak (i64 14)::Zam::Zak (i64 10)::Zam::Zak (Zbd 6 [Qz20])::Zak (i64 0)::Zam::Zak (i64 0)::Zam::Zak (i64 1)::bds 169 [])=Qz9∧ [Blk.mk [Zak (i64 3),Zak (i64 7),Zak (i64 2),Zak (i64 300),Zak (i64 (Zdi (Zad .i64 (x8+1)) (1000000000:Int))),Zak (i64 1000007),Zak (i64 0),Zak (i64 0)] false false 0]= [bw12]∧∃(bw13:Blk),rg13=rg13∧Qz8=Qz8∧ [bw12]= [bw13]∧R (.d (bo true)) b) (Small 1∧IsP (HV Qz3 (2:Int) (WordS.mk (3:Int) (7:Int) (2:Int) (300:Int) (Zdi (Zad .i64 (x8+1)) (1000000000:Int)) (1000007:Int) (0:Int) (0:Int)) (12:Int)) ([],(4:Int))∧Small 1∧IsP (HV Qz3 (3:Int) (WordS.mk (3:Int) (7:Int) (2:Int) (300:Int) (Zdi (Zad .i64 (x8+1)) (1000000000:Int)) (1000007:Int) (0:Int) (0:Int)) (12:Int)) ([],(1:Int))∧∃(bw14:Blk),rg12=rg12∧(Zam::Zak (Zbd 6 (rowsH Qz3))::Zam::Zak (Zbd 6 (rowsH Qz3))::Zak (i64 0)::Zam::Zak (i64 14)::Zam::Zak (i64 10)::Zam::Zak (Zbd 6 [Qz20])::Zak (i64 0)::Zam::Zak (i64 4)::Zam::Zak (i64 1)::bds 169 [])=Qz9∧ [Blk.mk [Zak (i64 3),Zak (i64 7),Zak (i64 2),Zak (i64 300),Zak (i64 (Zdi (Zad .i64 (x8+1)) (1000000000:Int))),Zak (i64 1000007),Zak (i64 0),Zak (i64 0)] false false 0]= [bw14]∧∃(bw15:Blk),rg13=rg13∧Qz8=Qz8∧ [bw14]= [bw15]∧R (.d (bo true)) b)) (Small 1∧IsP (HV Qz3 (2:Int) (WordS.mk (3:Int) (7:Int) (2:Int) (300:Int) x2 (1000007:Int) (0:Int) (0:Int)) (12:Int)) ([],(4:Int))∧∃(x16:Int) (x17:Int) (x18:Int) (x19:Int) (b20:Bool) (x21:Int),some Qz16=some (Qz12 x16 x17 x18 x19 b20 x21)∧BIf (decide (WordS.ch (WordS.mk (3:Int) (7:Int) (2:Int) (300:Int) (Zdi (Zad .i64 (x18+1)) (1000000000:Int)) (1000007:Int) (0:Int) (0:Int))=(300425718:Int))) (Small 1∧IsP (HV Qz3 (2:Int) (WordS.mk (3:Int) (7:Int) (2:Int) (300:Int) (Zdi (Zad .i64 (x18+1)) (1000000000:Int)) (1000007:Int) (0:Int) (0:Int)) (12:Int)) (Qz11,(0:Int))∧Small 1∧IsP (HV Qz3 (3:Int) (WordS.mk (3:Int) (7:Int) (2:Int) (300:Int) (Zdi (Zad .i64 (x18+1)) (1000000000:Int)) (1000007:Int) (0:Int) (0:Int)) (12:Int)) ([],(1:Int))∧∃(bw22:Blk),rg12=rg12∧(Zam::Zak (Zbd 6 (rowsH Qz3))::Zam::Zak (Zbd 6 (rowsH Qz3))::Zak (i64 0)::Zam::Zak (i64 14)::Zam::Zak (i64 10)::Zam::Zak (Zbd 6 [])::Zak (i64 4)::Zam::Zak (i64 0)::Zam::Zak (i64 1)::bds 169 [])=Qz9∧ [Blk.mk [Zak (i64 3),Zak (i64 7),Zak (i64 2),Zak (i64 300),Zak (i64 (Zdi (Zad .i64 (x18+1)) (1000000000:Int))),Zak (i64 1000007),Zak (i64 0),Zak (i64 0)] false false 0]= [bw22]∧∃(bw23:Blk),rg13=rg13∧Qz8=Qz8∧ [bw22]= [bw23]∧R (.d (bo true)) b) (Small 1∧IsP (HV Qz3 (2:Int) (WordS.mk (3:Int) (7:Int) (2:Int) (300:Int) (Zdi (Zad .i64 (x18+1)) (1000000000:Int)) (1000007:Int) (0:Int) (0:Int)) (12:Int)) ([],(4:Int))∧Small 1∧IsP (HV Qz3 (3:Int) (WordS.mk (3:Int) (7:Int) (2:Int) (300:Int) (Zdi (Zad .i64 (x18+1)) (1000000000:Int)) (1000007:Int) (0:Int) (0:Int)) (12:Int)) ([],(1:Int))∧∃(bw24:Blk),rg12=rg12∧(Zam::Zak (Zbd 6 (rowsH Qz3))::Zam::Zak (Zbd 6 (rowsH Qz3))::Zak (i64 0)::Zam::Zak (i64 14)::Zam::Zak (i64 10)::Zam::Zak (Zbd 6 [])::Zak (i64 4)::Zam::Zak (i64 4)::Zam::Zak (i64 1)::bds 169 [])=Qz9∧ [Blk.mk [Zak (i64 3),Zak (i64 7),Zak (i64 2),Zak (i64 300),Zak (i64 (Zdi (Zad .i64 (x18+1)) (1000000000:Int))),Zak (i64 1000007),Zak (i64 0),Zak (i64 0)] false false 0]= [bw24]∧∃(bw25:Blk),rg13=rg13∧Qz8=Qz8∧ [bw24]= [bw25]∧R (.d (bo true)) b))):=by kernel_rfl
theorem pcHead:PCall Tryd.prog 10 [] (.d (bo true)):=by
 refine PCall.ofFnW (n:=100) (u:=false) (fun _=>wlHd) mixed THm_ok Zap (fun Ev=>wlHd_ok) Tryd.func10 (by rfl) (by rfl) fun Ev bb=> ?_
 rw [head_nf _ _ _ hearV expireS toldS]
 repeat (first
   |exact rfl
   |refine ⟨⟨by kernel_rfl⟩, ?_⟩
   |refine ⟨⟨by decide⟩, ?_⟩
   |refine ⟨_,_,_,_,_,_,rfl, ?_⟩
   |refine Zca (by decide) ?_
   |refine BIf.f (by decide) ?_
   |refine ⟨_,rfl,rfl,rfl, ?_⟩)
def cHead (args:List AV) (K:AV→Prop):Prop:=args= []∧K (.d (bo true))
theorem cHead_ok:∀args K,cHead args K→∃x,PCall Tryd.prog 10 args x∧K x:=by
 rintro _ K ⟨rfl,hk⟩;exact ⟨_,pcHead,hk⟩
set_option maxRecDepth 20000
theorem nodeN_iff (me:Int):nodeN me=true↔0≤me∧me≤59:=by simp [nodeN,inN]
theorem okTr_iff (v:Bool) (me:Int):okTr v me=true↔v=true∧0≤me∧me≤59:=by simp [okTr]
theorem told_eq (hs:List HalfS) (me kd:Int) (pr:Bool) (hk:kd=if pr=true then 3 else 2):toldS hs me kd pr=kindS (tellR hs me) kd:=by
 unfold toldS tellR tellS
 cases hv:validH hs with
 |false=>simp [okTr,kindS]
 | true=>
   by_cases hn:nodeN me=true
   · have ho:okTr true me=true:=(okTr_iff _ _).2 ⟨rfl,(nodeN_iff me).1 hn⟩
     rw [if_neg (by decide),if_neg (by rw [hn];decide),if_pos ho]
     have hall:∀x∈hs,halfOk x=true:=fun x hx=>valid_mem hv hx
     clear hv
     induction hs with
     |nil=>rfl
     | cons h r ih=>
       have ih:=ih fun x hx=>hall x (List.mem_cons_of_mem _ hx)
       have hh:=hall h (by simp)
       simp only [toldW,kindS,List.map_cons,List.flatMap_cons] at ih ⊢
       rw [ih]
       congr 1
       simp only [halfOk,Zag,Bool.or_eq_true,beq_iff_eq] at hh
       cases hp:h.pr<;>cases pr<;>simp [stepTo,stepKi,tellW,wordOf,hp,hk]<;>simp_all
   · have hn':¬okTr true me=true:=fun h=>hn ((nodeN_iff me).2 ((okTr_iff _ _).1 h).2)
     rw [if_neg (by decide),if_pos (by simpa using hn),if_neg hn'];rfl
theorem valid_of {hs:List HalfS} (h1:∀x∈hs,halfOk x=true) (h2:SortH hs) (h3:hs.length≤4):validH hs=true:=by
 simp only [validH,Zag,Bool.not_eq_true',List.any_eq_false,List.mem_range,decide_eq_true_eq]
 refine ⟨fun i hi=> ?_,h3⟩
 have e:nthH hs i=hs[i]:=by simp [nthH,hi]
 have hok:halfOk (nthH hs i)=true:=by rw [e];exact h1 _ (List.getElem_mem hi)
 simp only [badAt,hok,Bool.not_true,Bool.false_or,Zag,decide_eq_true_eq,not_and]
 intro hi0
 have e':nthH hs (i - 1)=hs[i - 1]:=by simp [nthH,show i - 1<hs.length by omega]
 rw [e,e']
 have:=(List.pairwise_iff_getElem.1 h2) (i - 1) i (by omega) hi (by omega)
 omega
theorem filter_len {k:Int}:∀ {hs:List HalfS},SortH hs→hasH k hs=true→(hs.filter fun x=> !(x.st==k)).length+1=hs.length
 | [],_,h=>by cases h
 | y::r,hs,h=>by
   obtain ⟨hy,hr⟩:=List.pairwise_cons.1 hs
   rw [hasH_cons] at h
   by_cases hk:y.st=k
   · have e:r.filter (fun x=> !(x.st==k))=r:=List.filter_eq_self.2 fun x hx=>by have:=hy x hx;simp;omega
     rw [List.filter_cons_of_neg (by simp [hk]),e];rfl
   · have hh:hasH k r=true:=by simpa [hk] using h
     rw [List.filter_cons_of_pos (by simp [hk]),List.length_cons,filter_len hr hh];rfl
theorem putH_len_has {h:HalfS} {hs:List HalfS} (hs1:SortH hs) (hh:hasH h.st hs=true):(putH h hs).length=hs.length:=by
 rw [putH,insH_len,filter_len hs1 hh]
theorem below_range (x:Int):0≤belowS x 1000000000∧belowS x 1000000000<1000000000:=by
 have h:=firstS_range x
 rw [belowS,if_neg (by decide),if_neg (by decide)]
 rw [Int.tmod_eq_emod_of_nonneg h.1]
 omega
theorem formed_facts {w:WordS} (h:formedW w=true):0≤w.st∧w.st<60∧0≤w.sp∧w.sp<60∧w.st≠w.sp∧0≤w.no∧w.no≤1000000000∧0≤w.ch∧w.ch≤1000000000∧1≤w.ki∧w.ki≤4:=by
 simp only [formedW,Zag,nodeJ,decide_eq_true_eq,bne_iff_ne,ne_eq] at h
 obtain ⟨⟨h1,h2⟩,⟨h3,h4⟩,h5,h6,h7,h8,h9⟩:=h
 refine ⟨h1,h2,h3,h4,h5, ?_, ?_, ?_, ?_,h8,h9⟩
 all_goals
   split at h6<;>split at h7<;>omega
theorem fresh_un {fr:Int} (w:WordS) (h:0≤fr∧fr≤999999988):(freshS fr w).un=fr+12:=by
 show Zad Zbo (fr+12)=fr+12
 rw [wrap_i64 (by omega) (by omega)]
theorem fresh_ok {fr:Int} {w:WordS} (hf:formedW w=true) (h:0≤fr∧fr≤999999988):halfOk (freshS fr w)=true:=by
 have hc:=below_range (Zad Zcf (Zad Zcf (1000003*Zad Zcf (Zad Zcf (1000003*Zad Zcf (Zad Zbo (Zad Zbo (64*w.sp)+w.st)))+Zad Zcf w.no))+Zad Zcf fr))
 have hu:=fresh_un w h
 have hw:=formed_facts hf
 have hc':0≤(freshS fr w).ch∧(freshS fr w).ch<1000000000:=hc
 have e1:(freshS fr w).st=w.st:=rfl
 have e2:(freshS fr w).no=w.no:=rfl
 have e3:(freshS fr w).ke=0:=rfl
 simp only [halfOk,nodeN,inN,Zag,Bool.or_eq_true,decide_eq_true_eq,beq_iff_eq,e1,e2,e3,hu,or_true,and_true]
 omega
structure Heard (hs:List HalfS) (me:Int) (w:WordS) (fr:Int) (m:List HalfS):Prop where
 valid:validH hs=true
 formed:formedW w=true
 sp:w.sp=me
 ke:0≤w.ke∧w.ke≤2000000
 frb:0≤fr∧fr≤999999988
 how:(w.ki=1∧hasH w.st hs=true∧(getH w.st hs).no=w.no∧m=hs)∨(w.ki=1∧hasH w.st hs=true∧(getH w.st hs).no<w.no∧m=putH (freshS fr w) hs)∨
   (w.ki=1∧hasH w.st hs=false∧hs.length<4∧m=putH (freshS fr w) hs)∨
   (w.ki=3∧hasH w.st hs=true∧(getH w.st hs).no=w.no∧(getH w.st hs).ch=w.ch∧m=putH ⟨(getH w.st hs).st,(getH w.st hs).no,(getH w.st hs).ch,(getH w.st hs).un,true,w.ke⟩ hs)
theorem hear_ok {hs:List HalfS} {me:Int} {w:WordS} {fr:Int} (h:(hearV hs me w fr).2=0):Heard hs me w fr (hearV hs me w fr).1:=by
 generalize hq:hearV hs me w fr=q at h ⊢
 unfold hearV at hq
 split at hq
 · subst hq;simp at h
 rename_i h1
 split at hq
 · subst hq;simp at h
 rename_i h2
 split at hq
 · subst hq;simp at h
 rename_i h3
 split at hq
 · subst hq;simp at h
 rename_i h4
 split at hq
 · subst hq;simp at h
 rename_i h5
 have hv:validH hs=true:=by simpa using h1
 have hf:formedW w=true:=by rw [←isWord_eq];simpa using h2
 refine ⟨hv,hf,by simpa using h3,by simpa [inN] using h4,by simpa [inN] using h5, ?_⟩
 unfold handV at hq
 split at hq
 · rename_i k1
   split at hq
   · subst hq;simp at h
   rename_i k2
   have hk:w.ki=3:=by simp at k2;omega
   split at hq
   · rename_i p1
     subst hq
     simp only at h
     rw [h] at p1;simp at p1
   · rename_i p1
     subst hq
     have p1:(provedS hs w).1=0:=by simpa using p1
     refine .inr (.inr (.inr ?_))
     unfold provedS at p1 ⊢
     simp only at p1 ⊢
     split at p1
     · rename_i z1
       rw [if_pos z1]
       split at p1
       · cases p1
       rename_i z2
       rw [if_neg z2]
       split at p1
       · cases p1
       rename_i z3
       rw [if_neg z3]
       exact ⟨hk,z1,by simpa using z2,by simpa using z3,rfl⟩
     · cases p1
 · rename_i k1
   have hk:w.ki=1:=by simp at k1;omega
   split at hq
   · rename_i p1
     subst hq
     simp only at h
     rw [h] at p1;simp at p1
   · rename_i p1
     subst hq
     have p1:(askedS hs fr w).1=0:=by simpa using p1
     unfold askedS at p1 ⊢
     split at p1
     · rename_i z1
       rw [if_pos z1]
       split at p1
       · cases p1
       rename_i z2
       rw [if_neg z2]
       split at p1
       · rename_i z3
         rw [if_pos z3]
         exact .inl ⟨hk,z1,by simpa using z3,rfl⟩
       · rename_i z3
         rw [if_neg z3]
         have z3:¬(getH w.st hs).no=w.no:=by simpa using z3
         exact .inr (.inl ⟨hk,z1,by omega,rfl⟩)
     · rename_i z1
       rw [if_neg z1]
       split at p1
       · cases p1
       rename_i z2
       rw [if_neg z2]
       have:=valid_len hv
       exact .inr (.inr (.inl ⟨hk,by simpa using z1,by simp at z2;omega,rfl⟩))
theorem heard_sort {hs m:List HalfS} {me:Int} {w:WordS} {fr:Int} (h:Heard hs me w fr m):SortH m:=by
 have hso:=valid_sort h.valid
 rcases h.how with ⟨_,_,_,rfl⟩|⟨_,_,_,rfl⟩|⟨_,_,_,rfl⟩|⟨_,hh,_,_,rfl⟩
 · exact hso
 all_goals exact putH_sort hso
theorem getH_mem {k:Int} {hs:List HalfS} (h:hasH k hs=true):getH k hs∈hs:=by
 induction hs with
 |nil=>cases h
 | cons y r ih=>
   rw [getH_cons]
   split
   · exact List.mem_cons_self ..
   · rename_i hn
     rw [hasH_cons] at h
     have:hasH k r=true:=by simpa [hn] using h
     exact List.mem_cons_of_mem _ (ih this)
theorem proof_ok {h:HalfS} {k:Int} (hh:halfOk h=true) (hk:0≤k∧k≤2000000):halfOk ⟨h.st,h.no,h.ch,h.un,true,k⟩=true:=by
 simp only [halfOk,nodeN,inN,Zag,Bool.or_eq_true,decide_eq_true_eq,true_or,and_true] at hh ⊢
 omega
theorem heard_valid {hs m:List HalfS} {me:Int} {w:WordS} {fr:Int} (h:Heard hs me w fr m):validH m=true:=by
 have hso:=valid_sort h.valid
 have hl:=valid_len h.valid
 have hall:∀x∈hs,halfOk x=true:=fun x hx=>valid_mem h.valid hx
 refine valid_of ?_ (heard_sort h) ?_
 · intro x hx
   rcases h.how with ⟨_,_,_,rfl⟩|⟨_,_,_,rfl⟩|⟨_,_,_,rfl⟩|⟨_,hh,_,_,rfl⟩
   · exact hall x hx
   · rcases mem_putH.1 hx with rfl|⟨hx,_⟩
     · exact fresh_ok h.formed h.frb
     · exact hall x hx
   · rcases mem_putH.1 hx with rfl|⟨hx,_⟩
     · exact fresh_ok h.formed h.frb
     · exact hall x hx
   · rcases mem_putH.1 hx with rfl|⟨hx,_⟩
     · exact proof_ok (hall _ (getH_mem hh)) h.ke
     · exact hall x hx
 · rcases h.how with ⟨_,_,_,rfl⟩|⟨_,hh,_,rfl⟩|⟨_,_,hlt,rfl⟩|⟨_,hh,_,_,rfl⟩
   · exact hl
   · rw [putH_len_has hso hh];exact hl
   · have:=putH_len (freshS fr w) hs;omega
   · rw [putH_len_has hso (by rw [getH_st hh];exact hh)];exact hl
theorem proofs_at {hs m:List HalfS} {me:Int} {w:WordS} {fr:Int} (h:Heard hs me w fr m) {x:HalfS} (hx:x∈m):
   (hasH x.st hs=true∧getH x.st hs=x)∨(x.pr=false∧x.ke=0)∨
   (hasH x.st hs=true∧(getH x.st hs).no=x.no∧(getH x.st hs).ch=x.ch∧w.ki=3∧w.st=x.st∧w.no=x.no∧w.ch=x.ch∧w.ke=x.ke):=by
 have hso:=valid_sort h.valid
 have old:∀x∈hs,hasH x.st hs=true∧getH x.st hs=x:=fun x hx=>⟨hasH_iff.2 ⟨x,hx,rfl⟩,getH_self hso hx⟩
 rcases h.how with ⟨_,_,_,rfl⟩|⟨_,_,_,rfl⟩|⟨_,_,_,rfl⟩|⟨k,hh,h1,h2,rfl⟩
 · exact .inl (old x hx)
 · rcases mem_putH.1 hx with rfl|⟨hx,_⟩
   · exact .inr (.inl ⟨rfl,rfl⟩)
   · exact .inl (old x hx)
 · rcases mem_putH.1 hx with rfl|⟨hx,_⟩
   · exact .inr (.inl ⟨rfl,rfl⟩)
   · exact .inl (old x hx)
 · rcases mem_putH.1 hx with rfl|⟨hx,_⟩
   · have e:(getH w.st hs).st=w.st:=getH_st hh
     refine .inr (.inr ?_)
     show hasH (getH w.st hs).st hs=true∧(getH (getH w.st hs).st hs).no=(getH w.st hs).no∧(getH (getH w.st hs).st hs).ch=(getH w.st hs).ch∧w.ki=3∧w.st=(getH w.st hs).st∧w.no=(getH w.st hs).no∧w.ch=(getH w.st hs).ch∧w.ke=w.ke
     rw [e]
     exact ⟨hh,rfl,rfl,k,rfl,h1.symm,h2.symm,rfl⟩
   · exact .inl (old x hx)
set_option maxRecDepth 100000
set_option maxHeartbeats 0
noncomputable def lp5:Code:=sub [1,1,1,1,0,1,2,3] (code Tryd.f5)
noncomputable def rg510:Code:=sub [1,1,1,1,0,1,2,3,1,0,2,1,0,1,4] (code Tryd.f5)
noncomputable def rg511:Code:=sub [1,1,1,1,0,1,2,3,1,0,2,1,1] (code Tryd.f5)
def tm5 (hs m:List HalfS) (i:Int) (z:List AV):List AV:= [.d (.sl 6 (rowsH hs)), .bad, .bad, .bad, .bad, .bad, .ptr 0 0, .bad, .bad, .d (bo true), .d (.sl 6 (rowsH m)), .bad, .d (i64 i)]++z++Zao 150 .bad
def zz5 (z:Bool):List AV:= [.ptr 1 0, .d (bo z)]
def bb5:List AV:= [.bad, .bad]
abbrev Qz5 (v0:WordS) (v1:HalfS):= [Blk.mk (Qz1 v0) false false 0,Blk.mk (Qz2 v1) false false 0]
abbrev Qz7 (v0:List HalfS) (v1:List HalfS) (v2:Int):=Zak (Zbd 6 (rowsH v0))::bds 5 (Zci 0 0::Zam::Zam::Zak (bo false)::Zak (Zbd 6 (rowsH v1))::Zam::Zak (i64 v2)::Zci 1 0::Zak (bo true)::bds 150 [])
theorem g10 (hs m:List HalfS) (w:WordS) (o:HalfS) (i:Int):wpc Tryd.prog ⟨[], [],wl,y,false⟩ 100 rg510 (tm5 hs m i (zz5 true)) [wordB w,halfB o] b (maskT [0,6,9,10,12,13,14] K)=(BIf (true&&decide (0≤i)) (∃(x0:Int) (x1:Int) (x2:Int) (x3:Int) (b4:Bool) (x5:Int),(rowsH m)[Zbb i]? =some (Qz12 x0 x1 x2 x3 b4 x5)∧BIf (HalfS.no o==x1) (BIf (true&&decide (0≤i)) (∃(x8:Int) (x9:Int) (x10:Int) (x11:Int) (b12:Bool) (x13:Int),(rowsH m)[Zbb i]? =some (Qz12 x8 x9 x10 x11 b12 x13)∧BIf (HalfS.ch o==x10) (BIf (WordS.ki w==(3:Int)) (BIf (true&&decide (0≤i)) (∃(x16:Int) (x17:Int) (x18:Int) (x19:Int) (b20:Bool) (x21:Int),(rowsH m)[Zbb i]? =some (Qz12 x16 x17 x18 x19 b20 x21)∧BIf (WordS.st w==x16) (BIf (true&&decide (0≤i)) (∃(x24:Int) (x25:Int) (x26:Int) (x27:Int) (b28:Bool) (x29:Int),(rowsH m)[Zbb i]? =some (Qz12 x24 x25 x26 x27 b28 x29)∧BIf (WordS.no w==x25) (BIf (true&&decide (0≤i)) (∃(x32:Int) (x33:Int) (x34:Int) (x35:Int) (b36:Bool) (x37:Int),(rowsH m)[Zbb i]? =some (Qz12 x32 x33 x34 x35 b36 x37)∧BIf (WordS.ch w==x34) (BIf (true&&decide (0≤i)) (∃(x40:Int) (x41:Int) (x42:Int) (x43:Int) (b44:Bool) (x45:Int),(rowsH m)[Zbb i]? =some (Qz12 x40 x41 x42 x43 b44 x45)∧K .normal (Zak (Zbd 6 (rowsH hs))::bds 5 (Zci 0 0::Zam::Zam::Zak (bo (WordS.ke w==x45))::Zak (Zbd 6 (rowsH m))::Zam::Zak (i64 i)::Zci 1 0::Zak (bo true)::bds 150 [])) (Qz5 w o) b) False) (K .normal (Qz7 hs m i) (Qz5 w o) b)) False) (K .normal (Qz7 hs m i) (Qz5 w o) b)) False) (K .normal (Qz7 hs m i) (Qz5 w o) b)) False) (K .normal (Qz7 hs m i) (Qz5 w o) b)) (K .normal (Qz7 hs m i) (Qz5 w o) b)) False) (K .normal (Qz7 hs m i) (Qz5 w o) b)) False):=by kernel_rfl
abbrev Qz4 (v0:List HalfS) (v1:List HalfS) (v2:Int) (v3:Bool):=Zak (Zbd 6 (rowsH v0))::bds 5 (Zci 0 0::Zam::Zam::Zak (bo true)::Zak (Zbd 6 (rowsH v1))::Zam::Zak (i64 v2)::Zci 1 0::Zak (bo v3)::bds 150 [])
abbrev Qz27 (v0:List HalfS) (v1:List HalfS) (v2:Int) (v3:Bool):=Zak (Zbd 6 (rowsH v0))::bds 5 (Zci 0 0::Zam::Zam::Zak (bo false)::Zak (Zbd 6 (rowsH v1))::Zam::Zak (i64 v2)::Zci 1 0::Zak (bo v3)::bds 150 [])
abbrev Qz28 (v0:List HalfS) (v1:Int) (v2:List HalfS) (v3:Int) (v4:Bool):=Zak (Zbd 6 (rowsH v0))::bds 5 (Zci 0 0::Zam::Zam::Zak (bo (v1==(0:Int)))::Zak (Zbd 6 (rowsH v2))::Zam::Zak (i64 v3)::Zci 1 0::Zak (bo v4)::bds 150 [])
theorem g11 (hs m:List HalfS) (w:WordS) (o:HalfS) (i:Int) (z:Bool):wpc Tryd.prog ⟨[], [],wl,y,false⟩ 100 rg511 (tm5 hs m i (zz5 z)) [wordB w,halfB o] b (maskT [0,6,9,10,12,13,14] K)=(BIf z (BIf (true&&decide (0≤i)) (∃(x0:Int) (x1:Int) (x2:Int) (x3:Int) (b4:Bool) (x5:Int),(rowsH m)[Zbb i]? =some (Qz12 x0 x1 x2 x3 b4 x5)∧BIf (HalfS.no o==x1) (K .normal (Qz4 hs m i z) (Qz5 w o) b) (BIf (true&&decide (0≤i)) (∃(x8:Int) (x9:Int) (x10:Int) (x11:Int) (b12:Bool) (x13:Int),(rowsH m)[Zbb i]? =some (Qz12 x8 x9 x10 x11 b12 x13)∧BIf (!b12) (BIf (true&&decide (0≤i)) (∃(x16:Int) (x17:Int) (x18:Int) (x19:Int) (b20:Bool) (x21:Int),(rowsH m)[Zbb i]? =some (Qz12 x16 x17 x18 x19 b20 x21)∧K .normal (Qz28 hs x21 m i z) (Qz5 w o) b) False) (K .normal (Qz27 hs m i z) (Qz5 w o) b)) False)) False) (BIf (true&&decide (0≤i)) (∃(x24:Int) (x25:Int) (x26:Int) (x27:Int) (b28:Bool) (x29:Int),(rowsH m)[Zbb i]? =some (Qz12 x24 x25 x26 x27 b28 x29)∧BIf (!b28) (BIf (true&&decide (0≤i)) (∃(x32:Int) (x33:Int) (x34:Int) (x35:Int) (b36:Bool) (x37:Int),(rowsH m)[Zbb i]? =some (Qz12 x32 x33 x34 x35 b36 x37)∧K .normal (Qz28 hs x37 m i z) (Qz5 w o) b) False) (K .normal (Qz27 hs m i z) (Qz5 w o) b)) False)):=by kernel_rfl
def wl5 {β:Type}:WLT β:=fun c tm hp b K=>match cidO c with
 |11=>∃(hs m:List HalfS) (w:WordS) (o:HalfS) (i:Int),c=rg510∧maskTm [0,6,9,10,12,13,14] 0 tm=tm5 hs m i (zz5 true)∧hp= [wordB w,halfB o]∧
    (∃n:Nat,i=n∧n<m.length∧o.no=(nthH m n).no∧o.ch=(nthH m n).ch∧w.ki=3∧w.st=(nthH m n).st∧w.no=(nthH m n).no∧w.ch=(nthH m n).ch∧w.ke=(nthH m n).ke)∧K .normal (tm5 hs m i (zz5 true)) [wordB w,halfB o] b
 |12=>∃(hs m:List HalfS) (w:WordS) (o:HalfS) (i:Int) (z:Bool),c=rg511∧maskTm [0,6,9,10,12,13,14] 0 tm=tm5 hs m i (zz5 z)∧hp= [wordB w,halfB o]∧
    (∃n:Nat,i=n∧n<m.length∧((z=true∧o.no=(nthH m n).no)∨((nthH m n).pr=false∧(nthH m n).ke=0)))∧K .normal (tm5 hs m i (zz5 z)) [wordB w,halfB o] b
 |_=>False
def TL5:List (Nat×(List AV→(AV→Prop)→Prop)):= [(23,cOf),(4000010,cNone),(4000011,cNone)]
abbrev Qz13 (v0:List HalfS) (v1:List HalfS) (v2:Int):=Zak (Zbd 6 (rowsH v0))::bds 5 (Zci 0 0::Zam::Zam::Zak (bo true)::Zak (Zbd 6 (rowsH v1))::Zam::Zak (i64 v2)::Zci 1 0::Zak (bo true)::bds 150 [])
theorem r5 (hs m:List HalfS) (w:WordS) (i:Int):wpc Tryd.prog ⟨TL5, [],wl5,y,false⟩ 100 lp5 (tm5 hs m i bb5) [wordB w] b (maskK 1 [0,6,9,10,12] K)=(BIf (decide (i<((Zae (rowsH m):Nat):Int))) (BIf (true&&decide (0≤i)) (∃(x0:Int) (x1:Int) (x2:Int) (x3:Int) (b4:Bool) (x5:Int),(rowsH m)[Zbb i]? =some (Qz12 x0 x1 x2 x3 b4 x5)∧∃(hs8:List HalfS) (k9:Int) (h10:HalfS) (z11:Bool), [Zak (Zbd 6 (rowsH hs)),Zak (i64 x0)]= [Zak (Zbd 6 (rowsH hs8)),Zak (i64 k9)]∧(Zae hs8≤9223372036854775807∧h10=getH k9 hs8∧z11=hasH k9 hs8)∧BIf (true&&decide (0≤i)) (∃(x12:Int) (x13:Int) (x14:Int) (x15:Int) (b16:Bool) (x17:Int),(rowsH m)[Zbb i]? =some (Qz12 x12 x13 x14 x15 b16 x17)∧BIf b16 (BIf z11 (BIf (true&&decide (0≤i)) (∃(x20:Int) (x21:Int) (x22:Int) (x23:Int) (b24:Bool) (x25:Int),(rowsH m)[Zbb i]? =some (Qz12 x20 x21 x22 x23 b24 x25)∧BIf (!(HalfS.st h10==x20&&(HalfS.no h10==x21&&(HalfS.ch h10==x22&&(HalfS.un h10==x23&&(HalfS.pr h10==b24&&(HalfS.ke h10==x25&&true))))))) (∃(hs28:List HalfS) (m29:List HalfS) (w30:WordS) (o31:HalfS) (i32:Int),rg510=rg510∧(Qz4 hs m i z11)=(Qz13 hs28 m29 i32)∧(Qz5 w h10)=(Qz5 w30 o31)∧(∃(n33:Nat),i32=(n33:Int)∧n33<Zae m29∧HalfS.no o31=HalfS.no (nthH m29 n33)∧HalfS.ch o31=HalfS.ch (nthH m29 n33)∧WordS.ki w30=(3:Int)∧WordS.st w30=HalfS.st (nthH m29 n33)∧WordS.no w30=HalfS.no (nthH m29 n33)∧WordS.ch w30=HalfS.ch (nthH m29 n33)∧WordS.ke w30=HalfS.ke (nthH m29 n33))∧∃(hs34:List HalfS) (m35:List HalfS) (w36:WordS) (o37:HalfS) (i38:Int) (z39:Bool),rg511=rg511∧(Qz13 hs28 m29 i32)=(Qz4 hs34 m35 i38 z39)∧(Qz5 w30 o31)=(Qz5 w36 o37)∧(∃(n40:Nat),i38=(n40:Int)∧n40<Zae m35∧(z39=true∧HalfS.no o37=HalfS.no (nthH m35 n40)∨HalfS.pr (nthH m35 n40)=false∧HalfS.ke (nthH m35 n40)=(0:Int)))∧K .normal (Zak (Zbd 6 (rowsH hs34))::bds 5 (Zci 0 0::Zam::Zam::Zak (bo true)::Zak (Zbd 6 (rowsH m35))::Zam::Zak (i64 (Zad .i64 (i38+1)))::bds 152 [])) [Blk.mk (Qz1 w36) false false 0] b) (∃(hs41:List HalfS) (m42:List HalfS) (w43:WordS) (o44:HalfS) (i45:Int) (z46:Bool),rg511=rg511∧(Qz4 hs m i z11)=(Qz4 hs41 m42 i45 z46)∧(Qz5 w h10)=(Qz5 w43 o44)∧(∃(n47:Nat),i45=(n47:Int)∧n47<Zae m42∧(z46=true∧HalfS.no o44=HalfS.no (nthH m42 n47)∨HalfS.pr (nthH m42 n47)=false∧HalfS.ke (nthH m42 n47)=(0:Int)))∧K .normal (Zak (Zbd 6 (rowsH hs41))::bds 5 (Zci 0 0::Zam::Zam::Zak (bo true)::Zak (Zbd 6 (rowsH m42))::Zam::Zak (i64 (Zad .i64 (i45+1)))::bds 152 [])) [Blk.mk (Qz1 w43) false false 0] b)) False) (∃(hs48:List HalfS) (m49:List HalfS) (w50:WordS) (o51:HalfS) (i52:Int),rg510=rg510∧(Qz4 hs m i z11)=(Qz13 hs48 m49 i52)∧(Qz5 w h10)=(Qz5 w50 o51)∧(∃(n53:Nat),i52=(n53:Int)∧n53<Zae m49∧HalfS.no o51=HalfS.no (nthH m49 n53)∧HalfS.ch o51=HalfS.ch (nthH m49 n53)∧WordS.ki w50=(3:Int)∧WordS.st w50=HalfS.st (nthH m49 n53)∧WordS.no w50=HalfS.no (nthH m49 n53)∧WordS.ch w50=HalfS.ch (nthH m49 n53)∧WordS.ke w50=HalfS.ke (nthH m49 n53))∧∃(hs54:List HalfS) (m55:List HalfS) (w56:WordS) (o57:HalfS) (i58:Int) (z59:Bool),rg511=rg511∧(Qz13 hs48 m49 i52)=(Qz4 hs54 m55 i58 z59)∧(Qz5 w50 o51)=(Qz5 w56 o57)∧(∃(n60:Nat),i58=(n60:Int)∧n60<Zae m55∧(z59=true∧HalfS.no o57=HalfS.no (nthH m55 n60)∨HalfS.pr (nthH m55 n60)=false∧HalfS.ke (nthH m55 n60)=(0:Int)))∧K .normal (Zak (Zbd 6 (rowsH hs54))::bds 5 (Zci 0 0::Zam::Zam::Zak (bo true)::Zak (Zbd 6 (rowsH m55))::Zam::Zak (i64 (Zad .i64 (i58+1)))::bds 152 [])) [Blk.mk (Qz1 w56) false false 0] b)) (∃(hs61:List HalfS) (m62:List HalfS) (w63:WordS) (o64:HalfS) (i65:Int) (z66:Bool),rg511=rg511∧(Qz4 hs m i z11)=(Qz4 hs61 m62 i65 z66)∧(Qz5 w h10)=(Qz5 w63 o64)∧(∃(n67:Nat),i65=(n67:Int)∧n67<Zae m62∧(z66=true∧HalfS.no o64=HalfS.no (nthH m62 n67)∨HalfS.pr (nthH m62 n67)=false∧HalfS.ke (nthH m62 n67)=(0:Int)))∧K .normal (Zak (Zbd 6 (rowsH hs61))::bds 5 (Zci 0 0::Zam::Zam::Zak (bo true)::Zak (Zbd 6 (rowsH m62))::Zam::Zak (i64 (Zad .i64 (i65+1)))::bds 152 [])) [Blk.mk (Qz1 w63) false false 0] b)) False) False) (K (Exit.exit 0) (Zak (Zbd 6 (rowsH hs))::bds 5 (Zci 0 0::Zam::Zam::Zak (bo true)::Zak (Zbd 6 (rowsH m))::Zam::Zak (i64 i)::bds 152 [])) [Blk.mk (Qz1 w) false false 0] b)):=by kernel_rfl
set_option maxRecDepth 20000
set_option maxHeartbeats 1000000
theorem nthH_mem {hs:List HalfS} {i:Nat} (h:i<hs.length):nthH hs i∈hs:=by
 have e:nthH hs i=hs[i]:=by simp [nthH,h]
 rw [e];exact List.getElem_mem h
theorem wl5_ok {Ev:Env Tryd.prog} (c:Code) (tm:List AV) (hp:List Blk) (b:Ev.β) (K:Exit→List AV→List Blk→Ev.β→Prop) (h:wl5 c tm hp b K):W Ev c ⟨tm,hp,b⟩ (fun e s=>K e s.tm s.hp s.b):=by
 have key:∀ {c:Code} {tm0 tm1:List AV} {hp0:List Blk} {keep:List Nat},(∀K':Exit→List AV→List Blk→Ev.β→Prop,K' .normal tm1 hp0 b→wpc Tryd.prog ⟨[], [],wlW Ev,Ev.Y,false⟩ 100 c tm0 hp0 b (maskT keep K'))→
     K .normal tm1 hp0 b→W Ev c ⟨tm0,hp0,b⟩ (fun e s=>K e s.tm s.hp s.b):=fun hr hk=>
   W.castPost (wpc_sound mixed (CX.Ok.of Zat Zap) (hr (fun e tm hp b'=>K e tm hp b') hk) fun e tm hp b hK=>⟨_,hp,maskTm_le _ tm 0,Zcy _,hK⟩)
 unfold wl5 at h
 split at h
 · obtain ⟨hs,m,w,o,i,rfl,htm,rfl,⟨n,rfl,hn,e1,e2,e3,e4,e5,e6,e7⟩,hK⟩:=h
   refine W.cast (htm▸maskTm_le _ tm 0) (Zcy _) (key (keep:= [0,6,9,10,12,13,14]) (fun K' hk=> ?_) hK)
   rw [g10 _ _ _ K' hs m w o n,Zcb,rowsH_at hn]
   have b0:(true&&decide ((0:Int)≤(n:Int)))=true:=by simp
   have t7:(w.ke==(nthH m n).ke)=true:=by simp [e7]
   refine Zca b0 ⟨_,_,_,_,_,_,rfl,Zca (by simp [e1]) (Zca b0 ⟨_,_,_,_,_,_,rfl,Zca (by simp [e2]) (Zca (by simp [e3]) (Zca b0 ⟨_,_,_,_,_,_,rfl,Zca (by simp [e4]) (Zca b0 ⟨_,_,_,_,_,_,rfl,Zca (by simp [e5]) (Zca b0 ⟨_,_,_,_,_,_,rfl,Zca (by simp [e6]) (Zca b0 ⟨_,_,_,_,_,_,rfl, ?_⟩)⟩)⟩)⟩))⟩)⟩
   rw [t7];exact hk
 · obtain ⟨hs,m,w,o,i,z,rfl,htm,rfl,⟨n,rfl,hn,hz⟩,hK⟩:=h
   refine W.cast (htm▸maskTm_le _ tm 0) (Zcy _) (key (keep:= [0,6,9,10,12,13,14]) (fun K' hk=> ?_) hK)
   rw [g11 _ _ _ K' hs m w o n z,Zcb,rowsH_at hn]
   have b0:(true&&decide ((0:Int)≤(n:Int)))=true:=by simp
   refine Zba (fun g1=>Zca b0 ⟨_,_,_,_,_,_,rfl,Zba (fun g2=>hk) fun g2=> ?_⟩) fun g1=> ?_
   · rcases hz with ⟨_,h2⟩|⟨h1,h2⟩
     · rw [h2] at g2;simp at g2
     · refine Zca b0 ⟨_,_,_,_,_,_,rfl,Zca (by rw [h1];rfl) (Zca b0 ⟨_,_,_,_,_,_,rfl, ?_⟩)⟩
       have:((nthH m n).ke==(0:Int))=true:=by simp [h2]
       rw [h2];exact hk
   · rcases hz with ⟨h1,h2⟩|⟨h1,h2⟩
     · rw [h1] at g1;cases g1
     · refine Zca b0 ⟨_,_,_,_,_,_,rfl,Zca (by rw [h1];rfl) (Zca b0 ⟨_,_,_,_,_,_,rfl, ?_⟩)⟩
       have:((nthH m n).ke==(0:Int))=true:=by simp [h2]
       rw [h2];exact hk
 · exact h.elim
theorem cNone_ok' (n:Nat):∀args K,cNone args K→∃x,PCall Tryd.prog n args x∧K x:=fun args K h=>by cases h
theorem TL5_ok:CallsOk Tryd.prog TL5:=Zan cOf_ok (Zan (cNone_ok' _) (Zan (cNone_ok' _) Zat))
def AtP (hs:List HalfS) (w:WordS) (x:HalfS):Prop:=(hasH x.st hs=true∧getH x.st hs=x)∨(x.pr=false∧x.ke=0)∨
   (hasH x.st hs=true∧(getH x.st hs).no=x.no∧(getH x.st hs).ch=x.ch∧w.ki=3∧w.st=x.st∧w.no=x.no∧w.ch=x.ch∧w.ke=x.ke)
theorem wr5 {Ev:Env Tryd.prog} {b:Ev.β} {Q:Exit→St Ev.β→Prop} (hs m:List HalfS) (w:WordS) (hl:hs.length≤9223372036854775807) (hm:m.length≤1000) (hp:∀x∈m,AtP hs w x)
   (hQ:Q (.exit 0) ⟨tm5 hs m m.length bb5, [wordB w],b⟩):∀(n i:Nat),i+n=m.length→WR Ev lp5 (n+1) ⟨tm5 hs m i bb5, [wordB w],b⟩ Q
 | 0,i,hi=>by
   refine Zcq (X:=⟨TL5, [],wl5,Ev.Y,false⟩) [0,6,9,10,12] mixed (CX.Ok.ofWl (u:=false) TL5_ok Zap wl5_ok) (k:=100) ?_
   refine Eq.mpr (r5 _ _ _ hs m w i) ?_
   obtain rfl:i=m.length:=by omega
   rw [rowsH_len]
   exact BIf.f (by simp) hQ
 | n+1,i,hi=>by
   refine Zcq (X:=⟨TL5, [],wl5,Ev.Y,false⟩) [0,6,9,10,12] mixed (CX.Ok.ofWl (u:=false) TL5_ok Zap wl5_ok) (k:=100) ?_
   refine Eq.mpr (r5 _ _ _ hs m w i) ?_
   have hi':i<m.length:=by omega
   have hat:=hp _ (nthH_mem hi')
   have ih:=wr5 hs m w hl hm hp hQ n (i+1) (by omega)
   have b0:(true&&decide ((0:Int)≤(i:Int)))=true:=by simp
   rw [rowsH_len,Zcb,rowsH_at hi']
   refine Zca (by simp;omega) (Zca b0 ⟨_,_,_,_,_,_,rfl,hs,(nthH m i).st,_,_,rfl,⟨hl,rfl,rfl⟩,Zca b0 ⟨_,_,_,_,_,_,rfl, ?_⟩⟩)
   have last:∀(o:HalfS) (z:Bool),((z=true∧o.no=(nthH m i).no)∨((nthH m i).pr=false∧(nthH m i).ke=0))→(∃n:Nat,(i:Int)=n∧n<m.length∧((z=true∧o.no=(nthH m n).no)∨((nthH m n).pr=false∧(nthH m n).ke=0))):=fun o z h=>⟨i,rfl,hi',h⟩
   refine Zba (fun g1=>Zba (fun g2=>Zca b0 ⟨_,_,_,_,_,_,rfl,Zba (fun g3=> ?_) fun g3=> ?_⟩) fun g2=> ?_) fun g1=> ?_
   · rcases hat with ⟨h1,h2⟩|⟨h1,_⟩|⟨h1,h2,h3,h4,h5,h6,h7,h8⟩
     · rw [eqH,h2] at g3;simp at g3
     · rw [h1] at g1;cases g1
     · refine ⟨hs,m,w,_,_,rfl,by rw [g2],rfl,⟨i,rfl,hi',h2,h3,h4,h5,h6,h7,h8⟩,hs,m,w,_,_,true,rfl,rfl,rfl,last _ _ (.inl ⟨rfl,h2⟩), ?_⟩
       rw [wrapN (by omega)];exact ih
   · rcases hat with ⟨h1,h2⟩|⟨h1,_⟩|⟨h1,h2,_⟩
     · refine ⟨hs,m,w,_,_,_,rfl,rfl,rfl,last _ _ (.inl ⟨h1,by rw [h2]⟩), ?_⟩
       rw [wrapN (by omega)];exact ih
     · rw [h1] at g1;cases g1
     · refine ⟨hs,m,w,_,_,_,rfl,rfl,rfl,last _ _ (.inl ⟨h1,h2⟩), ?_⟩
       rw [wrapN (by omega)];exact ih
   · rcases hat with ⟨h1,_⟩|⟨h1,_⟩|⟨h1,_⟩
     · rw [h1] at g2;cases g2
     · rw [h1] at g1;cases g1
     · rw [h1] at g2;cases g2
   · rcases hat with ⟨h1,h2⟩|⟨h1,h2⟩|⟨h1,h2,_⟩
     · refine ⟨hs,m,w,_,_,_,rfl,rfl,rfl,last _ _ (.inl ⟨h1,by rw [h2]⟩), ?_⟩
       rw [wrapN (by omega)];exact ih
     · refine ⟨hs,m,w,_,_,_,rfl,rfl,rfl,last _ _ (.inr ⟨h1,h2⟩), ?_⟩
       rw [wrapN (by omega)];exact ih
     · refine ⟨hs,m,w,_,_,_,rfl,rfl,rfl,last _ _ (.inl ⟨h1,h2⟩), ?_⟩
       rw [wrapN (by omega)];exact ih
def wlL5 {β:Type}:WLT β:=fun t tm hp b K=>∃(hs m:List HalfS) (w:WordS),t= .loop lp5∧maskTm [0,6,9,10,12] 0 tm=tm5 hs m 0 bb5∧hp= [wordB w]∧(hs.length≤9223372036854775807∧m.length≤1000∧∀x∈m,AtP hs w x)∧
 K (.exit 0) (tm5 hs m m.length bb5) [wordB w] b
theorem wlL5_ok {Ev:Env Tryd.prog} (c:Code) (tm:List AV) (hp:List Blk) (b:Ev.β) (K:Exit→List AV→List Blk→Ev.β→Prop) (h:wlL5 c tm hp b K):W Ev c ⟨tm,hp,b⟩ (fun e s=>K e s.tm s.hp s.b):=by
 obtain ⟨hs,m,w,rfl,htm,rfl,⟨hl,hm,hp⟩,hK⟩:=h
 refine W.cast (htm▸maskTm_le _ tm 0) (Zcy _) ?_
 exact W.rounds (wr5 (Q:=fun e s=>K e s.tm s.hp s.b) hs m w hl hm hp hK m.length 0 (by omega))
def TL5f:List (Nat×(List AV→(AV→Prop)→Prop)):= [(10,cHead),(11,cHearV)]
theorem TL5f_ok:CallsOk Tryd.prog TL5f:=Zan cHead_ok (Zan cHearV_ok Zat)
abbrev Qz26 (v0:List HalfS) (v1:List HalfS):=Zak (Zbd 6 (rowsH v0))::bds 5 (Zci 0 0::Zam::Zam::Zak (bo true)::Zak (Zbd 6 (rowsH v1))::Zam::Zak (i64 0)::bds 152 [])
theorem law5_nf (hs:List HalfS) (me fr:Int) (w:WordS):wpFn Tryd.prog ⟨TL5f, [],wlL5,y,false⟩ 100 Tryd.f5 [.d (.sl 6 (rowsH hs)), .d (i64 me),wordA w, .d (i64 fr)] b R=(([]:List AV)= []∧∃(hs0:List HalfS) (q1:List HalfS) (me2:Int) (fr3:Int) (e4:Int) (w5:WordS), [Zak (Zbd 6 (rowsH hs)),Zak (i64 me),Zbv (Qz1 w),Zak (i64 fr)]= [Zak (Zbd 6 (rowsH hs0)),Zak (i64 me2),Zbv (Qz1 w5),Zak (i64 fr3)]∧(Zae hs0≤9223372036854775807∧q1=Prod.fst (hearV hs0 me2 w5 fr3)∧e4=Prod.snd (hearV hs0 me2 w5 fr3))∧BIf (e4 !=(0:Int)) (R (.d (bo true)) b) (BIf (decide (((Zae (rowsH hs):Nat):Int)>(20:Int))) (R (.d (bo true)) b) (∃(hs6:List HalfS) (m7:List HalfS) (w8:WordS),Code.loop lp5=Code.loop lp5∧(Qz26 hs q1)=(Qz26 hs6 m7)∧ [Blk.mk (Qz1 w) false false 0]= [Blk.mk (Qz1 w8) false false 0]∧(Zae hs6≤9223372036854775807∧Zae m7≤1000∧∀(x:HalfS),x∈m7→hasH (HalfS.st x) hs6=true∧getH (HalfS.st x) hs6=x∨HalfS.pr x=false∧HalfS.ke x=(0:Int)∨hasH (HalfS.st x) hs6=true∧HalfS.no (getH (HalfS.st x) hs6)=HalfS.no x∧HalfS.ch (getH (HalfS.st x) hs6)=HalfS.ch x∧WordS.ki w8=(3:Int)∧WordS.st w8=HalfS.st x∧WordS.no w8=HalfS.no x∧WordS.ch w8=HalfS.ch x∧WordS.ke w8=HalfS.ke x)∧R (.d (bo true)) b))):=by kernel_rfl
theorem pcLaw5 (hs:List HalfS) (me fr:Int) (w:WordS) (hl:hs.length≤9223372036854775807):PCall Tryd.prog 5 [.d (.sl 6 (rowsH hs)), .d (i64 me),wordA w, .d (i64 fr)] (.d (bo true)):=by
 refine PCall.ofFnW (n:=100) (u:=false) (fun _=>wlL5) mixed TL5f_ok Zap (fun Ev=>wlL5_ok) Tryd.func5 (by rfl) (by rfl) fun Ev bb=> ?_
 rw [law5_nf,rowsH_len]
 refine ⟨rfl,hs,_,me,fr,_,w,rfl,⟨hl,rfl,rfl⟩,Zba (fun _=>rfl) fun h1=>Zba (fun _=>rfl) fun h2=> ?_⟩
 have hh:=hear_ok (hs:=hs) (me:=me) (w:=w) (fr:=fr) (by simpa using h1)
 have hlm:=valid_len (heard_valid hh)
 exact ⟨hs,_,w,rfl,rfl,rfl,⟨hl,by omega,fun x hx=>proofs_at hh hx⟩,rfl⟩
end Go.Proofs.YtlnenbbmhidjeaaDoor.Am
