import Derived.Test.YtlnenbbmhidjeaaDoorP7J2
import Derived.Test.YtlnenbbmhidjeaaDoorTie
import Derived.Test.YtlnenbbmhidjeaaDoorCards
import Derived.ProofKit
import Derived.LaidMore
import Derived.OpenShut
import Derived.Stop.Joined
set_option linter.unusedSimpArgs false
set_option linter.unusedVariables false
namespace Go.Proofs.YtlnenbbmhidjeaaDoor.Am
open Go Go.RowKit Go.Proofs
open AV renaming agg → Zbb, bad → Zal, d → Zaf, fn → Zdc, ptr → Zcc, rptr → Zdo
open BIf renaming of → Zat, t → Zcp
open Bool renaming and_eq_true → Zag, false_eq_true → Zbq
open CallsOk renaming cons → Zam, nil → Zas
open Go.Code renaming loop → Zdi
open Dv renaming sl → Zbc
open Env renaming mapped → Zcj
open Go.Exit renaming exit → Zea
open Int renaming tmod → Zdn, toNat → Zbl, toNat_natCast → Zdb
open Go.IntKind renaming i64 → Zbj, u64 → Zch, wrap → Zad
open LeH renaming refl → Zdj
open List renaming length → Zae, range → Zay, replicate → Zap
open PCall renaming ofFn → Zcd
open Prod renaming fst → Zcx, snd → Zcy
open SCallsOk renaming cons → Zcq, nil → Zao
open Go.Value renaming map → Zbe
open WR renaming ofMask → Zcr
variable {β:Type} (wl:WLT β) (y:YieldT β) (b:β) (R:AV→β→Prop) (RS:AV→List Blk→β→Prop) (K:Exit→List AV→List Blk→β→Prop) (Kh:Exit→List Blk→β→Prop) (Q:β→Prop)
open AV (bad)
set_option linter.unusedVariables false
set_option maxRecDepth 20000
set_option maxHeartbeats 1000000
def inN (n h:Int):Bool:=decide (n≥0)&&decide (n≤h)
def belowS (x n:Int):Int:=if n<1 then 0 else if n>1000000000 then 0 else Zdn (firstS x) n
structure HalfS where
 st:Int
 no:Int
 ch:Int
 un:Int
 pr:Bool
 ke:Int
 deriving DecidableEq,Inhabited
def halfA (h:HalfS):AV:= .agg [.d (i64 h.st), .d (i64 h.no), .d (i64 h.ch), .d (i64 h.un), .d (bo h.pr), .d (i64 h.ke)]
def halfR (h:HalfS):List Dv:= [i64 h.st,i64 h.no,i64 h.ch,i64 h.un,bo h.pr,i64 h.ke]
structure WordS where
 ki:Int
 st:Int
 sp:Int
 no:Int
 ch:Int
 ke:Int
 rf:Int
 rn:Int
 deriving DecidableEq,Inhabited
def wordA (w:WordS):AV:= .agg [.d (i64 w.ki), .d (i64 w.st), .d (i64 w.sp), .d (i64 w.no), .d (i64 w.ch), .d (i64 w.ke), .d (i64 w.rf), .d (i64 w.rn)]
def wordR (w:WordS):List Dv:= [i64 w.ki,i64 w.st,i64 w.sp,i64 w.no,i64 w.ch,i64 w.ke,i64 w.rf,i64 w.rn]
def nodeN (n:Int):Bool:=inN n 59
def halfOk (h:HalfS):Bool:=nodeN h.st&&(inN h.no 1000000000&&(inN h.ch 1000000000&&(inN h.un 1000000000&&(inN h.ke 2000000&&(h.pr||h.ke==0)))))
theorem inN_nf (n h:Int):wpFn Tryd.prog ⟨[], [],wl,y,false⟩ 100 Tryd.f29 [.d (i64 n), .d (i64 h)] b R=(BIf (decide (n≥(0:Int))) (R (Zaf (bo (decide (n≤h)))) b) (R (Zaf (bo false)) b)):=by kernel_rfl
theorem below_nf (x n:Int):wpFn Tryd.prog ⟨[(57,c58)], [],wl,y,false⟩ 100 Tryd.f49 [.d (u64 x), .d (i64 n)] b R=(BIf (decide (n<(1:Int))) (R (.d (i64 0)) b) (BIf (decide (n>(1000000000:Int))) (R (.d (i64 0)) b) (∃(x0:Int), [Zaf (u64 x)]= [Zaf (u64 x0)]∧BIf (decide (n=(0:Int))||false) False (R (.d (i64 (Zdn (firstS x0) n))) b)))):=by kernel_rfl
theorem pcIn (n h:Int):PCall Tryd.prog 29 [.d (i64 n), .d (i64 h)] (.d (bo (inN n h))):=by
 refine Zcd (n:=100) (u:=false) mixed Zas Zao Tryd.func29 (by rfl) (by rfl) fun Ev bb=> ?_
 rw [inN_nf]
 exact Zat (fun h1=>by rw [inN,h1];rfl) fun h1=>by rw [inN,h1];rfl
def cIn (args:List AV) (K:AV→Prop):Prop:=∃(n h:Int),args= [.d (i64 n), .d (i64 h)]∧K (.d (bo (inN n h)))
theorem cIn_ok:∀args K,cIn args K→∃x,PCall Tryd.prog 29 args x∧K x:=by
 rintro _ K ⟨n,h,rfl,hk⟩;exact ⟨_,pcIn n h,hk⟩
theorem pcBelow (x n:Int):PCall Tryd.prog 49 [.d (u64 x), .d (i64 n)] (.d (i64 (belowS x n))):=by
 refine Zcd (n:=100) (u:=false) mixed (Zam c58_ok Zas) Zao Tryd.func49 (by rfl) (by rfl) fun Ev bb=> ?_
 rw [below_nf]
 refine Zat (fun h1=>by rw [belowS,if_pos (of_decide_eq_true h1)]) fun h1=>Zat (fun h2=>by rw [belowS,if_neg (of_decide_eq_false h1),if_pos (of_decide_eq_true h2)]) fun h2=>⟨x,rfl, ?_⟩
 have h1:=of_decide_eq_false h1
 rw [belowS,if_neg h1,if_neg (of_decide_eq_false h2)]
 exact BIf.f (by simp;omega) rfl
def cBelow (args:List AV) (K:AV→Prop):Prop:=∃(x n:Int),args= [.d (u64 x), .d (i64 n)]∧K (.d (i64 (belowS x n)))
theorem cBelow_ok:∀args K,cBelow args K→∃x,PCall Tryd.prog 49 args x∧K x:=by
 rintro _ K ⟨x,n,rfl,hk⟩;exact ⟨_,pcBelow x n,hk⟩
def TN:List (Nat×(List AV→(AV→Prop)→Prop)):= [(29,cIn)]
theorem TN_ok:CallsOk Tryd.prog TN:=Zam cIn_ok Zas
theorem nodeN_nf (n:Int):wpFn Tryd.prog ⟨TN, [],wl,y,false⟩ 100 Tryd.f54 [.d (i64 n)] b R=(∃(n0:Int),∃(h1:Int), [Zaf (i64 n),Zaf (i64 (59:Int))]= [Zaf (i64 n0),Zaf (i64 h1)]∧R (Zaf (bo (inN n0 h1))) b):=by kernel_rfl
theorem pcNode (n:Int):PCall Tryd.prog 54 [.d (i64 n)] (.d (bo (nodeN n))):=by
 refine Zcd (n:=100) (u:=false) mixed TN_ok Zao Tryd.func54 (by rfl) (by rfl) fun Ev bb=> ?_
 rw [nodeN_nf]
 exact ⟨n,59,rfl,rfl⟩
def cNode (args:List AV) (K:AV→Prop):Prop:=∃(n:Int),args= [.d (i64 n)]∧K (.d (bo (nodeN n)))
theorem cNode_ok:∀args K,cNode args K→∃x,PCall Tryd.prog 54 args x∧K x:=by
 rintro _ K ⟨n,rfl,hk⟩;exact ⟨_,pcNode n,hk⟩
def TNn:List (Nat×(List AV→(AV→Prop)→Prop)):= [(29,cIn),(54,cNode)]
theorem TNn_ok:CallsOk Tryd.prog TNn:=Zam cIn_ok (Zam cNode_ok Zas)
theorem halfOk_nf (h:HalfS):wpFn Tryd.prog ⟨TNn, [],wl,y,false⟩ 100 Tryd.f36 [halfA h] b R=(∃(n0:Int), [Zaf (i64 (HalfS.st h))]= [Zaf (i64 n0)]∧BIf (nodeN n0) (∃(n1:Int) (h2:Int), [Zaf (i64 (HalfS.no h)),Zaf (i64 1000000000)]= [Zaf (i64 n1),Zaf (i64 h2)]∧BIf (inN n1 h2) (∃(n3:Int) (h4:Int), [Zaf (i64 (HalfS.ch h)),Zaf (i64 1000000000)]= [Zaf (i64 n3),Zaf (i64 h4)]∧BIf (inN n3 h4) (∃(n5:Int) (h6:Int), [Zaf (i64 (HalfS.un h)),Zaf (i64 1000000000)]= [Zaf (i64 n5),Zaf (i64 h6)]∧BIf (inN n5 h6) (∃(n7:Int) (h8:Int), [Zaf (i64 (HalfS.ke h)),Zaf (i64 2000000)]= [Zaf (i64 n7),Zaf (i64 h8)]∧BIf (inN n7 h8) (BIf (HalfS.pr h) (R (.d (bo true)) b) (R (.d (bo (HalfS.ke h==(0:Int)))) b)) (R (.d (bo false)) b)) (R (.d (bo false)) b)) (R (.d (bo false)) b)) (R (.d (bo false)) b)) (R (.d (bo false)) b)):=by kernel_rfl
theorem pcHalf (h:HalfS):PCall Tryd.prog 36 [halfA h] (.d (bo (halfOk h))):=by
 refine Zcd (n:=100) (u:=false) mixed TNn_ok Zao Tryd.func36 (by rfl) (by rfl) fun Ev bb=> ?_
 rw [halfOk_nf]
 refine ⟨_,rfl,Zat (fun h1=>⟨_,_,rfl,Zat (fun h2=>⟨_,_,rfl,Zat (fun h3=>⟨_,_,rfl,Zat (fun h4=>⟨_,_,rfl,Zat (fun h5=>Zat (fun h6=> ?_) fun h6=> ?_) fun h5=> ?_⟩) fun h4=> ?_⟩) fun h3=> ?_⟩) fun h2=> ?_⟩) fun h1=> ?_⟩
 all_goals simp only [halfOk, *,Bool.true_and,Bool.false_and,Bool.true_or,Bool.false_or]
def cHalf (args:List AV) (K:AV→Prop):Prop:=∃(h:HalfS),args= [halfA h]∧K (.d (bo (halfOk h)))
theorem cHalf_ok:∀args K,cHalf args K→∃x,PCall Tryd.prog 36 args x∧K x:=by
 rintro _ K ⟨n,rfl,hk⟩;exact ⟨_,pcHalf n,hk⟩
def rowsH (hs:List HalfS):List (List Dv):=hs.map halfR
noncomputable def lpVa:Code:=sub [1,0,1,2,3] (code Tryd.f13)
def tmVa (hs:List HalfS) (n i:Int):List AV:= [.d (.sl 6 (rowsH hs)), .bad, .d (bo false), .bad, .bad, .d (.sl 6 (rowsH hs)), .d (i64 n), .d (i64 i)]++Zap 26 .bad
def TVa:List (Nat×(List AV→(AV→Prop)→Prop)):= [(36,cHalf)]
theorem TVa_ok:CallsOk Tryd.prog TVa:=Zam cHalf_ok Zas
abbrev Qz4 (v0:HalfS):List AV:= [Zaf (i64 (HalfS.st v0)),Zaf (i64 (HalfS.no v0)),Zaf (i64 (HalfS.ch v0)),Zaf (i64 (HalfS.un v0)),Zaf (bo (HalfS.pr v0)),Zaf (i64 (HalfS.ke v0))]
abbrev Qz14 (v0:Int) (v1:Int) (v2:Int) (v3:Int) (v4:Bool) (v5:Int):List AV:= [Zaf (i64 v0),Zaf (i64 v1),Zaf (i64 v2),Zaf (i64 v3),Zaf (bo v4),Zaf (i64 v5)]
abbrev Qz19 (v0:Int) (v1:Int) (v2:Int) (v3:Int) (v4:Bool) (v5:Int):= [i64 v0,i64 v1,i64 v2,i64 v3,bo v4,i64 v5]
def bds:Nat→List AV→List AV|0,l=>l|n+1,l=>Zal::bds n l
abbrev Qz21 (v0:List HalfS) (v1:Int) (v2:Int):=Zaf (Zbc 6 (rowsH v0))::Zal::Zaf (bo false)::Zal::Zal::Zaf (Zbc 6 (rowsH v0))::Zaf (i64 v1)::Zaf (i64 v2)::bds 26 []
theorem rVa (hs:List HalfS) (n i:Int):wpc Tryd.prog ⟨TVa, [],wl,y,false⟩ 100 lpVa (tmVa hs n i) [] b (maskK 0 [0,2,5,6,7] K)=(BIf (decide (i<n)) (BIf (true&&decide (0≤i)) (∃(x0:Int) (x1:Int) (x2:Int) (x3:Int) (b4:Bool) (x5:Int),(rowsH hs)[Zbl i]? =some (Qz19 x0 x1 x2 x3 b4 x5)∧∃(h8:HalfS), [Zbb (Qz14 x0 x1 x2 x3 b4 x5)]= [Zbb (Qz4 h8)]∧BIf (!halfOk h8) (K .ret (Qz21 hs n i) [] b) (BIf (decide (i>(0:Int))) (BIf (true&&decide ((0:Int)≤Zad .i64 (i - 1))) (∃(x9:Int) (x10:Int) (x11:Int) (x12:Int) (b13:Bool) (x14:Int),(rowsH hs)[Zbl (Zad .i64 (i - 1))]? =some (Qz19 x9 x10 x11 x12 b13 x14)∧BIf (decide (x0≤x9)) (K .ret (Qz21 hs n i) [] b) (K .normal (Zaf (Zbc 6 (rowsH hs))::Zal::Zaf (bo false)::Zal::Zal::Zaf (Zbc 6 (rowsH hs))::Zaf (i64 n)::Zaf (i64 (Zad .i64 (i+1)))::bds 26 []) [] b)) False) (K .normal (Zaf (Zbc 6 (rowsH hs))::Zal::Zaf (bo false)::Zal::Zal::Zaf (Zbc 6 (rowsH hs))::Zaf (i64 n)::Zaf (i64 (Zad .i64 (i+1)))::bds 26 []) [] b))) False) (K (Zea 0) (Qz21 hs n i) [] b)):=by kernel_rfl
open Go.Maps (Keyed)
variable {β:Type} (wl:WLT β) (y:YieldT β) (b:β) (R:AV→β→Prop) (RS:AV→List Blk→β→Prop) (K:Exit→List AV→List Blk→β→Prop) (Kh:Exit→List Blk→β→Prop) (Q:β→Prop)
def zeroH:HalfS:=⟨0,0,0,0,false,0⟩
def getH (k:Int) (hs:List HalfS):HalfS:=(hs.find? fun h=>h.st==k).getD zeroH
def hasH (k:Int) (hs:List HalfS):Bool:=hs.any fun h=>h.st==k
def insH (h:HalfS):List HalfS→List HalfS
 | []=> [h]
 |x::r=>if h.st<x.st then h::x::r else x::insH h r
def putH (h:HalfS) (hs:List HalfS):List HalfS:=insH h (hs.filter fun x=> !(x.st==h.st))
def entH (hs:List HalfS):MC:=hs.map fun h=>(Lit.int .i64 h.st,halfA h)
abbrev SpG:=Option (Nat×List HalfS)
def spF:SpG→List MapC
 |none=> []
 |some (d,hs)=> [⟨d,3,entH hs⟩]
structure NoG (g:SpG):Prop where
 e:g=none
def mapA (d:Nat):AV:= .d (.s (.map (some d)))
structure InI (k:Int):Prop where
 lo: -9223372036854775808≤k
 hi:k≤9223372036854775807
theorem sameKey_int (a k:Int):(Lit.int .i64 a).sameKey (Lit.int .i64 k)=(a==k):=by
 by_cases h:a=k<;>simp [Lit.sameKey,h]
theorem entH_at (k:Int) (hs:List HalfS):atK (Lit.int .i64 k) (halfA zeroH) (entH hs)=halfA (getH k hs):=by
 induction hs with
 |nil=>rfl
 | cons h t ih=>
   simp only [atK,entH,getH,List.map_cons,List.find?_cons,sameKey_int] at ih ⊢
   cases h.st==k
   · exact ih
   · rfl
theorem entH_has (k:Int) (hs:List HalfS):hasK (Lit.int .i64 k) (entH hs)=hasH k hs:=by
 simp [hasK,entH,hasH,List.any_map,Function.comp_def,sameKey_int]
theorem entH_del (k:Int) (hs:List HalfS):delK (Lit.int .i64 k) (entH hs)=entH (hs.filter fun x=> !(x.st==k)):=by
 simp only [delK,entH,List.filter_map]
 congr 1
 apply List.filter_congr
 intro x _
 simp only [Function.comp,sameKey_int]
theorem entH_ins (h:HalfS) (hs:List HalfS):insK (Lit.int .i64 h.st,halfA h) (entH hs)=entH (insH h hs):=by
 induction hs with
 |nil=>rfl
 | cons x t ih=>
   simp only [entH,List.map_cons,insK,insH,Lit.before] at ih ⊢
   by_cases hx:h.st<x.st
   · simp [hx]
   · simp [hx,ih]
theorem entH_put (h:HalfS) (hs:List HalfS):putK (Lit.int .i64 h.st) (halfA h) (entH hs)=entH (putH h hs):=by
 rw [putK,entH_del,entH_ins];rfl
theorem keyed3:Keyed Tryd.prog 3:=Go.Maps.int_keyed (q:= .i64) (by kernel_rfl)
theorem under59:Tryd.prog.underlying 59=some (.map 3 40):=by kernel_rfl
theorem key3 {k:Int} (h:InI k):keyOf Tryd.prog 3 (.int .i64 k)=some (.int .i64 k):=Go.Maps.keyOf_int_mk (by kernel_rfl) (by obtain ⟨h1,h2⟩:=h;simp [Lit.wf,IntKind.min,IntKind.max,IntKind.signed,IntKind.bits];omega)
def zeroHV:Value:= .agg #[.int .i64 0, .int .i64 0, .int .i64 0, .int .i64 0, .bool false, .int .i64 0]
theorem zero40 (w:World):(zeroValue 40).run Tryd.prog w= .ok zeroHV w:=by rfl
theorem zeroH_rv (S:Pr) (w:World):RV S w [] none (halfA zeroH) zeroHV:=by
 refine .agg rfl fun i c v h1 h2=> ?_
 match i with
 |0|1|2|3|4|5=>simp [zeroH] at h1 h2;subst h1 h2;exact .d (.s _)
 |i+6=>simp at h1
def MCT (γ:Type):=List (Nat×(List AV→γ→(AV→γ→Prop)→Prop))
def spM (C:MCT SpG):MHook SpG:=fun o s g K=>match o.op with
 | .makeMap t none=>some (NoG g∧t=59∧∀d,K {tm:=putA s.tm o.dst (mapA d),hp:=s.hp,pv:=pvPut s.pv o.dst} (some (d, [])))
 | .lookup t m x ok=>some (t=59∧∃(d:Nat) (hs:List HalfS) (k:Int) (h:HalfS) (z:Bool),g=some (d,hs)∧evalA s.tm m=mapA d∧evalA s.tm x= .d (i64 k)∧InI k∧(h=getH k hs∧z=hasH k hs)∧
     if ok then BIf z (K {tm:=putA s.tm o.dst (.tup [halfA h, .d (bo true)]),hp:=s.hp,pv:=pvPut s.pv o.dst} g) (K {tm:=putA s.tm o.dst (.tup [halfA h, .d (bo false)]),hp:=s.hp,pv:=pvPut s.pv o.dst} g)
     else K {tm:=putA s.tm o.dst (halfA h),hp:=s.hp,pv:=pvPut s.pv o.dst} g)
 | .mapUpdate t m x v=>some (t=59∧∃(d:Nat) (hs hs':List HalfS) (h:HalfS),g=some (d,hs)∧evalA s.tm m=mapA d∧evalA s.tm x= .d (i64 h.st)∧evalA s.tm v=halfA h∧InI h.st∧hs.length<1000000∧hs'=putH h hs∧
     K {tm:=putA s.tm o.dst (.d (.s undef)),hp:=s.hp,pv:=pvPut s.pv o.dst} (some (d,hs')))
 | .call c=>match c.callee with
   | .builtin .len=>match c.args[0]?,c.argTypes[0]? with
     |some m,some t=>if Nat.beq t 59&&(Nat.beq c.args.size 1&&Nat.beq c.argTypes.size 1) then
         some (∃(d:Nat) (hs:List HalfS),g=some (d,hs)∧evalA s.tm m=mapA d∧K {tm:=putA s.tm o.dst (.d (i64 hs.length)),hp:=s.hp,pv:=pvPut s.pv o.dst} g)
       else none
     |_,_=>none
   | .value _=>match opCall s.tm o with
     | some (k,args)=>match C.lookup k with
       |some f=>some (closeds args=true∧f args g fun x g'=>K {tm:=putA s.tm o.dst x.view,hp:=s.hp,pv:=pvPut s.pv o.dst} g')
       |none=>none
     |none=>none
   |_=>none
 |_=>none
def MCTok (C:MCT SpG):Prop:=∀k f,C.lookup k=some f→∀args g K,f args g K→∃R,MCall Tryd.prog spF k args g R∧∀x g',R x g'→K x g'
theorem spF_mem {d:Nat} {hs:List HalfS}:(⟨d,3,entH hs⟩:MapC)∈spF (some (d,hs)):=by simp [spF]
theorem spM_ok {C:MCT SpG} (hC:MCTok C) (N:Nat) (w0:World) (lent:List Nat):MOk (Zcj Tryd.prog none N w0 lent spF) (spM C):=by
 intro o s g K p hp h
 unfold spM at hp
 split at hp
 ·
   rename_i t ho
   cases hp
   obtain ⟨⟨rfl⟩,rfl,hk⟩:=h
   refine ⟨_,makeMap_env (g:=none) (mk:=fun d=>some (d, [])) (k:=3) ho (fun d=>rfl), ?_⟩
   rintro s' b' ⟨d,rfl,rfl⟩
   exact hk d
 ·
   rename_i t m x ok ho
   cases hp
   obtain ⟨rfl,d,hs,k,_,_,rfl,hm,hx,hi,⟨rfl,rfl⟩,hk⟩:=h
   refine ⟨_,lookup_env (g:=some (d,hs)) (c:=⟨d,3,entH hs⟩) (z:=halfA zeroH) ho spF_mem hm (key:= .int .i64 k) (by rw [hx];rfl) keyed3 under59 (key3 hi) zero40 zeroH_rv (by rfl), ?_⟩
   rintro s' b' ⟨rfl,rfl⟩
   cases ok with
   | true=>
     simp only [if_true,entH_at,entH_has] at hk ⊢
     cases hz:hasH k hs<;>rw [hz] at hk<;>exact hk
   | false=>
     simp only [Zbq,if_false,entH_at] at hk ⊢
     exact hk
 ·
   rename_i t m x v ho
   cases hp
   obtain ⟨rfl,d,hs,_,h,rfl,hm,hx,hv,hi,hl,rfl,hk⟩:=h
   refine ⟨_,mapUpdate_env (g:=some (d,hs)) (g':=some (d,putH h hs)) (l1:= []) (l2:= []) (c:=⟨d,3,entH hs⟩) ho rfl hm (key:= .int .i64 h.st) (by rw [hx];rfl) keyed3 under59 (key3 hi) (by simp [entH,maxLen];omega) (by rw [hv];rfl) ?_, ?_⟩
   · rw [hv];simp only [spF,List.nil_append]
     rw [show (halfA h).view=halfA h from rfl,entH_put]
   · rintro s' b' ⟨rfl,rfl⟩
     exact hk
 ·
   rename_i c ho
   split at hp
   · rename_i hc
     split at hp
     · rename_i m t hm0 ht0
       split at hp
       · rename_i hcond
         cases hp
         obtain ⟨d,hs,rfl,hm,hk⟩:=h
         simp only [Zag] at hcond
         obtain ⟨h59,hs1,hs2⟩:=hcond
         have h59:=Nat.eq_of_beq_eq_true h59
         have hs1:=Nat.eq_of_beq_eq_true hs1
         have hs2:=Nat.eq_of_beq_eq_true hs2
         subst h59
         have ha:c.args=#[m]:=by
           apply Array.ext_getElem?
           intro j
           match j with
           |0=>simpa using hm0
           |j+1=>simp [Array.getElem?_eq_none (by omega:c.args.size≤j+1)]
         have hat:c.argTypes=#[59]:=by
           apply Array.ext_getElem?
           intro j
           match j with
           |0=>simpa using ht0
           |j+1=>simp [Array.getElem?_eq_none (by omega:c.argTypes.size≤j+1)]
         refine ⟨_,lenMap_env (g:=some (d,hs)) (c:=⟨d,3,entH hs⟩) (t:=59) (e:=40) (mo:=m) (by rw [ho];obtain ⟨c1,c2,c3⟩:=c;simp only at hc hat ha;subst hc hat ha;rfl) spF_mem hm under59, ?_⟩
         rintro s' b' ⟨rfl,rfl⟩
         simp only [entH,List.length_map]
         exact hk
       · cases hp
     · cases hp
   · rename_i fo hc
     split at hp
     · rename_i k args hcall
       split at hp
       · rename_i f hf
         cases hp
         obtain ⟨hcl,h⟩:=h
         obtain ⟨R,h1,h2⟩:=hC k f hf args g _ h
         refine ⟨_,mcall_env (g:=g) (g0:=g) (up:=id) (f':=spF) (l1:= []) (l2:= []) hcall hcl (by simp) (by simp) h1, ?_⟩
         rintro s' b' ⟨x,g1,hR,rfl,he⟩
         cases he
         exact h2 x _ hR
       · cases hp
     · cases hp
   · cases hp
 · cases hp
def cNone (args:List AV) (K:AV→Prop):Prop:=False
def TAs:List (Nat×(List AV→(AV→Prop)→Prop)):= [(49,cBelow),(4000001,cNone),(4000006,cNone),(4000009,cNone)]
def TPr:List (Nat×(List AV→(AV→Prop)→Prop)):= [(4000001,cNone),(4000005,cNone)]
def wlSp (T:List (Nat×(List AV→(AV→Prop)→Prop))) (C:MCT SpG):WLT SpG:=wlM Tryd.prog ⟨T, [],fun _ _ _ _ _=>False,fun _ _ _=>False,false⟩ (spM C) fun _ _ _ _ _=>False
section
variable (R:AV→SpG→Prop)
theorem asked_nf (d:Nat) (hs:List HalfS) (fr:Int) (w:WordS):wpFn Tryd.prog ⟨TAs, [],wlSp TAs [],fun _ _ _=>False,false⟩ 100 Tryd.f30 [.agg [mapA d, .d (i64 fr)],wordA w] (some (d,hs)) R=(59=59∧∃(d0:Nat) (hs1:List HalfS) (k2:Int) (h3:HalfS) (z4:Bool),some (d,hs)=some (d0,hs1)∧Zaf (Dv.s (Zbe (some d)))=Zaf (Dv.s (Zbe (some d0)))∧Zaf (i64 (WordS.st w))=Zaf (i64 k2)∧InI k2∧(h3=getH k2 hs1∧z4=hasH k2 hs1)∧BIf z4 (BIf (decide (HalfS.no h3>WordS.no w)) (R (.d (i64 14)) (some (d,hs))) (BIf (HalfS.no h3==WordS.no w) (R (.d (i64 0)) (some (d,hs))) (∃(x5:Int) (n6:Int), [Zaf (u64 (Zad .u64 (Zad .u64 ((1000003:Int)*Zad .u64 (Zad .u64 ((1000003:Int)*Zad .u64 (Zad .i64 (Zad .i64 ((64:Int)*WordS.sp w)+WordS.st w)))+Zad .u64 (WordS.no w)))+Zad .u64 fr))),Zaf (i64 1000000000)]= [Zaf (u64 x5),Zaf (i64 n6)]∧59=59∧∃(d7:Nat) (hs8:List HalfS) (hs9:List HalfS) (h10:HalfS),some (d,hs)=some (d7,hs8)∧Zaf (Dv.s (Zbe (some d)))=Zaf (Dv.s (Zbe (some d7)))∧Zaf (i64 (WordS.st w))=Zaf (i64 (HalfS.st h10))∧Zbb [Zaf (i64 (WordS.st w)),Zaf (i64 (WordS.no w)),Zaf (i64 (belowS x5 n6)),Zaf (i64 (Zad .i64 (fr+12))),Zaf (bo false),Zaf (i64 0)]=Zbb (Qz4 h10)∧InI (HalfS.st h10)∧Zae hs8<1000000∧hs9=putH h10 hs8∧R (.d (i64 0)) (some (d7,hs9))))) (∃(d11:Nat) (hs12:List HalfS),some (d,hs)=some (d11,hs12)∧Zaf (Dv.s (Zbe (some d)))=Zaf (Dv.s (Zbe (some d11)))∧BIf (((Zae hs12:Nat):Int)==(4:Int)) (R (.d (i64 10)) (some (d,hs))) (∃(x13:Int) (n14:Int), [Zaf (u64 (Zad .u64 (Zad .u64 ((1000003:Int)*Zad .u64 (Zad .u64 ((1000003:Int)*Zad .u64 (Zad .i64 (Zad .i64 ((64:Int)*WordS.sp w)+WordS.st w)))+Zad .u64 (WordS.no w)))+Zad .u64 fr))),Zaf (i64 1000000000)]= [Zaf (u64 x13),Zaf (i64 n14)]∧59=59∧∃(d15:Nat) (hs16:List HalfS) (hs17:List HalfS) (h18:HalfS),some (d,hs)=some (d15,hs16)∧Zaf (Dv.s (Zbe (some d)))=Zaf (Dv.s (Zbe (some d15)))∧Zaf (i64 (WordS.st w))=Zaf (i64 (HalfS.st h18))∧Zbb [Zaf (i64 (WordS.st w)),Zaf (i64 (WordS.no w)),Zaf (i64 (belowS x13 n14)),Zaf (i64 (Zad .i64 (fr+12))),Zaf (bo false),Zaf (i64 0)]=Zbb (Qz4 h18)∧InI (HalfS.st h18)∧Zae hs16<1000000∧hs17=putH h18 hs16∧R (.d (i64 0)) (some (d15,hs17))))):=by kernel_rfl
theorem proved_nf (d:Nat) (hs:List HalfS) (fr:Int) (w:WordS):wpFn Tryd.prog ⟨TPr, [],wlSp TPr [],fun _ _ _=>False,false⟩ 100 Tryd.f31 [.agg [mapA d, .d (i64 fr)],wordA w] (some (d,hs)) R=(59=59∧∃(d0:Nat) (hs1:List HalfS) (k2:Int) (h3:HalfS) (z4:Bool),some (d,hs)=some (d0,hs1)∧Zaf (Dv.s (Zbe (some d)))=Zaf (Dv.s (Zbe (some d0)))∧Zaf (i64 (WordS.st w))=Zaf (i64 k2)∧InI k2∧(h3=getH k2 hs1∧z4=hasH k2 hs1)∧BIf z4 (BIf (HalfS.no h3 !=WordS.no w) (R (.d (i64 4)) (some (d,hs))) (BIf (HalfS.ch h3 !=WordS.ch w) (R (.d (i64 4)) (some (d,hs))) (59=59∧∃(d5:Nat) (hs6:List HalfS) (hs7:List HalfS) (h8:HalfS),some (d,hs)=some (d5,hs6)∧Zaf (Dv.s (Zbe (some d)))=Zaf (Dv.s (Zbe (some d5)))∧Zaf (i64 (WordS.st w))=Zaf (i64 (HalfS.st h8))∧Zbb [Zaf (i64 (HalfS.st h3)),Zaf (i64 (HalfS.no h3)),Zaf (i64 (HalfS.ch h3)),Zaf (i64 (HalfS.un h3)),Zaf (bo true),Zaf (i64 (WordS.ke w))]=Zbb (Qz4 h8)∧InI (HalfS.st h8)∧Zae hs6<1000000∧hs7=putH h8 hs6∧R (.d (i64 0)) (some (d5,hs7))))) (R (.d (i64 4)) (some (d,hs)))):=by kernel_rfl
end
theorem cNone_ok {n:Nat}:∀args K,cNone args K→∃x,PCall Tryd.prog n args x∧K x:=fun _ _ h=>h.elim
theorem TAs_ok:CallsOk Tryd.prog TAs:=Zam cBelow_ok (Zam cNone_ok (Zam cNone_ok (Zam cNone_ok Zas)))
theorem TPr_ok:CallsOk Tryd.prog TPr:=Zam cNone_ok (Zam cNone_ok Zas)
theorem MCTok.nil:MCTok []:=fun _ _ h=>by cases h
theorem wlSp_ok {T:List (Nat×(List AV→(AV→Prop)→Prop))} {C:MCT SpG} (hT:CallsOk Tryd.prog T) (hC:MCTok C) (lent:List Nat) (N:Nat) (w0:World):
   ∀c tm hp b K,wlSp T C c tm hp b K→W (Zcj Tryd.prog none N w0 lent spF) c ⟨tm,hp,b⟩ (fun e s=>K e s.tm s.hp s.b):=
 wlM_ok (Ev:=Zcj Tryd.prog none N w0 lent spF) mixed (CX.Ok.ofWl (Ev:=Zcj Tryd.prog none N w0 lent spF) hT Zao fun _ _ _ _ _ h=>h.elim) (spM_ok hC N w0 lent) fun _ _ _ _ _ h=>h.elim
def chalS (fr:Int) (w:WordS):Int:=
 belowS (Zad Zch (Zad Zch (1000003*Zad Zch (Zad Zch (1000003*Zad Zch (Zad Zbj (Zad Zbj (64*w.sp)+w.st)))+Zad Zch w.no))+Zad Zch fr)) 1000000000
def freshS (fr:Int) (w:WordS):HalfS:=⟨w.st,w.no,chalS fr w,Zad Zbj (fr+12),false,0⟩
def askedS (hs:List HalfS) (fr:Int) (w:WordS):Int×List HalfS:=
 if hasH w.st hs=true then (if (getH w.st hs).no>w.no then (14,hs) else if ((getH w.st hs).no==w.no)=true then (0,hs) else (0,putH (freshS fr w) hs))
 else if ((hs.length:Int)==4)=true then (10,hs) else (0,putH (freshS fr w) hs)
def provedS (hs:List HalfS) (w:WordS):Int×List HalfS:=
 let h:=getH w.st hs
 if hasH w.st hs=true then (if (h.no !=w.no)=true then (4,hs) else if (h.ch !=w.ch)=true then (4,hs) else (0,putH ⟨h.st,h.no,h.ch,h.un,true,w.ke⟩ hs)) else (4,hs)
theorem getH_st {k:Int} {hs:List HalfS} (h:hasH k hs=true):(getH k hs).st=k:=by
 simp only [hasH,List.any_eq_true] at h
 obtain ⟨x,h1,h2⟩:=h
 unfold getH
 cases hf:hs.find? fun h=>h.st==k with
 |none=>simp only [List.find?_eq_none] at hf;exact absurd h2 (hf x h1)
 |some y=>simpa using List.find?_some hf
theorem mcAsked (d:Nat) (hs:List HalfS) (fr:Int) (w:WordS) (hw:InI w.st) (hl:hs.length<1000000):
   MCall Tryd.prog spF 30 [.agg [mapA d, .d (i64 fr)],wordA w] (some (d,hs)) fun x g=>x= .d (i64 (askedS hs fr w).1)∧g=some (d,(askedS hs fr w).2):=by
 refine MCall.ofFn (n:=100) (u:=false) (wlSp TAs []) mixed TAs_ok Zao (fun N w0=>wlSp_ok TAs_ok MCTok.nil _ N w0) Tryd.func30 (by rfl) (by rfl) ?_
 rw [asked_nf]
 refine ⟨rfl,d,hs,w.st,_,_,rfl,rfl,rfl,hw,⟨rfl,rfl⟩,Zat (fun h1=>Zat (fun h2=> ?_) fun h2=>Zat (fun h3=> ?_) fun h3=>⟨_,_,rfl,rfl,d,hs,_,freshS fr w,rfl,rfl,rfl,rfl,hw,hl,rfl, ?_⟩) fun h1=>⟨d,hs,rfl,rfl,Zat (fun h2=> ?_) fun h2=>⟨_,_,rfl,rfl,d,hs,_,freshS fr w,rfl,rfl,rfl,rfl,hw,hl,rfl, ?_⟩⟩⟩
 · rw [askedS,if_pos h1,if_pos (of_decide_eq_true h2)];exact ⟨rfl,rfl⟩
 · rw [askedS,if_pos h1,if_neg (of_decide_eq_false h2),if_pos h3];exact ⟨rfl,rfl⟩
 · rw [askedS,if_pos h1,if_neg (of_decide_eq_false h2),if_neg (by rw [h3];decide)];exact ⟨rfl,rfl⟩
 · rw [askedS,if_neg (by rw [h1];decide),if_pos h2];exact ⟨rfl,rfl⟩
 · rw [askedS,if_neg (by rw [h1];decide),if_neg (by rw [h2];decide)];exact ⟨rfl,rfl⟩
theorem mcProved (d:Nat) (hs:List HalfS) (fr:Int) (w:WordS) (hw:InI w.st) (hl:hs.length<1000000):
   MCall Tryd.prog spF 31 [.agg [mapA d, .d (i64 fr)],wordA w] (some (d,hs)) fun x g=>x= .d (i64 (provedS hs w).1)∧g=some (d,(provedS hs w).2):=by
 refine MCall.ofFn (n:=100) (u:=false) (wlSp TPr []) mixed TPr_ok Zao (fun N w0=>wlSp_ok TPr_ok MCTok.nil _ N w0) Tryd.func31 (by rfl) (by rfl) ?_
 rw [proved_nf]
 refine ⟨rfl,d,hs,w.st,_,_,rfl,rfl,rfl,hw,⟨rfl,rfl⟩,Zat (fun h1=> ?_) fun h1=> ?_⟩
 · have hst:=getH_st h1
   refine Zat (fun h2=> ?_) fun h2=>Zat (fun h3=> ?_) fun h3=>⟨rfl,d,hs,_,⟨(getH w.st hs).st,(getH w.st hs).no,(getH w.st hs).ch,(getH w.st hs).un,true,w.ke⟩,rfl,rfl,by rw [hst],rfl,by rw [hst];exact hw,hl,rfl, ?_⟩
   · simp only [provedS,h1,h2,if_true];exact ⟨trivial,trivial⟩
   · simp only [provedS,h1,h2,h3,if_true,Zbq,if_false];exact ⟨trivial,trivial⟩
   · simp only [provedS,h1,h2,h3,if_true,Zbq,if_false];exact ⟨trivial,trivial⟩
 · simp only [provedS,h1,Zbq,if_false];exact ⟨trivial,trivial⟩
def nthH (hs:List HalfS) (i:Nat):HalfS:=hs.getD i zeroH
theorem rowsH_at {hs:List HalfS} {i:Nat} (h:i<hs.length):(rowsH hs)[i]? =some (halfR (nthH hs i)):=by
 simp [rowsH,nthH,h]
def badAt (hs:List HalfS) (i:Nat):Bool:= !halfOk (nthH hs i)||(decide ((i:Int)>0)&&decide ((nthH hs i).st≤(nthH hs (i - 1)).st))
def validH (hs:List HalfS):Bool:= !((Zay hs.length).any (badAt hs))&&decide (hs.length≤4)
theorem WR.scanK {P:Program} {Ev:Env P} {X:CX Ev.β} {lp:Code} {b:Ev.β} {Q:Exit→St Ev.β→Prop} {k:Nat} (keep:List Nat) (hm:P.follows .mixedOrders=true) (hX:X.Ok) (n:Nat) (test:Nat→Bool) (tmOf tmR:Nat→List AV) (hp:List Blk) (id:Nat)
   (hr:∀i,i<n→∀K:Exit→List AV→List Blk→Ev.β→Prop,(test i=true→K .ret (tmR i) hp b)→(test i=false→K .normal (tmOf (i+1)) hp b)→wpc P X k lp (tmOf i) hp b (maskK hp.length keep K))
   (he:∀K:Exit→List AV→List Blk→Ev.β→Prop,K (.exit id) (tmOf n) hp b→wpc P X k lp (tmOf n) hp b (maskK hp.length keep K))
   (h1:(Zay n).any test=false→Q (.exit id) ⟨tmOf n,hp,b⟩) (h2:(Zay n).any test=true→∀i,Q .ret ⟨tmR i,hp,b⟩):WR Ev lp (n+1) ⟨tmOf 0,hp,b⟩ Q:=by
 have key:∀(m i:Nat),i+m=n→(∀j,j<i→test j=false)→WR Ev lp (m+1) ⟨tmOf i,hp,b⟩ Q:=by
   intro m
   induction m with
   | zero=>
     intro i hi hj
     have:i=n:=by omega
     subst this
     refine Zcr keep hm hX (he _ (h1 ?_))
     rw [List.any_eq_false]
     intro j hj'
     rw [List.mem_range] at hj'
     rw [hj j hj'];simp
   | succ m ih=>
     intro i hi hj
     refine Zcr keep hm hX (hr i (by omega) _ (fun ht=>h2 ?_ i) fun hf=>ih (i+1) (by omega) fun j hj'=> ?_)
     · rw [List.any_eq_true]
       exact ⟨i,List.mem_range.2 (by omega),ht⟩
     · by_cases h:j=i
       · rw [h];exact hf
       · exact hj j (by omega)
 exact key n 0 (by omega) fun j hj=>by omega
theorem wrapN {j:Nat} (h:j<9223372036854775807):Zad Zbj ((j:Int)+1)=((j+1:Nat):Int):=by
 rw [wrap_i64 (by omega) (by omega)];simp
theorem wrapP {j:Nat} (h:j<9223372036854775807) (h0:0<j):Zbl (Zad Zbj ((j:Int) - 1))=j - 1:=by
 rw [wrap_i64 (by omega) (by omega)];omega
theorem wrapQ {j:Nat} (h:j<9223372036854775807) (h0:0<j):(0:Int)≤Zad Zbj ((j:Int) - 1):=by
 rw [wrap_i64 (by omega) (by omega)];omega
theorem wrVa {Ev:Env Tryd.prog} {b:Ev.β} {Q:Exit→St Ev.β→Prop} (hs:List HalfS) (hl:hs.length≤9223372036854775807) (h1:(Zay hs.length).any (badAt hs)=false→∀i:Int,Q (.exit 0) ⟨tmVa hs hs.length i, [],b⟩)
   (h2:(Zay hs.length).any (badAt hs)=true→∀i:Int,Q .ret ⟨tmVa hs hs.length i, [],b⟩):WR Ev lpVa (hs.length+1) ⟨tmVa hs hs.length (0:Nat), [],b⟩ Q:=by
 refine WR.scanK (X:=⟨TVa, [],wlW Ev,Ev.Y,false⟩) (k:=100) [0,2,5,6,7] mixed (CX.Ok.of TVa_ok Zao) hs.length (badAt hs) (fun i=>tmVa hs hs.length (i:Nat)) (fun i=>tmVa hs hs.length (i:Nat)) [] 0 (fun i hi K k1 k2=> ?_) (fun K k1=> ?_) (fun h=>h1 h _) fun h i=>h2 h i
 · refine Eq.mpr (rVa _ _ _ K hs hs.length i) ?_
   rw [Zdb,rowsH_at hi]
   refine Zcp (by simp<;>omega) (Zcp (by simp) ⟨_,_,_,_,_,_,rfl,nthH hs i,rfl, ?_⟩)
   refine Zat (fun g=>k1 (by rw [badAt,g];rfl)) fun g=>Zat (fun g2=> ?_) fun g2=> ?_
   · have h0:0<i:=by have:=of_decide_eq_true g2;omega
     rw [wrapP (by omega) h0,rowsH_at (by omega:i - 1<hs.length)]
     refine Zcp (by simp [wrapQ (by omega:i<9223372036854775807) h0]) ⟨_,_,_,_,_,_,rfl,Zat (fun g3=>k1 (by rw [badAt,g,g2,g3];rfl)) fun g3=> ?_⟩
     rw [wrapN (by omega)]
     exact k2 (by rw [badAt,g,g2,g3];rfl)
   · rw [wrapN (by omega)]
     exact k2 (by rw [badAt,g,g2];rfl)
 · refine Eq.mpr (rVa _ _ _ K hs hs.length _) ?_
   exact BIf.f (by simp) k1
theorem rowsH_len (hs:List HalfS):(rowsH hs).length=hs.length:=by simp [rowsH]
def wlVa {β:Type}:WLT β:=fun t tm hp b K=>∃(hs:List HalfS) (z:Bool),t= .loop lpVa∧maskTm [0,2,5,6,7] 0 tm=tmVa hs (rowsH hs).length 0∧hp= []∧(hs.length≤9223372036854775807∧z=(Zay hs.length).any (badAt hs))∧
 BIf z (∀i:Int,K .ret (tmVa hs hs.length i) [] b) (∀i:Int,K (.exit 0) (tmVa hs hs.length i) [] b)
theorem wlVa_ok {Ev:Env Tryd.prog} (c:Code) (tm:List AV) (hp:List Blk) (b:Ev.β) (K:Exit→List AV→List Blk→Ev.β→Prop) (h:wlVa c tm hp b K):W Ev c ⟨tm,hp,b⟩ (fun e s=>K e s.tm s.hp s.b):=by
 obtain ⟨hs,z,rfl,htm,rfl,⟨hl,hz⟩,hK⟩:=h
 rw [rowsH_len] at htm
 refine W.cast (htm▸maskTm_le _ tm 0) (Zdj _) ?_
 exact W.rounds (wrVa (Q:=fun e s=>K e s.tm s.hp s.b) hs hl (fun h=>by rw [hz,h] at hK;exact hK) fun h=>by rw [hz,h] at hK;exact hK)
abbrev Qz26 (v0:List HalfS):=Zaf (Zbc 6 (rowsH v0))::Zal::Zaf (bo false)::Zal::Zal::Zaf (Zbc 6 (rowsH v0))::Zaf (i64 ((Zae (rowsH v0):Nat):Int))::Zaf (i64 0)::bds 26 []
theorem valid_nf (hs:List HalfS):wpFn Tryd.prog ⟨TVa, [],wlVa,y,false⟩ 100 Tryd.f13 [.d (.sl 6 (rowsH hs))] b R=(∃(hs0:List HalfS) (z1:Bool),Zdi lpVa=Zdi lpVa∧(Qz26 hs)=(Qz26 hs0)∧([]:List Blk)= []∧(Zae hs0≤9223372036854775807∧z1=List.any (Zay (Zae hs0)) (badAt hs0))∧BIf z1 (∀(i:Int),R (.d (bo false)) b) (∀(i:Int),R (.d (bo (decide (((Zae (rowsH hs0):Nat):Int)≤(4:Int))))) b)):=by kernel_rfl
theorem pcValid (hs:List HalfS) (hl:hs.length≤9223372036854775807):PCall Tryd.prog 13 [.d (.sl 6 (rowsH hs))] (.d (bo (validH hs))):=by
 refine PCall.ofFnW (n:=100) (u:=false) (fun _=>wlVa) mixed TVa_ok Zao (fun Ev=>wlVa_ok) Tryd.func13 (by rfl) (by rfl) fun Ev bb=> ?_
 rw [valid_nf]
 refine ⟨hs,_,rfl,rfl,rfl,⟨hl,rfl⟩,Zat (fun h i=> ?_) fun h i=> ?_⟩
 · rw [validH,h];rfl
 · rw [validH,h,rowsH_len,show decide ((hs.length:Int)≤4)=decide (hs.length≤4) from decide_eq_decide.2 (by omega)];rfl
def cValid (args:List AV) (K:AV→Prop):Prop:=∃(hs:List HalfS) (z:Bool),args= [.d (.sl 6 (rowsH hs))]∧(hs.length≤9223372036854775807∧z=validH hs)∧K (.d (bo z))
theorem cValid_ok:∀args K,cValid args K→∃x,PCall Tryd.prog 13 args x∧K x:=by
 rintro _ K ⟨hs,_,rfl,⟨hl,rfl⟩,h⟩;exact ⟨_,pcValid hs hl,h⟩
noncomputable def lpHr:Code:=sub [1,1,1,0,1,2,3] (code Tryd.f11)
def tmHr (hs:List HalfS) (n i:Int):List AV:= [.bad, .bad, .bad, .bad, .bad, .bad, .ptr 0 0, .bad, .d (.s (.slice none 0 0)), .d (i64 0), .ptr 1 0]++Zap 33 .bad++ [.d (.sl 6 (rowsH hs)), .d (i64 n), .d (i64 i)]++Zap 32 .bad
def wordB (w:WordS):Blk:=⟨[.d (i64 w.ki), .d (i64 w.st), .d (i64 w.sp), .d (i64 w.no), .d (i64 w.ch), .d (i64 w.ke), .d (i64 w.rf), .d (i64 w.rn)],false,false,0⟩
def deskB (d:Nat) (fr:Int):Blk:=⟨[mapA d, .d (i64 fr)],false,false,0⟩
def THr:List (Nat×(List AV→(AV→Prop)→Prop)):= [(4000007,cNone)]
section
variable (y:YieldT SpG) (K:Exit→List AV→List Blk→SpG→Prop)
abbrev Qz1 (v0:WordS):List AV:= [Zaf (i64 (WordS.ki v0)),Zaf (i64 (WordS.st v0)),Zaf (i64 (WordS.sp v0)),Zaf (i64 (WordS.no v0)),Zaf (i64 (WordS.ch v0)),Zaf (i64 (WordS.ke v0)),Zaf (i64 (WordS.rf v0)),Zaf (i64 (WordS.rn v0))]
abbrev Qz7 (v0:WordS) (v1:Nat) (v2:Int):= [Blk.mk (Qz1 v0) false false 0,Blk.mk [Zaf (Dv.s (Zbe (some v1))),Zaf (i64 v2)] false false 0]
theorem rHr (d:Nat) (ts hs:List HalfS) (w:WordS) (fr n i:Int):wpc Tryd.prog ⟨THr, [],wlSp THr [],y,false⟩ 100 lpHr (tmHr hs n i) [wordB w,deskB d fr] (some (d,ts)) (maskK 2 [6,8,9,10,44,45,46] K)=(BIf (decide (i<n)) (BIf (true&&decide (0≤i)) (∃(x0:Int) (x1:Int) (x2:Int) (x3:Int) (b4:Bool) (x5:Int),(rowsH hs)[Zbl i]? =some (Qz19 x0 x1 x2 x3 b4 x5)∧59=59∧∃(d8:Nat) (hs9:List HalfS) (hs10:List HalfS) (h11:HalfS),some (d,ts)=some (d8,hs9)∧Zaf (Dv.s (Zbe (some d)))=Zaf (Dv.s (Zbe (some d8)))∧Zaf (i64 x0)=Zaf (i64 (HalfS.st h11))∧Zbb (Qz14 x0 x1 x2 x3 b4 x5)=Zbb (Qz4 h11)∧InI (HalfS.st h11)∧Zae hs9<1000000∧hs10=putH h11 hs9∧K .normal (bds 6 (Zcc 0 0::Zal::Zaf (Dv.s (.slice none 0 0))::Zaf (i64 0)::Zcc 1 0::bds 33 (Zaf (Zbc 6 (rowsH hs))::Zaf (i64 n)::Zaf (i64 (Zad .i64 (i+1)))::bds 32 []))) (Qz7 w d fr) (some (d8,hs10))) False) (K (Zea 0) (bds 6 (Zcc 0 0::Zal::Zaf (Dv.s (.slice none 0 0))::Zaf (i64 0)::Zcc 1 0::bds 33 (Zaf (Zbc 6 (rowsH hs))::Zaf (i64 n)::Zaf (i64 i)::bds 32 []))) (Qz7 w d fr) (some (d,ts)))):=by kernel_rfl
end
def tabH (hs:List HalfS):List HalfS:=hs.foldl (fun t h=>putH h t) []
theorem insH_len (h:HalfS) (l:List HalfS):(insH h l).length=l.length+1:=by
 induction l with
 |nil=>rfl
 |cons x r ih=>simp only [insH];split<;>simp [ih]
theorem putH_len (h:HalfS) (l:List HalfS):(putH h l).length≤l.length+1:=by
 rw [putH,insH_len]
 exact Nat.succ_le_succ (List.length_filter_le _ _)
theorem tabH_len (hs:List HalfS):(tabH hs).length≤hs.length:=by
 have key:∀(l t:List HalfS),(l.foldl (fun t h=>putH h t) t).length≤t.length+l.length:=by
   intro l
   induction l with
   |nil=>intro t;simp
   |cons x r ih=>intro t;have:=ih (putH x t);have:=putH_len x t;simp only [List.foldl_cons,List.length_cons];omega
 simpa [tabH] using key hs []
theorem tabH_take {hs:List HalfS} {i:Nat} (h:i<hs.length):tabH (hs.take (i+1))=putH (nthH hs i) (tabH (hs.take i)):=by
 rw [List.take_succ_eq_append_getElem h,tabH,List.foldl_append]
 simp [nthH,h,tabH]
theorem THr_ok:CallsOk Tryd.prog THr:=Zam cNone_ok Zas
theorem spX_ok {T:List (Nat×(List AV→(AV→Prop)→Prop))} {C:MCT SpG} (hT:CallsOk Tryd.prog T) (hC:MCTok C) (lent:List Nat) (N:Nat) (w0:World):
   CX.Ok (Zcj Tryd.prog none N w0 lent spF) ⟨T, [],wlSp T C,fun _ _ _=>False,false⟩:=
 CX.Ok.ofWl (Ev:=Zcj Tryd.prog none N w0 lent spF) hT Zao (wlSp_ok hT hC lent N w0)
theorem wrHr {N:Nat} {w0:World} {lent:List Nat} {Q:Exit→St SpG→Prop} (hs:List HalfS) (d:Nat) (w:WordS) (fr:Int) (hv:∀i,i<hs.length→InI (nthH hs i).st) (hl:hs.length<1000000)
   (hQ:∀i:Int,Q (.exit 0) ⟨tmHr hs hs.length i, [wordB w,deskB d fr],some (d,tabH hs)⟩):∀(m i:Nat),i+m=hs.length→
   WR (Zcj Tryd.prog none N w0 lent spF) lpHr (m+1) ⟨tmHr hs hs.length i, [wordB w,deskB d fr],some (d,tabH (hs.take i))⟩ Q
 | 0,i,hi=>by
   have hi:i=hs.length:=by omega
   subst hi
   refine Zcr [6,8,9,10,44,45,46] mixed (spX_ok THr_ok MCTok.nil lent N w0) (k:=100) ?_
   refine Eq.mpr (rHr _ _ d _ hs w fr hs.length _) ?_
   rw [List.take_length]
   exact BIf.f (by simp) (hQ _)
 | m+1,i,hi=>by
   refine Zcr [6,8,9,10,44,45,46] mixed (spX_ok THr_ok MCTok.nil lent N w0) (k:=100) ?_
   refine Eq.mpr (rHr _ _ d _ hs w fr hs.length i) ?_
   rw [Zdb,rowsH_at (by omega:i<hs.length),wrapN (by omega)]
   have hlen:(tabH (hs.take i)).length<1000000:=by have:=tabH_len (hs.take i);simp at this;omega
   refine Zcp (by simp;omega) (Zcp (by simp) ⟨_,_,_,_,_,_,rfl,rfl,d,_,_,nthH hs i,rfl,rfl,rfl,rfl,hv i (by omega),hlen,rfl, ?_⟩)
   rw [←tabH_take (by omega)]
   exact wrHr hs d w fr hv hl hQ m (i+1) (by omega)
def cAsked (args:List AV) (g:SpG) (K:AV→SpG→Prop):Prop:=∃(d:Nat) (hs hs':List HalfS) (e fr:Int) (w:WordS),args= [.agg [mapA d, .d (i64 fr)],wordA w]∧g=some (d,hs)∧(InI w.st∧hs.length<1000000∧e=(askedS hs fr w).1∧hs'=(askedS hs fr w).2)∧K (.d (i64 e)) (some (d,hs'))
def cProved (args:List AV) (g:SpG) (K:AV→SpG→Prop):Prop:=∃(d:Nat) (hs hs':List HalfS) (e fr:Int) (w:WordS),args= [.agg [mapA d, .d (i64 fr)],wordA w]∧g=some (d,hs)∧(InI w.st∧hs.length<1000000∧e=(provedS hs w).1∧hs'=(provedS hs w).2)∧K (.d (i64 e)) (some (d,hs'))
theorem cAsked_ok:∀args g K,cAsked args g K→∃R,MCall Tryd.prog spF 30 args g R∧∀x g',R x g'→K x g':=by
 rintro _ _ K ⟨d,hs,_,_,fr,w,rfl,rfl,⟨hw,hl,rfl,rfl⟩,hk⟩
 exact ⟨_,mcAsked d hs fr w hw hl,by rintro x g' ⟨rfl,rfl⟩;exact hk⟩
theorem cProved_ok:∀args g K,cProved args g K→∃R,MCall Tryd.prog spF 31 args g R∧∀x g',R x g'→K x g':=by
 rintro _ _ K ⟨d,hs,_,_,fr,w,rfl,rfl,⟨hw,hl,rfl,rfl⟩,hk⟩
 exact ⟨_,mcProved d hs fr w hw hl,by rintro x g' ⟨rfl,rfl⟩;exact hk⟩
noncomputable def lpH2:Code:=sub [1,1,1,1,0,1,2,3] (code Tryd.f11)
def fnA (k:Nat):AV:= .fn (.func k) [] []
def TH2:List (Nat×(List AV→(AV→Prop)→Prop)):= [(4000013,cNone),(4000016,cNone)]
def tmH2 (i:Int):List AV:= [.bad, .bad, .bad, .bad, .bad, .bad, .ptr 0 0, .bad, .d (.s (.slice none 0 0)), .d (i64 0), .ptr 1 0]++Zap 47 .bad++ [.agg [.d (i64 1),fnA 30, .d (i64 3),fnA 31], .d (i64 i)]++Zap 19 .bad
open Go.Maps (Keyed)
variable {β:Type} (wl:WLT β) (y:YieldT β) (b:β) (R:AV→β→Prop) (RS:AV→List Blk→β→Prop) (K:Exit→List AV→List Blk→β→Prop) (Q:β→Prop)
def boxB (d:Nat):Blk:=⟨[mapA d],false,false,0⟩
theorem keys_nf (d:Nat):wpFnS Tryd.prog ⟨[], [],wl,y,false⟩ 100 Tryd.f51 [mapA d] b RS=(RS (Zdc (Fn.func 60) [] [Zcc 0 0]) [cell (Dv.s (Zbe (some d)))] b):=by kernel_rfl
theorem fcKeys (d:Nat):FCall Tryd.prog 51 [mapA d] (.fn (.func 60) [] [.ptr 0 0]) [boxB d]:=by
 refine FCall.ofFnW (n:=100) (u:=false) wlNo mixed Zas Zao (fun Ev=>wlNo_ok Ev) Tryd.func51 (by rfl) (by rfl) (by rfl) fun Ev bb=> ?_
 rw [keys_nf]
 exact ⟨rfl,rfl⟩
def sKeys (args:List AV) (hp:List Blk) (K:AV→List Blk→Prop):Prop:=∃(d:Nat),args= [mapA d]∧K (.fn (.func 60) [] [.ptr hp.length 0]) (hp++ [boxB d])
theorem sKeys_ok:∀args hp K,sKeys args hp K→∃x hp',SCall Tryd.prog 51 args hp x hp'∧K x hp':=by
 rintro _ hp K ⟨d,rfl,h⟩
 have:=(fcKeys d).toS rfl hp
 simp only [shift,shifts,shiftH,List.map_cons,List.map_nil,shiftB,Nat.add_zero,boxB,mapA] at this
 exact ⟨_,_,this,h⟩
def TLf:List (Nat×(List AV→(AV→Prop)→Prop)):= [(4000002,cNone)]
theorem TLf_ok:CallsOk Tryd.prog TLf:=Zam cNone_ok Zas
def ULf:List (Nat×(List AV→List Blk→(AV→List Blk→Prop)→Prop)):= [(51,sKeys)]
theorem ULf_ok:SCallsOk Tryd.prog ULf:=by
 intro k f h args hp K hf
 simp only [ULf,List.lookup_cons,List.lookup_nil] at h
 split at h
 · rename_i he
   cases h;rw [eq_of_beq he];exact sKeys_ok args hp K hf
 · cases h
def spS:MHook SpG:=fun o s g K=>match o.op with
 | .call c=>match c.callee with
   | .value _=>match opCall s.tm o with
     | some (k,args)=>if Nat.beq k 50 then match args with
       | [.fn (.func kk) [] [.ptr q 0]]=>if Nat.beq kk 60 then some (∃(d:Nat) (hs:List HalfS) (ks:List Int),g=some (d,hs)∧s.hp[q]? =some (boxB d)∧(hs.length<1000000∧ks=sortK (entH hs))∧K {tm:=putA s.tm o.dst (.d (.sl 1 (rowsI ks))),hp:=s.hp,pv:=pvPut s.pv o.dst} g) else none
       |_=>none
       else none
     |none=>none
   |_=>spM [] o s g K
 |_=>spM [] o s g K
theorem spS_ok (hsk:SortedKeys Tryd.prog 50 60 3) (N:Nat) (w0:World) (lent:List Nat):MOk (Zcj Tryd.prog none N w0 lent spF) spS:=by
 intro o s g K p hp h
 unfold spS at hp
 split at hp
 · rename_i c ho
   split at hp
   · split at hp
     · rename_i k args hc
       split at hp
       · rename_i hk
         split at hp
         · rename_i kk q
           split at hp
           · rename_i hkk
             cases hp
             obtain ⟨d,hs,_,rfl,hq,⟨hl,rfl⟩,hK⟩:=h
             have hk:=Nat.eq_of_beq_eq_true hk
             have hkk:=Nat.eq_of_beq_eq_true hkk
             subst hk;subst hkk
             refine ⟨_,sortedKeys_env (g:=some (d,hs)) (c:=⟨d,3,entH hs⟩) hsk hc hq rfl spF_mem (by simp [entH];omega), ?_⟩
             rintro s' g' ⟨rfl,rfl⟩
             exact hK
           · cases hp
         · cases hp
       · cases hp
     · cases hp
   · exact spM_ok MCTok.nil N w0 lent o s g K p hp h
 · exact spM_ok MCTok.nil N w0 lent o s g K p hp h
noncomputable def lpLi:Code:=sub [1,1,0,1,2,3] (code Tryd.f32)
def tmLi (d:Nat) (ks:List (List Dv)) (acc:AV) (n i:Int):List AV:= [mapA d, .bad, .bad,acc, .bad, .bad, .bad, .bad, .d (.sl 1 ks), .d (i64 n), .d (i64 i)]++Zap 11 .bad
def TLi:List (Nat×(List AV→(AV→Prop)→Prop)):= [(4000005,cNone)]
theorem TLi_ok:CallsOk Tryd.prog TLi:=Zam cNone_ok Zas
section
variable (y:YieldT SpG) (K:Exit→List AV→List Blk→SpG→Prop)
theorem rLi (d:Nat) (hs:List HalfS) (ks xs:List (List Dv)) (n i:Int):wpc Tryd.prog ⟨TLi, [],wlSp TLi [],y,false⟩ 100 lpLi (tmLi d ks (.own 40 6 xs) n i) [boxB d] (some (d,hs)) (maskK 1 [0,3,8,9,10] K)=(BIf (decide (i<n)) (BIf (true&&decide (0≤i)) (∃(x0:Int),ks[Zbl i]? =some [i64 x0]∧59=59∧∃(d3:Nat) (hs4:List HalfS) (k5:Int) (h6:HalfS) (z7:Bool),some (d,hs)=some (d3,hs4)∧Zaf (Dv.s (Zbe (some d)))=Zaf (Dv.s (Zbe (some d3)))∧Zaf (i64 x0)=Zaf (i64 k5)∧InI k5∧(h6=getH k5 hs4∧z7=hasH k5 hs4)∧BIf (true&&decide ((Zae xs+1)*48≤140737488355328)) (K .normal (Zaf (Dv.s (Zbe (some d)))::Zal::Zal::AV.own 40 6 (xs++ [[i64 (HalfS.st h6),i64 (HalfS.no h6),i64 (HalfS.ch h6),i64 (HalfS.un h6),bo (HalfS.pr h6),i64 (HalfS.ke h6)]])::bds 4 (Zaf (Zbc 1 ks)::Zaf (i64 n)::Zaf (i64 (Zad .i64 (i+1)))::bds 11 [])) [cell (Dv.s (Zbe (some d)))] (some (d,hs))) False) False) (K (Zea 0) (Zaf (Dv.s (Zbe (some d)))::Zal::Zal::AV.own 40 6 xs::bds 4 (Zaf (Zbc 1 ks)::Zaf (i64 n)::Zaf (i64 i)::bds 11 [])) [cell (Dv.s (Zbe (some d)))] (some (d,hs)))):=by kernel_rfl
end
theorem rowsI_at {ks:List Int} {i:Nat} {x:Int} (h:ks[i]? =some x):(rowsI ks)[i]? =some [i64 x]:=by
 simp only [rowsI,List.getElem?_map,h];rfl
theorem rowsI_len (ks:List Int):(rowsI ks).length=ks.length:=by simp [rowsI]
theorem rowsH_app (a:List HalfS) (h:HalfS):rowsH a++ [halfR h]=rowsH (a++ [h]):=by simp [rowsH]
def getsH (ks:List Int) (hs:List HalfS):List HalfS:=ks.map fun k=>getH k hs
theorem wrLi {N:Nat} {w0:World} {lent:List Nat} {Q:Exit→St SpG→Prop} (d:Nat) (hs:List HalfS) (ks:List Int) (hk:∀k∈ks,InI k) (hl:ks.length<1000000):
   ∀(rest:List Int) (k:Nat) (acc:List HalfS),ks.drop k=rest→k≤ks.length→acc.length≤k→(∀i:Int,Q (.exit 0) ⟨tmLi d (rowsI ks) (.own 40 6 (rowsH (acc++getsH rest hs))) ks.length i, [boxB d],some (d,hs)⟩)→
   WR (Zcj Tryd.prog none N w0 lent spF) lpLi (rest.length+1) ⟨tmLi d (rowsI ks) (.own 40 6 (rowsH acc)) ks.length k, [boxB d],some (d,hs)⟩ Q
 | [],k,acc,hd,hk1,ha,h=>by
   refine Zcr [0,3,8,9,10] mixed (spX_ok TLi_ok MCTok.nil lent N w0) (k:=100) ?_
   refine Eq.mpr (rLi _ _ d hs _ _ _ _) ?_
   have:=drop_nil hd
   have h:=h k
   rw [getsH,List.map_nil,List.append_nil] at h
   exact BIf.f (by simp;omega) h
 | x::rest,k,acc,hd,hk1,ha,h=>by
   refine Zcr [0,3,8,9,10] mixed (spX_ok TLi_ok MCTok.nil lent N w0) (k:=100) ?_
   refine Eq.mpr (rLi _ _ d hs _ _ _ _) ?_
   obtain ⟨hk',hr,hd'⟩:=drop_cons hd
   refine Zcp (by simp;omega) (Zcp (by simp) ⟨x,by rw [Zdb];exact rowsI_at hr,rfl,d,hs,x,getH x hs,_,rfl,rfl,rfl,hk x (List.mem_of_getElem? hr),⟨rfl,rfl⟩,Zcp (by simp [rowsH];omega) ?_⟩)
   have e:rowsH acc++ [[i64 (getH x hs).st,i64 (getH x hs).no,i64 (getH x hs).ch,i64 (getH x hs).un,bo (getH x hs).pr,i64 (getH x hs).ke]]=rowsH (acc++ [getH x hs]):=rowsH_app _ _
   rw [e,wrap_succ hk' (by omega)]
   refine wrLi d hs ks hk hl rest (k+1) (acc++ [getH x hs]) hd' hk' (by simp;omega) fun i=> ?_
   have h:=h i
   rw [getsH,List.map_cons] at h
   rw [List.append_assoc];exact h
def wlLi:WLT SpG:=fun c tm hp g K=>∃(d:Nat) (hs out:List HalfS) (ks:List Int),c= .loop lpLi∧maskTm [0,3,8,9,10] 0 tm=tmLi d (rowsI ks) (.d (.s (.slice none 0 0))) (rowsI ks).length 0∧hp= [boxB d]∧g=some (d,hs)∧
 ((∀k∈ks,InI k)∧ks.length<1000000∧out=getsH ks hs)∧∀i:Int,K (.exit 0) (tmLi d (rowsI ks) (.own 40 6 (rowsH out)) ks.length i) [boxB d] (some (d,hs))
theorem wlLi_ok (N:Nat) (w0:World) (lent:List Nat) (c:Code) (tm:List AV) (hp:List Blk) (b:SpG) (K:Exit→List AV→List Blk→SpG→Prop) (h:wlLi c tm hp b K):W (Zcj Tryd.prog none N w0 lent spF) c ⟨tm,hp,b⟩ (fun e s=>K e s.tm s.hp s.b):=by
 obtain ⟨d,hs,_,ks,rfl,htm,rfl,rfl,⟨h1,h2,rfl⟩,hK⟩:=h
 rw [rowsI_len] at htm
 refine W.cast (htm▸maskTm_le _ tm 0) (Zdj _) ?_
 refine W.cast (tm':=tmLi d (rowsI ks) (.own 40 6 (rowsH [])) ks.length 0) (LeL.at [_,_,_] _ (LeA.nilOwn rfl)) (Zdj _) ?_
 exact W.rounds (wrLi (Q:=fun e s=>K e s.tm s.hp s.b) d hs ks h1 h2 ks 0 [] rfl (Nat.zero_le _) (Nat.zero_le _) hK)
def wlLf:WLT SpG:=wlM Tryd.prog ⟨TLf,ULf,fun _ _ _ _ _=>False,fun _ _ _=>False,false⟩ spS wlLi
theorem wlLf_ok (hsk:SortedKeys Tryd.prog 50 60 3) (lent:List Nat) (N:Nat) (w0:World):∀c tm hp b K,wlLf c tm hp b K→W (Zcj Tryd.prog none N w0 lent spF) c ⟨tm,hp,b⟩ (fun e s=>K e s.tm s.hp s.b):=
 wlM_ok (Ev:=Zcj Tryd.prog none N w0 lent spF) mixed (CX.Ok.ofWl (Ev:=Zcj Tryd.prog none N w0 lent spF) TLf_ok ULf_ok fun _ _ _ _ _ h=>h.elim) (spS_ok hsk N w0 lent) (wlLi_ok N w0 lent)
section
variable (R:AV→SpG→Prop)
theorem list_nf (d:Nat) (hs:List HalfS):wpFn Tryd.prog ⟨TLf,ULf,wlLf,fun _ _ _=>False,false⟩ 100 Tryd.f32 [mapA d] (some (d,hs)) R=(∃(d0:Nat), [Zaf (Dv.s (Zbe (some d)))]= [Zaf (Dv.s (Zbe (some d0)))]∧∃(d1:Nat) (hs2:List HalfS) (ks3:List Int),some (d,hs)=some (d1,hs2)∧some (cell (Dv.s (Zbe (some d0))))=some (cell (Dv.s (Zbe (some d1))))∧(Zae hs2<1000000∧ks3=List.mergeSort (List.map (fun (p4:Lit×AV)=>Go.intOf (Zcx p4)) (entH hs2)) leI)∧∃(d5:Nat) (hs6:List HalfS) (out7:List HalfS) (ks8:List Int),Zdi lpLi=Zdi lpLi∧(Zaf (Dv.s (Zbe (some d)))::Zal::Zal::Zaf (Dv.s (.slice none 0 0))::bds 4 (Zaf (Zbc 1 (List.map (fun (k9:Int)=> [i64 k9]) ks3))::Zaf (i64 ((Zae (List.map (fun (k10:Int)=> [i64 k10]) ks3):Nat):Int))::Zaf (i64 0)::bds 11 []))=(Zaf (Dv.s (Zbe (some d5)))::Zal::Zal::Zaf (Dv.s (.slice none 0 0))::bds 4 (Zaf (Zbc 1 (List.map (fun (k11:Int)=> [i64 k11]) ks8))::Zaf (i64 ((Zae (List.map (fun (k12:Int)=> [i64 k12]) ks8):Nat):Int))::Zaf (i64 0)::bds 11 []))∧ [cell (Dv.s (Zbe (some d0)))]= [cell (Dv.s (Zbe (some d5)))]∧some (d,hs)=some (d5,hs6)∧((∀(k:Int),k∈ks8→InI k)∧Zae ks8<1000000∧out7=getsH ks8 hs6)∧∀(i:Int),R (.d (Zbc 6 (rowsH out7))) (some (d5,hs6))):=by kernel_rfl
end
end Go.Proofs.YtlnenbbmhidjeaaDoor.Am
namespace Go.Proofs.YtlnenbbmhidjeaaDoor.Am
open Go Go.RowKit Go.Proofs Go.Shelf Go.Sort Go.Maps
open AV renaming agg → Zbb, bad → Zal, d → Zaf, fn → Zdc, ptr → Zcc, rptr → Zdo
open BIf renaming of → Zat, t → Zcp
open Bool renaming and_eq_true → Zag, false_eq_true → Zbq
open CallsOk renaming cons → Zam, nil → Zas
open Go.Code renaming loop → Zdi
open Dv renaming sl → Zbc
open Env renaming mapped → Zcj
open Go.Exit renaming exit → Zea
open Int renaming tmod → Zdn, toNat → Zbl, toNat_natCast → Zdb
open Go.IntKind renaming i64 → Zbj, u64 → Zch, wrap → Zad
open LeH renaming refl → Zdj
open List renaming length → Zae, range → Zay, replicate → Zap
open PCall renaming ofFn → Zcd
open Prod renaming fst → Zcx, snd → Zcy
open SCallsOk renaming cons → Zcq, nil → Zao
open Go.Value renaming map → Zbe
open WR renaming ofMask → Zcr
variable {β:Type} (R:AV→β→Prop) (K:Exit→List AV→List Blk→β→Prop)
open AV (bad)
set_option linter.unusedVariables false
set_option maxRecDepth 20000
set_option maxHeartbeats 1000000
theorem sortsA (m:Nat):AnyZI.SortsIn Tryd.prog Tryd.sortedA_ren Fence.wide m:=
 ⟨fun blk off cap ss W hH hblk hsz=>callsIn_wide.2 (AnyM.slices_Sort_int Tryd.sortA blk off cap ss W hH hblk hsz),
  fun p cap W=>callsIn_wide.2 (AnyM.slices_Sort_int_none Tryd.sortA p cap W)⟩
theorem sk50:SortedKeys Tryd.prog 50 60 3:=by
 refine ⟨enters_of Tryd.func50 (by kernel_rfl) rfl,fun Bm d n L w hBm hm hown hL=> ?_⟩
 have hseq:SeqGives Fence.wide 2 Tryd.prog 60 #[.pointer (some ⟨Bm,0,none⟩)] encZ (fun ss=>ss.Perm (intKeys (DataW.map L))) (Maps.size (DataW.map L)) w:=
   AnyZI.keys_gives (ρ:=Tryd.keysA_ren) {Tryd.keysA with} Fence.wide _ trivial rfl (by omega) Bm d n (DataW.map L) w hBm hm hown
 have cS:=AnyZI.sorted_in Tryd.sortedA Fence.wide 5 trivial trivial trivial trivial rfl (by omega) (sortsA _) (enters_of Tryd.func59 (by kernel_rfl) rfl) 60 #[.pointer (some ⟨Bm,0,none⟩)] trivial (enters_of Tryd.func60 (by kernel_rfl) rfl) _ _ (by rw [Maps.size_eq];unfold maxLen;omega) (by rw [Maps.size_eq];omega) _ hseq
 change CallsIn _ _ Tryd.prog 50 _ _ _ at cS
 refine callsIn_wide.2 (Calls.mono (callsIn_wide.1 cS) ?_)
 rintro e w' ⟨v,ss,rfl,hS,hrow,hnil,hb⟩
 exact ⟨v,ss,rfl,hS,hrow,hb⟩
def listS (hs:List HalfS):List HalfS:=getsH (sortK (entH hs)) hs
theorem sortK_len (es:MC):(sortK es).length=es.length:=by simp [sortK]
theorem mem_sortK {hs:List HalfS} {k:Int} (h:k∈sortK (entH hs)):∃x∈hs,x.st=k:=by
 simp only [sortK,List.mem_mergeSort,entH,List.map_map,List.mem_map] at h
 obtain ⟨x,h1,h2⟩:=h
 exact ⟨x,h1,h2⟩
theorem mcList (d:Nat) (hs:List HalfS) (hk:∀h∈hs,InI h.st) (hl:hs.length<1000000):MCall Tryd.prog spF 32 [mapA d] (some (d,hs)) fun x g=>x= .d (.sl 6 (rowsH (listS hs)))∧g=some (d,hs):=by
 refine MCall.ofFn (n:=100) (u:=false) wlLf mixed TLf_ok ULf_ok (fun N w0=>wlLf_ok sk50 _ N w0) Tryd.func32 (by rfl) (by rfl) ?_
 rw [list_nf]
 refine ⟨d,rfl,d,hs,sortK (entH hs),rfl,rfl,⟨hl,rfl⟩,d,hs,_,sortK (entH hs),rfl,rfl,rfl,rfl,⟨fun k h=> ?_,by rw [sortK_len];simpa [entH] using hl,rfl⟩,fun i=>⟨rfl,rfl⟩⟩
 obtain ⟨x,h1,rfl⟩:=mem_sortK h
 exact hk x h1
def cList (args:List AV) (g:SpG) (K:AV→SpG→Prop):Prop:=∃(d:Nat) (hs out:List HalfS),args= [mapA d]∧g=some (d,hs)∧((∀h∈hs,InI h.st)∧hs.length<1000000∧out=listS hs)∧K (.d (.sl 6 (rowsH out))) (some (d,hs))
theorem cList_ok:∀args g K,cList args g K→∃R,MCall Tryd.prog spF 32 args g R∧∀x g',R x g'→K x g':=by
 rintro _ _ K ⟨d,hs,_,rfl,rfl,⟨h1,h2,rfl⟩,hk⟩
 exact ⟨_,mcList d hs h1 h2,by rintro x g' ⟨rfl,rfl⟩;exact hk⟩
end Go.Proofs.YtlnenbbmhidjeaaDoor.Am
namespace Go.Proofs.YtlnenbbmhidjeaaDoor.Am
open Go Go.RowKit Go.Proofs
open AV renaming agg → Zbb, bad → Zal, d → Zaf, fn → Zdc, ptr → Zcc, rptr → Zdo
open BIf renaming of → Zat, t → Zcp
open Bool renaming and_eq_true → Zag, false_eq_true → Zbq
open CallsOk renaming cons → Zam, nil → Zas
open Go.Code renaming loop → Zdi
open Dv renaming sl → Zbc
open Env renaming mapped → Zcj
open Go.Exit renaming exit → Zea
open Int renaming tmod → Zdn, toNat → Zbl, toNat_natCast → Zdb
open Go.IntKind renaming i64 → Zbj, u64 → Zch, wrap → Zad
open LeH renaming refl → Zdj
open List renaming length → Zae, range → Zay, replicate → Zap
open PCall renaming ofFn → Zcd
open Prod renaming fst → Zcx, snd → Zcy
open SCallsOk renaming cons → Zcq, nil → Zao
open Go.Value renaming map → Zbe
open WR renaming ofMask → Zcr
variable {β:Type} (wl:WLT β) (y:YieldT β) (b:β) (R:AV→β→Prop) (RS:AV→List Blk→β→Prop) (K:Exit→List AV→List Blk→β→Prop) (Q:β→Prop)
open AV (bad)
set_option linter.unusedVariables false
set_option maxRecDepth 20000
set_option maxHeartbeats 1000000
def nodeJ (n:Int):Bool:=decide (n≥0)&&decide (n<60)
def ownK (n:Int):Int:=if nodeJ n=true then Zad Zbj (1000000+n) else 0
def ownE (n:Int):Int:=if nodeJ n=true then 0 else 1
theorem nodeJ_nf (n:Int):wpFn Tryd.prog ⟨[], [],wl,y,false⟩ 100 Tryd.f45 [.d (i64 n)] b R=(BIf (decide (n≥(0:Int))) (R (Zaf (bo (decide (n<(60:Int))))) b) (R (Zaf (bo false)) b)):=by kernel_rfl
theorem number_nf (n:Int):wpFn Tryd.prog ⟨[], [],wl,y,false⟩ 100 Tryd.f103 [.d (i64 n)] b R=(R (Zaf (i64 (Zad Zbj ((1000000:Int)+n)))) b):=by kernel_rfl
theorem pcNodeJ (n:Int):PCall Tryd.prog 45 [.d (i64 n)] (.d (bo (nodeJ n))):=by
 refine Zcd (n:=100) (u:=false) mixed Zas Zao Tryd.func45 (by rfl) (by rfl) fun Ev bb=> ?_
 rw [nodeJ_nf]
 exact Zat (fun h1=>by rw [nodeJ,h1];rfl) fun h1=>by rw [nodeJ,h1];rfl
def cNodeJ (args:List AV) (K:AV→Prop):Prop:=∃(n:Int) (z:Bool),args= [.d (i64 n)]∧z=nodeJ n∧K (.d (bo z))
theorem cNodeJ_ok:∀args K,cNodeJ args K→∃x,PCall Tryd.prog 45 args x∧K x:=by
 rintro _ K ⟨n,_,rfl,rfl,hk⟩;exact ⟨_,pcNodeJ n,hk⟩
theorem pcNumber (n:Int):PCall Tryd.prog 103 [.d (i64 n)] (.d (i64 (Zad Zbj (1000000+n)))):=by
 refine Zcd (n:=100) (u:=false) mixed Zas Zao Tryd.func103 (by rfl) (by rfl) fun Ev bb=> ?_
 rw [number_nf]
def cNumber (args:List AV) (K:AV→Prop):Prop:=∃(n z:Int),args= [.d (i64 n)]∧z=Zad Zbj (1000000+n)∧K (.d (i64 z))
theorem cNumber_ok:∀args K,cNumber args K→∃x,PCall Tryd.prog 103 args x∧K x:=by
 rintro _ K ⟨n,_,rfl,rfl,hk⟩;exact ⟨_,pcNumber n,hk⟩
def ownI (n:Int):AV:= .d (.s (.iface 91 (.int .i64 n)))
def TCk:List (Nat×(List AV→(AV→Prop)→Prop)):= [(4000003,cNone)]
theorem TCk_ok:CallsOk Tryd.prog TCk:=Zam cNone_ok Zas
def ICk:List (Nat×(List AV→(AV→Prop)→Prop)):= [(103,cNumber)]
theorem ICk_ok:CallsOk Tryd.prog ICk:=Zam cNumber_ok Zas
def wlCk {β:Type} (y:YieldT β):WLT β:=wlI Tryd.prog TCk ICk y fun _ _ _ _ _=>False
theorem checked_nf (n:Int) (z:Bool):wpFn Tryd.prog ⟨TCk, [],wlCk y,y,false⟩ 100 Tryd.f56 [ownI n, .d (bo z)] b R=(BIf (!z) (R (.tup [Zaf (i64 0),Zaf (i64 1)]) b) (true=true∧∃(n0:Int) (z1:Int), [Zaf (i64 n)]= [Zaf (i64 n0)]∧z1=Zad .i64 ((1000000:Int)+n0)∧R (.tup [Zaf (i64 z1),Zaf (i64 0)]) b)):=by kernel_rfl
theorem pcChecked (n:Int) (z:Bool):PCall Tryd.prog 56 [ownI n, .d (bo z)] (.tup [.d (i64 (if z=true then Zad Zbj (1000000+n) else 0)), .d (i64 (if z=true then 0 else 1))]):=by
 refine PCall.ofFnE (n:=100) (u:=false) (fun Ev=>wlCk Ev.Y) mixed TCk_ok Zao (fun Ev=>wlI_ok mixed TCk_ok ICk_ok fun _ _ _ _ _ h=>h.elim) Tryd.func56 (by rfl) (by rfl) fun Ev bb=> ?_
 rw [checked_nf]
 cases z with
 |true=>exact BIf.f rfl ⟨rfl,n,_,rfl,rfl,rfl⟩
 |false=>exact Zcp rfl rfl
def cChecked (args:List AV) (K:AV→Prop):Prop:=∃(n k e:Int) (z:Bool),args= [ownI n, .d (bo z)]∧(k=(if z=true then Zad Zbj (1000000+n) else 0)∧e=(if z=true then 0 else 1))∧K (.tup [.d (i64 k), .d (i64 e)])
theorem cChecked_ok:∀args K,cChecked args K→∃x,PCall Tryd.prog 56 args x∧K x:=by
 rintro _ K ⟨n,_,_,z,rfl,⟨rfl,rfl⟩,hk⟩;exact ⟨_,pcChecked n z,hk⟩
def TOw:List (Nat×(List AV→(AV→Prop)→Prop)):= [(56,cChecked)]
theorem TOw_ok:CallsOk Tryd.prog TOw:=Zam cChecked_ok Zas
theorem own_nf (n:Int):wpFn Tryd.prog ⟨TOw, [],wl,y,false⟩ 100 Tryd.f47 [.d (i64 n)] b R=(BIf (decide (n≥(0:Int))) (∃(n0:Int) (k1:Int) (e2:Int) (z3:Bool), [Zaf (Dv.s (Value.iface 91 (Value.int Zbj n))),Zaf (bo (decide (n<(60:Int))))]= [Zaf (Dv.s (Value.iface 91 (Value.int Zbj n0))),Zaf (bo z3)]∧((k1=if z3=true then Zad .i64 ((1000000:Int)+n0) else (0:Int))∧e2=if z3=true then (0:Int) else (1:Int))∧R (.tup [Zaf (i64 k1),Zaf (i64 e2)]) b) (∃(n4:Int) (k5:Int) (e6:Int) (z7:Bool), [Zaf (Dv.s (Value.iface 91 (Value.int Zbj n))),Zaf (bo false)]= [Zaf (Dv.s (Value.iface 91 (Value.int Zbj n4))),Zaf (bo z7)]∧((k5=if z7=true then Zad .i64 ((1000000:Int)+n4) else (0:Int))∧e6=if z7=true then (0:Int) else (1:Int))∧R (.tup [Zaf (i64 k5),Zaf (i64 e6)]) b)):=by kernel_rfl
theorem pcOwn (n:Int):PCall Tryd.prog 47 [.d (i64 n)] (.tup [.d (i64 (ownK n)), .d (i64 (ownE n))]):=by
 refine Zcd (n:=100) (u:=false) mixed TOw_ok Zao Tryd.func47 (by rfl) (by rfl) fun Ev bb=> ?_
 rw [own_nf]
 refine Zat (fun h1=>⟨n,_,_,_,rfl,⟨rfl,rfl⟩, ?_⟩) fun h1=>⟨n,_,_,_,rfl,⟨rfl,rfl⟩, ?_⟩
 · rw [ownK,ownE,nodeJ,h1];rfl
 · rw [ownK,ownE,nodeJ,h1];rfl
def cOwn (args:List AV) (K:AV→Prop):Prop:=∃(n k e:Int),args= [.d (i64 n)]∧(k=ownK n∧e=ownE n)∧K (.tup [.d (i64 k), .d (i64 e)])
theorem cOwn_ok:∀args K,cOwn args K→∃x,PCall Tryd.prog 47 args x∧K x:=by
 rintro _ K ⟨n,_,_,rfl,⟨rfl,rfl⟩,hk⟩;exact ⟨_,pcOwn n,hk⟩
def TFo:List (Nat×(List AV→(AV→Prop)→Prop)):= [(45,cNodeJ)]
theorem TFo_ok:CallsOk Tryd.prog TFo:=Zam cNodeJ_ok Zas
theorem formed_nf (w:WordS):wpFn Tryd.prog ⟨TFo, [],wl,y,false⟩ 100 Tryd.f48 [wordA w] b R=(∃(n0:Int) (z1:Bool), [Zaf (i64 (WordS.st w))]= [Zaf (i64 n0)]∧z1=nodeJ n0∧BIf z1 (∃(n2:Int) (z3:Bool), [Zaf (i64 (WordS.sp w))]= [Zaf (i64 n2)]∧z3=nodeJ n2∧BIf z3 (BIf (WordS.st w !=WordS.sp w) (∃(z4:Int),(z4=if WordS.ch w<WordS.no w then WordS.ch w else WordS.no w)∧BIf (decide (z4≥(0:Int))) (BIf (decide ((if WordS.ch w>WordS.no w then WordS.ch w else WordS.no w)≤(1000000000:Int))) (BIf (decide (WordS.ki w≥(1:Int))) (R (.d (bo (decide (WordS.ki w≤(4:Int))))) b) (R (.d (bo false)) b)) (R (.d (bo false)) b)) (R (.d (bo false)) b)) (R (.d (bo false)) b)) (R (.d (bo false)) b)) (R (.d (bo false)) b)):=by kernel_rfl
def formedW (w:WordS):Bool:=nodeJ w.st&&(nodeJ w.sp&&((w.st !=w.sp)&&(decide ((if w.ch<w.no then w.ch else w.no)≥0)&&(decide ((if w.ch>w.no then w.ch else w.no)≤1000000000)&&(decide (w.ki≥1)&&decide (w.ki≤4))))))
theorem pcFormed (w:WordS):PCall Tryd.prog 48 [wordA w] (.d (bo (formedW w))):=by
 refine Zcd (n:=100) (u:=false) mixed TFo_ok Zao Tryd.func48 (by rfl) (by rfl) fun Ev bb=> ?_
 rw [formed_nf]
 refine ⟨_,_,rfl,rfl,Zat (fun h1=>⟨_,_,rfl,rfl,Zat (fun h2=>Zat (fun h3=>⟨_,rfl,Zat (fun h4=>Zat (fun h5=>Zat (fun h6=> ?_) fun h6=> ?_) fun h5=> ?_) fun h4=> ?_⟩) fun h3=> ?_) fun h2=> ?_⟩) fun h1=> ?_⟩
 all_goals simp only [formedW, *,Bool.true_and,Bool.false_and]
def cFormed (args:List AV) (K:AV→Prop):Prop:=∃(w:WordS) (z:Bool),args= [wordA w]∧z=formedW w∧K (.d (bo z))
theorem cFormed_ok:∀args K,cFormed args K→∃x,PCall Tryd.prog 48 args x∧K x:=by
 rintro _ K ⟨w,_,rfl,rfl,hk⟩;exact ⟨_,pcFormed w,hk⟩
def TJu:List (Nat×(List AV→(AV→Prop)→Prop)):= [(48,cFormed),(47,cOwn)]
theorem TJu_ok:CallsOk Tryd.prog TJu:=Zam cFormed_ok (Zam cOwn_ok Zas)
abbrev Qz3:List AV:= [Zaf (i64 0),Zaf (i64 0),Zaf (i64 0),Zaf (i64 0),Zaf (i64 0),Zaf (i64 0),Zaf (i64 0),Zaf (i64 0)]
theorem judge_nf (w:WordS) (f n:Int):wpFn Tryd.prog ⟨TJu, [],wl,y,false⟩ 100 Tryd.f26 [wordA w, .agg [.d (i64 f), .d (i64 n)]] b R=(∃(w0:WordS) (z1:Bool), [Zbb (Qz1 w)]= [Zbb (Qz1 w0)]∧z1=formedW w0∧BIf (!z1) (R (.tup [Zbb Qz3,Zaf (i64 1)]) b) (BIf (decide (f<(0:Int))) (R (.tup [Zbb Qz3,Zaf (i64 1)]) b) (BIf (decide (f≥n)) (R (.tup [Zbb Qz3,Zaf (i64 1)]) b) (BIf (decide (n>(1000000000:Int))) (R (.tup [Zbb Qz3,Zaf (i64 1)]) b) (∃(n2:Int) (k3:Int) (e4:Int), [Zaf (i64 (WordS.st w))]= [Zaf (i64 n2)]∧(k3=ownK n2∧e4=ownE n2)∧BIf (WordS.ki w !=(3:Int)) (R (.tup [Zbb Qz3,Zaf (i64 9)]) b) (BIf (e4 !=(0:Int)) (R (.tup [Zbb Qz3,Zaf (i64 13)]) b) (BIf (WordS.ke w !=k3) (R (.tup [Zbb Qz3,Zaf (i64 13)]) b) (R (.tup [Zbb [Zaf (i64 4),Zaf (i64 (WordS.st w)),Zaf (i64 (WordS.sp w)),Zaf (i64 (WordS.no w)),Zaf (i64 0),Zaf (i64 (WordS.ke w)),Zaf (i64 f),Zaf (i64 n)],Zaf (i64 0)]) b)))))))):=by kernel_rfl
def zeroW:WordS:=⟨0,0,0,0,0,0,0,0⟩
def judgeS (w:WordS) (f n:Int):WordS×Int:=
 if (!formedW w)=true then (zeroW,1) else if f<0 then (zeroW,1) else if f≥n then (zeroW,1) else if n>1000000000 then (zeroW,1)
 else if (w.ki !=3)=true then (zeroW,9) else if (ownE w.st !=0)=true then (zeroW,13) else if (w.ke !=ownK w.st)=true then (zeroW,13) else (⟨4,w.st,w.sp,w.no,0,w.ke,f,n⟩,0)
theorem pcJudge (w:WordS) (f n:Int):PCall Tryd.prog 26 [wordA w, .agg [.d (i64 f), .d (i64 n)]] (.tup [wordA (judgeS w f n).1, .d (i64 (judgeS w f n).2)]):=by
 refine Zcd (n:=100) (u:=false) mixed TJu_ok Zao Tryd.func26 (by rfl) (by rfl) fun Ev bb=> ?_
 rw [judge_nf]
 refine ⟨w,_,rfl,rfl,Zat (fun h1=> ?_) fun h1=>Zat (fun h2=> ?_) fun h2=>Zat (fun h3=> ?_) fun h3=>Zat (fun h4=> ?_) fun h4=>⟨w.st,_,_,rfl,⟨rfl,rfl⟩,Zat (fun h5=> ?_) fun h5=>Zat (fun h6=> ?_) fun h6=>Zat (fun h7=> ?_) fun h7=> ?_⟩⟩
 · rw [judgeS,if_pos h1];rfl
 · rw [judgeS,if_neg (by rw [h1];decide),if_pos (of_decide_eq_true h2)];rfl
 · rw [judgeS,if_neg (by rw [h1];decide),if_neg (of_decide_eq_false h2),if_pos (of_decide_eq_true h3)];rfl
 · rw [judgeS,if_neg (by rw [h1];decide),if_neg (of_decide_eq_false h2),if_neg (of_decide_eq_false h3),if_pos (of_decide_eq_true h4)];rfl
 all_goals rw [judgeS,if_neg (by rw [h1];decide),if_neg (of_decide_eq_false h2),if_neg (of_decide_eq_false h3),if_neg (of_decide_eq_false h4)]
 · rw [if_pos h5];rfl
 · rw [if_neg (by rw [h5];decide),if_pos h6];rfl
 · rw [if_neg (by rw [h5];decide),if_neg (by rw [h6];decide),if_pos h7];rfl
 · rw [if_neg (by rw [h5];decide),if_neg (by rw [h6];decide),if_neg (by rw [h7];decide)];rfl
def cJudge (args:List AV) (K:AV→Prop):Prop:=∃(w q:WordS) (f n e:Int),args= [wordA w, .agg [.d (i64 f), .d (i64 n)]]∧(q=(judgeS w f n).1∧e=(judgeS w f n).2)∧K (.tup [wordA q, .d (i64 e)])
theorem cJudge_ok:∀args K,cJudge args K→∃x,PCall Tryd.prog 26 args x∧K x:=by
 rintro _ K ⟨w,_,f,n,_,rfl,⟨rfl,rfl⟩,hk⟩;exact ⟨_,pcJudge w f n,hk⟩
def TIw:List (Nat×(List AV→(AV→Prop)→Prop)):= [(26,cJudge)]
theorem TIw_ok:CallsOk Tryd.prog TIw:=Zam cJudge_ok Zas
theorem isWord_nf (w:WordS):wpFn Tryd.prog ⟨TIw, [],wl,y,false⟩ 100 Tryd.f28 [wordA w] b R=(∃(w0:WordS) (q1:WordS) (f2:Int) (n3:Int) (e4:Int), [Zbb (Qz1 w),Zbb [Zaf (i64 0),Zaf (i64 1)]]= [Zbb (Qz1 w0),Zbb [Zaf (i64 f2),Zaf (i64 n3)]]∧(q1=Zcx (judgeS w0 f2 n3)∧e4=Zcy (judgeS w0 f2 n3))∧R (.d (bo (e4 !=(1:Int)))) b):=by kernel_rfl
def isWordS (w:WordS):Bool:=(judgeS w 0 1).2 !=1
theorem pcIsWord (w:WordS):PCall Tryd.prog 28 [wordA w] (.d (bo (isWordS w))):=by
 refine Zcd (n:=100) (u:=false) mixed TIw_ok Zao Tryd.func28 (by rfl) (by rfl) fun Ev bb=> ?_
 rw [isWord_nf]
 exact ⟨w,_,0,1,_,rfl,⟨rfl,rfl⟩,rfl⟩
def cIsWord (args:List AV) (K:AV→Prop):Prop:=∃(w:WordS) (z:Bool),args= [wordA w]∧z=isWordS w∧K (.d (bo z))
theorem cIsWord_ok:∀args K,cIsWord args K→∃x,PCall Tryd.prog 28 args x∧K x:=by
 rintro _ K ⟨w,_,rfl,rfl,hk⟩;exact ⟨_,pcIsWord w,hk⟩
def CH3:MCT SpG:= [(30,cAsked),(31,cProved),(32,cList)]
theorem CH3_ok:MCTok CH3:=by
 intro k f hf
 unfold CH3 at hf
 rw [List.lookup_cons] at hf
 split at hf
 · rename_i h;cases hf;rw [show k=30 by simpa using h];exact cAsked_ok
 · rw [List.lookup_cons] at hf
   split at hf
   · rename_i h;cases hf;rw [show k=31 by simpa using h];exact cProved_ok
   · rw [List.lookup_cons] at hf
     split at hf
     · rename_i h;cases hf;rw [show k=32 by simpa using h];exact cList_ok
     · cases hf
theorem TH2_ok:CallsOk Tryd.prog TH2:=Zam cNone_ok (Zam cNone_ok Zas)
section
variable (y:YieldT SpG) (K:Exit→List AV→List Blk→SpG→Prop)
abbrev Qz29 (v0:Nat) (v1:Int) (v2:WordS):List AV:= [Zbb [Zaf (Dv.s (Zbe (some v0))),Zaf (i64 v1)],Zbb (Qz1 v2)]
theorem h2r0 (d:Nat) (hs:List HalfS) (w:WordS) (fr:Int):wpc Tryd.prog ⟨TH2, [],wlSp TH2 CH3,y,false⟩ 100 lpH2 (tmH2 0) [wordB w,deskB d fr] (some (d,hs)) (maskK 2 [6,8,9,10,58,59] K)=(BIf ((1:Int) !=WordS.ki w) (K .normal (bds 6 (Zcc 0 0::Zal::Zaf (Dv.s (.slice none 0 0))::Zaf (i64 0)::Zcc 1 0::bds 47 (Zbb [Zaf (i64 1),Zdc (Fn.func 30) [] [],Zaf (i64 3),Zdc (Fn.func 31) [] []]::Zaf (i64 1)::bds 19 []))) (Qz7 w d fr) (some (d,hs))) (true=true∧∃(d0:Nat) (hs1:List HalfS) (hs2:List HalfS) (e3:Int) (fr4:Int) (w5:WordS),(Qz29 d fr w)=(Qz29 d0 fr4 w5)∧some (d,hs)=some (d0,hs1)∧(InI (WordS.st w5)∧Zae hs1<1000000∧e3=Zcx (askedS hs1 fr4 w5)∧hs2=Zcy (askedS hs1 fr4 w5))∧BIf (e3 !=(0:Int)) (K .ret (bds 6 (Zcc 0 0::Zal::Zaf (Dv.s (.slice none 0 0))::Zaf (i64 e3)::Zcc 1 0::bds 47 (Zbb [Zaf (i64 1),Zdc (Fn.func 30) [] [],Zaf (i64 3),Zdc (Fn.func 31) [] []]::Zaf (i64 0)::bds 19 []))) (Qz7 w d fr) (some (d0,hs2))) (true=true∧∃(d6:Nat) (hs7:List HalfS) (out8:List HalfS), [Zaf (Dv.s (Zbe (some d)))]= [Zaf (Dv.s (Zbe (some d6)))]∧some (d0,hs2)=some (d6,hs7)∧((∀(h:HalfS),h∈hs7→InI (HalfS.st h))∧Zae hs7<1000000∧out8=listS hs7)∧K .ret (bds 6 (Zcc 0 0::Zal::Zaf (Zbc 6 (rowsH out8))::Zaf (i64 0)::Zcc 1 0::bds 47 (Zbb [Zaf (i64 1),Zdc (Fn.func 30) [] [],Zaf (i64 3),Zdc (Fn.func 31) [] []]::Zaf (i64 0)::bds 19 []))) (Qz7 w d fr) (some (d6,hs7))))):=by kernel_rfl
theorem h2r1 (d:Nat) (hs:List HalfS) (w:WordS) (fr:Int):wpc Tryd.prog ⟨TH2, [],wlSp TH2 CH3,y,false⟩ 100 lpH2 (tmH2 1) [wordB w,deskB d fr] (some (d,hs)) (maskK 2 [6,8,9,10,58,59] K)=(BIf ((3:Int) !=WordS.ki w) (K .normal (bds 6 (Zcc 0 0::Zal::Zaf (Dv.s (.slice none 0 0))::Zaf (i64 0)::Zcc 1 0::bds 47 (Zbb [Zaf (i64 1),Zdc (Fn.func 30) [] [],Zaf (i64 3),Zdc (Fn.func 31) [] []]::Zaf (i64 2)::bds 19 []))) (Qz7 w d fr) (some (d,hs))) (true=true∧∃(d0:Nat) (hs1:List HalfS) (hs2:List HalfS) (e3:Int) (fr4:Int) (w5:WordS),(Qz29 d fr w)=(Qz29 d0 fr4 w5)∧some (d,hs)=some (d0,hs1)∧(InI (WordS.st w5)∧Zae hs1<1000000∧e3=Zcx (provedS hs1 w5)∧hs2=Zcy (provedS hs1 w5))∧BIf (e3 !=(0:Int)) (K .ret (bds 6 (Zcc 0 0::Zal::Zaf (Dv.s (.slice none 0 0))::Zaf (i64 e3)::Zcc 1 0::bds 47 (Zbb [Zaf (i64 1),Zdc (Fn.func 30) [] [],Zaf (i64 3),Zdc (Fn.func 31) [] []]::Zaf (i64 1)::bds 19 []))) (Qz7 w d fr) (some (d0,hs2))) (true=true∧∃(d6:Nat) (hs7:List HalfS) (out8:List HalfS), [Zaf (Dv.s (Zbe (some d)))]= [Zaf (Dv.s (Zbe (some d6)))]∧some (d0,hs2)=some (d6,hs7)∧((∀(h:HalfS),h∈hs7→InI (HalfS.st h))∧Zae hs7<1000000∧out8=listS hs7)∧K .ret (bds 6 (Zcc 0 0::Zal::Zaf (Zbc 6 (rowsH out8))::Zaf (i64 0)::Zcc 1 0::bds 47 (Zbb [Zaf (i64 1),Zdc (Fn.func 30) [] [],Zaf (i64 3),Zdc (Fn.func 31) [] []]::Zaf (i64 1)::bds 19 []))) (Qz7 w d fr) (some (d6,hs7))))):=by kernel_rfl
theorem h2r2 (d:Nat) (hs:List HalfS) (w:WordS) (fr:Int):wpc Tryd.prog ⟨TH2, [],wlSp TH2 CH3,y,false⟩ 100 lpH2 (tmH2 2) [wordB w,deskB d fr] (some (d,hs)) (maskK 2 [6,8,9,10,58,59] K)=(K (Zea 2) (bds 6 (Zcc 0 0::Zal::Zaf (Dv.s (.slice none 0 0))::Zaf (i64 0)::Zcc 1 0::bds 47 (Zbb [Zaf (i64 1),Zdc (Fn.func 30) [] [],Zaf (i64 3),Zdc (Fn.func 31) [] []]::Zaf (i64 2)::bds 19 []))) (Qz7 w d fr) (some (d,hs))):=by kernel_rfl
end
theorem mem_insH {x h:HalfS} {l:List HalfS}:x∈insH h l↔x=h∨x∈l:=by
 induction l with
 |nil=>simp [insH]
 | cons y r ih=>
   simp only [insH]
   split
   · simp
   · simp only [List.mem_cons,ih]
     constructor
     · rintro (h|h|h)<;>simp [h]
     · rintro (h|h|h)<;>simp [h]
theorem mem_putH {x h:HalfS} {l:List HalfS}:x∈putH h l↔x=h∨(x∈l∧x.st≠h.st):=by
 simp [putH,mem_insH]
theorem askedS_mem {hs:List HalfS} {fr:Int} {w:WordS} {x:HalfS} (h:x∈(askedS hs fr w).2):x∈hs∨x.st=w.st:=by
 unfold askedS at h
 split at h
 · split at h
   · exact .inl h
   · split at h
     · exact .inl h
     · rcases mem_putH.1 h with rfl|⟨h,_⟩
       · exact .inr rfl
       · exact .inl h
 · split at h
   · exact .inl h
   · rcases mem_putH.1 h with rfl|⟨h,_⟩
     · exact .inr rfl
     · exact .inl h
theorem provedS_mem {hs:List HalfS} {w:WordS} {x:HalfS} (h:x∈(provedS hs w).2):x∈hs∨x.st=w.st:=by
 unfold provedS at h
 simp only at h
 split at h
 · rename_i h1
   split at h
   · exact .inl h
   · split at h
     · exact .inl h
     · rcases mem_putH.1 h with rfl|⟨h,_⟩
       · exact .inr (getH_st h1)
       · exact .inl h
 · exact .inl h
theorem askedS_len (hs:List HalfS) (fr:Int) (w:WordS):(askedS hs fr w).2.length≤hs.length+1:=by
 unfold askedS
 split
 · split
   · exact Nat.le_succ _
   · split
     · exact Nat.le_succ _
     · exact putH_len _ _
 · split
   · exact Nat.le_succ _
   · exact putH_len _ _
theorem provedS_len (hs:List HalfS) (w:WordS):(provedS hs w).2.length≤hs.length+1:=by
 unfold provedS
 simp only
 split
 · split
   · exact Nat.le_succ _
   · split
     · exact Nat.le_succ _
     · exact putH_len _ _
 · exact Nat.le_succ _
def tmH3 (l:AV) (e i:Int):List AV:= [.bad, .bad, .bad, .bad, .bad, .bad, .ptr 0 0, .bad,l, .d (i64 e), .ptr 1 0]++Zap 47 .bad++ [.agg [.d (i64 1),fnA 30, .d (i64 3),fnA 31], .d (i64 i)]++Zap 19 .bad
theorem wrH2 {N:Nat} {w0:World} {lent:List Nat} {Q:Exit→St SpG→Prop} (d:Nat) (hs:List HalfS) (w:WordS) (fr:Int) (hw:InI w.st) (hi:∀h∈hs,InI h.st) (hl:hs.length<999999)
   (hq:BIf (1 !=w.ki) (BIf (3 !=w.ki) (Q (.exit 2) ⟨tmH2 2, [wordB w,deskB d fr],some (d,hs)⟩)
     (BIf ((provedS hs w).1 !=0) (Q .ret ⟨tmH3 nilA (provedS hs w).1 1, [wordB w,deskB d fr],some (d,(provedS hs w).2)⟩) (Q .ret ⟨tmH3 (.d (.sl 6 (rowsH (listS (provedS hs w).2)))) 0 1, [wordB w,deskB d fr],some (d,(provedS hs w).2)⟩)))
     (BIf ((askedS hs fr w).1 !=0) (Q .ret ⟨tmH3 nilA (askedS hs fr w).1 0, [wordB w,deskB d fr],some (d,(askedS hs fr w).2)⟩) (Q .ret ⟨tmH3 (.d (.sl 6 (rowsH (listS (askedS hs fr w).2)))) 0 0, [wordB w,deskB d fr],some (d,(askedS hs fr w).2)⟩))):
   WR (Zcj Tryd.prog none N w0 lent spF) lpH2 3 ⟨tmH2 0, [wordB w,deskB d fr],some (d,hs)⟩ Q:=by
 have hm1:∀h∈(askedS hs fr w).2,InI h.st:=fun h hh=>(askedS_mem hh).elim (hi h) fun e=>e▸hw
 have hm2:∀h∈(provedS hs w).2,InI h.st:=fun h hh=>(provedS_mem hh).elim (hi h) fun e=>e▸hw
 have hl1:=askedS_len hs fr w
 have hl2:=provedS_len hs w
 refine Zcr [6,8,9,10,58,59] mixed (spX_ok TH2_ok CH3_ok lent N w0) (k:=100) ?_
 refine Eq.mpr (h2r0 _ _ d hs w fr) ?_
 refine Zat (fun h1=> ?_) fun h1=> ?_
 · have hq:=bif_t hq h1
   refine Zcr [6,8,9,10,58,59] mixed (spX_ok TH2_ok CH3_ok lent N w0) (k:=100) ?_
   refine Eq.mpr (h2r1 _ _ d hs w fr) ?_
   refine Zat (fun h2=> ?_) fun h2=> ?_
   · have hq:=bif_t hq h2
     refine Zcr [6,8,9,10,58,59] mixed (spX_ok TH2_ok CH3_ok lent N w0) (k:=100) ?_
     exact Eq.mpr (h2r2 _ _ d hs w fr) hq
   · have hq:=bif_f hq h2
     refine ⟨rfl,d,hs,_,_,fr,w,rfl,rfl,⟨hw,by omega,rfl,rfl⟩,Zat (fun h3=>bif_t hq h3) fun h3=>⟨rfl,d,_,_,rfl,rfl,⟨hm2,by omega,rfl⟩,bif_f hq h3⟩⟩
 · have hq:=bif_f hq h1
   refine ⟨rfl,d,hs,_,_,fr,w,rfl,rfl,⟨hw,by omega,rfl,rfl⟩,Zat (fun h3=>bif_t hq h3) fun h3=>⟨rfl,d,_,_,rfl,rfl,⟨hm1,by omega,rfl⟩,bif_f hq h3⟩⟩
def THe:List (Nat×(List AV→(AV→Prop)→Prop)):= [(13,cValid),(28,cIsWord),(29,cIn),(4000003,cNone)]
theorem THe_ok:CallsOk Tryd.prog THe:=Zam cValid_ok (Zam cIsWord_ok (Zam cIn_ok (Zam cNone_ok Zas)))
def wlHe0:WLT SpG:=fun c tm hp g K=>match cidO c with
 | 6 =>∃(d:Nat) (hs t t0:List HalfS) (w:WordS) (fr:Int),c= .loop lpHr∧maskTm [6,8,9,10,44,45,46] 0 tm=tmHr hs (rowsH hs).length 0∧hp= [wordB w,deskB d fr]∧g=some (d,t0)∧(t0= []∧(∀i,i<hs.length→InI (nthH hs i).st)∧hs.length<1000000∧t=tabH hs)∧
     ∀i:Int,K (.exit 0) (tmHr hs hs.length i) [wordB w,deskB d fr] (some (d,t))
 |11=>∃(d:Nat) (hs r1 r2 q1 q2:List HalfS) (e1 e2:Int) (w:WordS) (fr:Int),c= .loop lpH2∧maskTm [6,8,9,10,58,59] 0 tm=tmH2 0∧hp= [wordB w,deskB d fr]∧g=some (d,hs)∧(InI w.st∧(∀h∈hs,InI h.st)∧hs.length<999999∧e1=(askedS hs fr w).1∧r1=(askedS hs fr w).2∧q1=listS r1∧e2=(provedS hs w).1∧r2=(provedS hs w).2∧q2=listS r2)∧
     BIf (1 !=w.ki) (BIf (3 !=w.ki) (K (.exit 2) (tmH2 2) [wordB w,deskB d fr] (some (d,hs)))
       (BIf (e2 !=0) (K .ret (tmH3 nilA e2 1) [wordB w,deskB d fr] (some (d,r2))) (K .ret (tmH3 (.d (.sl 6 (rowsH q2))) 0 1) [wordB w,deskB d fr] (some (d,r2)))))
       (BIf (e1 !=0) (K .ret (tmH3 nilA e1 0) [wordB w,deskB d fr] (some (d,r1))) (K .ret (tmH3 (.d (.sl 6 (rowsH q1))) 0 0) [wordB w,deskB d fr] (some (d,r1))))
 |_=>False
theorem wlHe0_ok (N:Nat) (w0:World) (lent:List Nat) (c:Code) (tm:List AV) (hp:List Blk) (b:SpG) (K:Exit→List AV→List Blk→SpG→Prop) (h:wlHe0 c tm hp b K):W (Zcj Tryd.prog none N w0 lent spF) c ⟨tm,hp,b⟩ (fun e s=>K e s.tm s.hp s.b):=by
 unfold wlHe0 at h
 split at h
 · obtain ⟨d,hs,_,_,w,fr,rfl,htm,rfl,rfl,⟨rfl,h1,h2,rfl⟩,hK⟩:=h
   rw [rowsH_len] at htm
   refine W.cast (htm▸maskTm_le _ tm 0) (Zdj _) ?_
   exact W.rounds (wrHr (Q:=fun e s=>K e s.tm s.hp s.b) hs d w fr h1 h2 hK hs.length 0 (by omega))
 · obtain ⟨d,hs,_,_,_,_,_,_,w,fr,rfl,htm,rfl,rfl,⟨h1,h2,h3,rfl,rfl,rfl,rfl,rfl,rfl⟩,hK⟩:=h
   refine W.cast (htm▸maskTm_le _ tm 0) (Zdj _) ?_
   exact W.rounds (wrH2 (Q:=fun e s=>K e s.tm s.hp s.b) d hs w fr h1 h2 h3 hK)
 · exact h.elim
def wlHe:WLT SpG:=wlM Tryd.prog ⟨THe, [],fun _ _ _ _ _=>False,fun _ _ _=>False,false⟩ (spM []) wlHe0
theorem wlHe_ok (lent:List Nat) (N:Nat) (w0:World):∀c tm hp b K,wlHe c tm hp b K→W (Zcj Tryd.prog none N w0 lent spF) c ⟨tm,hp,b⟩ (fun e s=>K e s.tm s.hp s.b):=
 wlM_ok (Ev:=Zcj Tryd.prog none N w0 lent spF) mixed (CX.Ok.ofWl (Ev:=Zcj Tryd.prog none N w0 lent spF) THe_ok Zao fun _ _ _ _ _ h=>h.elim) (spM_ok MCTok.nil N w0 lent) (wlHe0_ok N w0 lent)
section
variable (R:AV→SpG→Prop)
abbrev Qz22 (v0:List HalfS):List AV:=bds 6 (Zcc 0 0::Zal::Zaf (Dv.s (.slice none 0 0))::Zaf (i64 0)::Zcc 1 0::bds 33 (Zaf (Zbc 6 (rowsH v0))::Zaf (i64 ((Zae (rowsH v0):Nat):Int))::Zaf (i64 0)::bds 32 []))
abbrev Qz27:List AV:= [Zaf (Dv.s (.slice none 0 0)),Zaf (i64 1)]
theorem hear_nf (hs:List HalfS) (me fr:Int) (w:WordS):wpFn Tryd.prog ⟨THe, [],wlHe,fun _ _ _=>False,false⟩ 100 Tryd.f11 [.d (.sl 6 (rowsH hs)), .d (i64 me),wordA w, .d (i64 fr)] none R=(∃(hs0:List HalfS) (z1:Bool), [Zaf (Zbc 6 (rowsH hs))]= [Zaf (Zbc 6 (rowsH hs0))]∧(Zae hs0≤9223372036854775807∧z1=validH hs0)∧BIf (!z1) (R (.tup Qz27) none) (∃(w2:WordS) (z3:Bool), [Zbb (Qz1 w)]= [Zbb (Qz1 w2)]∧z3=isWordS w2∧BIf (!z3) (R (.tup Qz27) none) (BIf (WordS.sp w !=me) (R (.tup Qz27) none) (∃(n4:Int) (h5:Int), [Zaf (i64 (WordS.ke w)),Zaf (i64 2000000)]= [Zaf (i64 n4),Zaf (i64 h5)]∧BIf (!inN n4 h5) (R (.tup Qz27) none) (∃(n6:Int) (h7:Int), [Zaf (i64 fr),Zaf (i64 999999988)]= [Zaf (i64 n6),Zaf (i64 h7)]∧BIf (!inN n6 h7) (R (.tup Qz27) none) (NoG none∧59=59∧∀(d:Nat),∃(d8:Nat) (hs9:List HalfS) (t10:List HalfS) (t11:List HalfS) (w12:WordS) (fr13:Int),Zdi lpHr=Zdi lpHr∧(Qz22 hs)=(Qz22 hs9)∧(Qz7 w d fr)=(Qz7 w12 d8 fr13)∧some (d, [])=some (d8,t11)∧(t11= []∧(∀(i:Nat),i<Zae hs9→InI (HalfS.st (nthH hs9 i)))∧Zae hs9<1000000∧t10=tabH hs9)∧∀(i:Int),∃(d14:Nat) (hs15:List HalfS) (r16:List HalfS) (r17:List HalfS) (q18:List HalfS) (q19:List HalfS) (e20:Int) (e21:Int) (w22:WordS) (fr23:Int),Zdi lpH2=Zdi lpH2∧(bds 6 (Zcc 0 0::Zal::Zaf (Dv.s (.slice none 0 0))::Zaf (i64 0)::Zcc 1 0::bds 47 (Zbb [Zaf (i64 1),Zdc (Fn.func 30) [] [],Zaf (i64 3),Zdc (Fn.func 31) [] []]::Zaf (i64 0)::bds 19 [])))=(bds 6 (Zcc 0 0::Zal::Zaf (Dv.s (.slice none 0 0))::Zaf (i64 0)::Zcc 1 0::bds 47 (Zbb [Zaf (i64 1),Zdc (Fn.func 30) [] [],Zaf (i64 3),Zdc (Fn.func 31) [] []]::Zaf (i64 0)::bds 19 [])))∧(Qz7 w12 d8 fr13)=(Qz7 w22 d14 fr23)∧some (d8,t10)=some (d14,hs15)∧(InI (WordS.st w22)∧(∀(h:HalfS),h∈hs15→InI (HalfS.st h))∧Zae hs15<999999∧e20=Zcx (askedS hs15 fr23 w22)∧r16=Zcy (askedS hs15 fr23 w22)∧q18=listS r16∧e21=Zcx (provedS hs15 w22)∧r17=Zcy (provedS hs15 w22)∧q19=listS r17)∧BIf ((1:Int) !=WordS.ki w22) (BIf ((3:Int) !=WordS.ki w22) (R (.tup [Zaf (Dv.s (.slice none 0 0)),Zaf (i64 9)]) (some (d14,hs15))) (BIf (e21 !=(0:Int)) (R (.tup [Zaf (Dv.s (.slice none 0 0)),Zaf (i64 e21)]) (some (d14,r17))) (R (.tup [Zaf (Zbc 6 (rowsH q19)),Zaf (i64 0)]) (some (d14,r17))))) (BIf (e20 !=(0:Int)) (R (.tup [Zaf (Dv.s (.slice none 0 0)),Zaf (i64 e20)]) (some (d14,r16))) (R (.tup [Zaf (Zbc 6 (rowsH q18)),Zaf (i64 0)]) (some (d14,r16)))))))))):=by kernel_rfl
end
def hearS (hs:List HalfS) (me:Int) (w:WordS) (fr:Int):List HalfS×Int:=
 if (!validH hs)=true then ([],1) else if (!isWordS w)=true then ([],1) else if (w.sp !=me)=true then ([],1) else if (!inN w.ke 2000000)=true then ([],1) else if (!inN fr 999999988)=true then ([],1)
 else if (1 !=w.ki)=true then (if (3 !=w.ki)=true then ([],9) else if ((provedS (tabH hs) w).1 !=0)=true then ([],(provedS (tabH hs) w).1) else (listS (provedS (tabH hs) w).2,0))
 else if ((askedS (tabH hs) fr w).1 !=0)=true then ([],(askedS (tabH hs) fr w).1) else (listS (askedS (tabH hs) fr w).2,0)
theorem tabH_mem {hs:List HalfS} {x:HalfS} (h:x∈tabH hs):x∈hs:=by
 have key:∀(l t:List HalfS),x∈l.foldl (fun t h=>putH h t) t→x∈l∨x∈t:=by
   intro l
   induction l with
   |nil=>intro t h;exact .inr h
   | cons y r ih=>
     intro t h
     rcases ih _ h with h|h
     · exact .inl (List.mem_cons_of_mem _ h)
     · rcases mem_putH.1 h with rfl|⟨h,_⟩
       · exact .inl (List.mem_cons_self ..)
       · exact .inr h
 rcases key hs [] h with h|h
 · exact h
 · cases h
theorem inI_of_halfOk {h:HalfS} (hh:halfOk h=true):InI h.st:=by
 simp only [halfOk,Zag,nodeN,inN,decide_eq_true_eq] at hh
 exact ⟨by omega,by omega⟩
theorem valid_halfOk {hs:List HalfS} (hv:validH hs=true) {i:Nat} (hi:i<hs.length):halfOk (nthH hs i)=true:=by
 simp only [validH,Zag,Bool.not_eq_true',List.any_eq_false,List.mem_range] at hv
 have:=hv.1 i hi
 simp only [badAt,Bool.or_eq_true,not_or] at this
 simpa using this.1
theorem valid_len {hs:List HalfS} (hv:validH hs=true):hs.length≤4:=by
 simp only [validH,Zag,decide_eq_true_eq] at hv
 exact hv.2
theorem valid_mem {hs:List HalfS} (hv:validH hs=true) {x:HalfS} (hx:x∈hs):halfOk x=true:=by
 obtain ⟨i,hi⟩:=List.mem_iff_getElem?.1 hx
 have hl:=(List.getElem?_eq_some_iff.1 hi).1
 have:=valid_halfOk hv hl
 rwa [nthH,List.getD_eq_getElem?_getD,hi] at this
theorem inI_word {w:WordS} (h:isWordS w=true):InI w.st:=by
 have hf:formedW w=true:=by
   cases hf:formedW w with
   |true=>rfl
   |false=>simp [isWordS,judgeS,hf] at h
 simp only [formedW,Zag,nodeJ,decide_eq_true_eq] at hf
 exact ⟨by omega,by omega⟩
theorem leNil {e:Int}:LeT (.tup [nilA, .d (i64 e)]) (.tup [.d (.sl 6 (rowsH [])), .d (i64 e)]):= .tup (.cons (LeA.nilSl rfl) (.cons LeA.rfl .nil))
theorem leRefl {q:List HalfS} {e:Int}:LeT (.tup [.d (.sl 6 (rowsH q)), .d (i64 e)]) (.tup [.d (.sl 6 (rowsH q)), .d (i64 e)]):= .tup (.cons LeA.rfl (.cons LeA.rfl .nil))
theorem pcHear (hs:List HalfS) (me fr:Int) (w:WordS) (hl:hs.length≤9223372036854775807):PCall Tryd.prog 11 [.d (.sl 6 (rowsH hs)), .d (i64 me),wordA w, .d (i64 fr)] (.tup [.d (.sl 6 (rowsH (hearS hs me w fr).1)), .d (i64 (hearS hs me w fr).2)]):=by
 refine MCall.toP (f:=spF) (g:=none) rfl (MCall.leT ?_)
 refine MCall.ofFn (n:=100) (u:=false) wlHe mixed THe_ok Zao (fun N w0=>wlHe_ok _ N w0) Tryd.func11 (by rfl) (by rfl) ?_
 rw [hear_nf]
 refine ⟨hs,_,rfl,⟨hl,rfl⟩,Zat (fun h1=> ?_) fun h1=>⟨w,_,rfl,rfl,Zat (fun h2=> ?_) fun h2=>Zat (fun h3=> ?_) fun h3=>⟨_,_,rfl,Zat (fun h4=> ?_) fun h4=>⟨_,_,rfl,Zat (fun h5=> ?_) fun h5=> ?_⟩⟩⟩⟩
 · rw [hearS,if_pos h1];exact ⟨leNil,rfl⟩
 · rw [hearS,if_neg (by rw [h1];decide),if_pos h2];exact ⟨leNil,rfl⟩
 · rw [hearS,if_neg (by rw [h1];decide),if_neg (by rw [h2];decide),if_pos h3];exact ⟨leNil,rfl⟩
 · rw [hearS,if_neg (by rw [h1];decide),if_neg (by rw [h2];decide),if_neg (by rw [h3];decide),if_pos h4];exact ⟨leNil,rfl⟩
 · rw [hearS,if_neg (by rw [h1];decide),if_neg (by rw [h2];decide),if_neg (by rw [h3];decide),if_neg (by rw [h4];decide),if_pos h5];exact ⟨leNil,rfl⟩
 rw [hearS,if_neg (by rw [h1];decide),if_neg (by rw [h2];decide),if_neg (by rw [h3];decide),if_neg (by rw [h4];decide),if_neg (by rw [h5];decide)]
 have hv:validH hs=true:=by simpa using h1
 have hw:isWordS w=true:=by simpa using h2
 have hi:∀h∈tabH hs,InI h.st:=fun h hh=>inI_of_halfOk (valid_mem hv (tabH_mem hh))
 have htl:=tabH_len hs
 have hsl:=valid_len hv
 refine ⟨⟨rfl⟩,rfl,fun d=>⟨d,hs,_, [],w,fr,rfl,rfl,rfl,rfl,⟨rfl,fun i hi=>inI_of_halfOk (valid_halfOk hv hi),by omega,rfl⟩,fun i=>⟨d,tabH hs,_,_,_,_,_,_,w,fr,rfl,rfl,rfl,rfl,⟨inI_word hw,hi,by omega,rfl,rfl,rfl,rfl,rfl,rfl⟩,
   Zat (fun h6=>Zat (fun h7=> ?_) fun h7=>Zat (fun h8=> ?_) fun h8=> ?_) fun h6=>Zat (fun h8=> ?_) fun h8=> ?_⟩⟩⟩
 · rw [if_pos h6,if_pos h7];exact ⟨leNil,rfl⟩
 · rw [if_pos h6,if_neg (by rw [h7];decide),if_pos h8];exact ⟨leNil,rfl⟩
 · rw [if_pos h6,if_neg (by rw [h7];decide),if_neg (by rw [h8];decide)];exact ⟨leRefl,rfl⟩
 · rw [if_neg (by rw [h6];decide),if_pos h8];exact ⟨leNil,rfl⟩
 · rw [if_neg (by rw [h6];decide),if_neg (by rw [h8];decide)];exact ⟨leRefl,rfl⟩
def G40:List (Nat×(List AV→List Blk→(AV→List Blk→Prop)→Prop)):= [(1000040,fun _ _ _=>False)]
theorem G40_ok:SCallsOk Tryd.prog G40:=Zcq (fun _ _ _ h=>h.elim) Zao
def fnL (fr:Int):AV:= .fn (.func 40) [] [.rptr [i64 fr]]
theorem lateF_nf (h:HalfS) (fr:Int):wpFn Tryd.prog ⟨[], [],wl,y,false⟩ 100 Tryd.f40 [halfA h, .rptr [i64 fr]] b R=(R (Zaf (bo (decide (HalfS.un h<fr)))) b):=by kernel_rfl
theorem clone39S_nf (xs:List (List Dv)):wpFnS Tryd.prog ⟨[],G40,wl,y,false⟩ 100 Tryd.f39 [.d (.sl 6 xs)] b RS=(∀(t:Bool),(t=true→xs= [])→BIf t (RS (Zaf (Dv.s (.slice none 0 0))) [] b) (BIf (true&&decide (Zae xs*48≤140737488355328)) (BIf (decide (0<Zae xs)) (RS (AV.gref 0 0 (Zae xs) 6) [Blk.mk (flatA xs) false true 0] b) (RS (AV.full 6 []) [] b)) False)):=by kernel_rfl
theorem pcLate (h:HalfS) (fr:Int):PCall Tryd.prog 40 [halfA h, .rptr [i64 fr]] (.d (bo (decide (h.un<fr)))):=by
 refine Zcd (n:=100) (u:=false) mixed Zas Zao Tryd.func40 (by rfl) (by rfl) fun Ev bb=> ?_
 rw [lateF_nf]
def cLate (args:List AV) (K:AV→Prop):Prop:=∃(h:HalfS) (fr:Int),args= [halfA h, .rptr [i64 fr]]∧K (.d (bo (decide (h.un<fr))))
theorem cLate_ok:∀args K,cLate args K→∃x,PCall Tryd.prog 40 args x∧K x:=by
 rintro _ K ⟨h,fr,rfl,hk⟩;exact ⟨_,pcLate h fr,hk⟩
theorem pcClone39:CloneF Tryd.prog 39 6:=fun xs hl=>by
 refine FCall.ofFnF (n:=100) (u:=false) wlNo mixed Zas G40_ok (fun Ev=>wlNo_ok Ev) Tryd.func39 (by rfl) (by rfl) (by split<;>rfl) fun Ev bb=> ?_
 rw [clone39S_nf]
 refine fun t ht=>Zat (fun h=>by rw [ht h];exact ⟨.nilFull rfl,rfl⟩) fun h=>Zcp (by simp<;>omega) ?_
 cases xs with
 |nil=>exact BIf.f rfl ⟨.rfl,rfl⟩
 |cons a xs=>exact Zcp (by simp) ⟨.rfl,rfl⟩
def TLa:List (Nat×(List AV→(AV→Prop)→Prop)):= [(40,cLate)]
theorem TLa_ok:CallsOk Tryd.prog TLa:=Zam cLate_ok Zas
noncomputable def lpIf:Code:=sub [1,0,1,2,3] (code Tryd.f55)
def tmIf (hs:List HalfS) (fr z n i:Int):List AV:= [.d (.sl 6 (rowsH hs)),fnL fr, .bad, .bad, .d (i64 z), .bad, .bad, .d (i64 n), .d (i64 i)]++Zap 10 .bad
theorem rIf (hs:List HalfS) (fr n i:Int):wpc Tryd.prog ⟨TLa, [],wl,y,false⟩ 100 lpIf (tmIf hs fr 0 n i) [] b (maskK 0 [0,1,4,7,8] K)=(BIf (decide (i<n)) (BIf (true&&decide (0≤i)) (∃(x0:Int) (x1:Int) (x2:Int) (x3:Int) (b4:Bool) (x5:Int),(rowsH hs)[Zbl i]? =some (Qz19 x0 x1 x2 x3 b4 x5)∧∃(h8:HalfS) (fr9:Int), [Zbb (Qz14 x0 x1 x2 x3 b4 x5),Zdo [i64 fr]]= [Zbb (Qz4 h8),Zdo [i64 fr9]]∧BIf (decide (HalfS.un h8<fr9)) (K .ret (Zaf (Zbc 6 (rowsH hs))::Zdc (Fn.func 40) [] [Zdo [i64 fr]]::Zal::Zal::Zaf (i64 i)::Zal::Zal::Zaf (i64 n)::Zaf (i64 i)::bds 10 []) [] b) (K .normal (Zaf (Zbc 6 (rowsH hs))::Zdc (Fn.func 40) [] [Zdo [i64 fr]]::Zal::Zal::Zaf (i64 0)::Zal::Zal::Zaf (i64 n)::Zaf (i64 (Zad .i64 (i+1)))::bds 10 []) [] b)) False) (K (Zea 0) (Zaf (Zbc 6 (rowsH hs))::Zdc (Fn.func 40) [] [Zdo [i64 fr]]::Zal::Zal::Zaf (i64 0)::Zal::Zal::Zaf (i64 n)::Zaf (i64 i)::bds 10 []) [] b)):=by kernel_rfl
def lateB (fr:Int) (h:HalfS):Bool:=decide (h.un<fr)
def firstL (fr:Int):List HalfS→Nat
 | []=>0
 |h::r=>if lateB fr h=true then 0 else firstL fr r+1
def indexS (hs:List HalfS) (fr:Int):Int:=if firstL fr hs<hs.length then firstL fr hs else -1
theorem nthH_drop {hs:List HalfS} {i:Nat} {h:HalfS} {r:List HalfS} (hd:hs.drop i=h::r):i<hs.length∧nthH hs i=h∧hs.drop (i+1)=r:=by
 have hi:i<hs.length:=by
   apply Classical.byContradiction
   intro hn
   rw [List.drop_eq_nil_of_le (by omega)] at hd;cases hd
 rw [List.drop_eq_getElem_cons hi] at hd
 injection hd with h1 h2
 exact ⟨hi,by simp [nthH,hi,h1],h2⟩
theorem wrIf {Ev:Env Tryd.prog} {b:Ev.β} {Q:Exit→St Ev.β→Prop} (hs:List HalfS) (fr:Int) (hl:hs.length<1000000)
   (hQ1:firstL fr hs=hs.length→∀i:Int,Q (.exit 0) ⟨tmIf hs fr 0 hs.length i, [],b⟩) (hQ2:firstL fr hs<hs.length→∀i:Int,Q .ret ⟨tmIf hs fr (firstL fr hs:Nat) hs.length i, [],b⟩):
   ∀(rest:List HalfS) (i:Nat),hs.drop i=rest→i≤hs.length→firstL fr hs=i+firstL fr rest→WR Ev lpIf (rest.length+1) ⟨tmIf hs fr 0 hs.length i, [],b⟩ Q
 | [],i,hd,hi,hf=>by
   refine Zcr [0,1,4,7,8] mixed (CX.Ok.of (u:=false) TLa_ok Zao) (k:=100) ?_
   refine Eq.mpr (rIf _ _ _ _ hs fr hs.length i) ?_
   have hil:i=hs.length:=by have:=List.drop_eq_nil_iff.1 hd;omega
   exact BIf.f (by simp;omega) (hQ1 (by rw [hf,hil];simp [firstL]) _)
 | h::rest,i,hd,hi,hf=>by
   refine Zcr [0,1,4,7,8] mixed (CX.Ok.of (u:=false) TLa_ok Zao) (k:=100) ?_
   refine Eq.mpr (rIf _ _ _ _ hs fr hs.length i) ?_
   obtain ⟨hi',hh,hd'⟩:=nthH_drop hd
   rw [Zdb,rowsH_at hi']
   refine Zcp (by simp;omega) (Zcp (by simp) ⟨_,_,_,_,_,_,rfl,nthH hs i,fr,rfl,Zat (fun h1=> ?_) fun h1=> ?_⟩)
   · have h1':lateB fr h=true:=by rw [←hh];exact h1
     have hfi:firstL fr hs=i:=by rw [hf,firstL,if_pos h1'];rfl
     have:=hQ2 (by omega) i
     rw [hfi] at this
     exact this
   · have h1':¬lateB fr h=true:=by rw [←hh];simp only [lateB];rw [h1];decide
     rw [wrapN (by omega)]
     exact wrIf hs fr hl hQ1 hQ2 rest (i+1) hd' hi' (by rw [hf,firstL,if_neg h1'];omega)
def wlIf {β:Type}:WLT β:=fun c tm hp b K=>∃(hs:List HalfS) (fr:Int) (k:Nat),c= .loop lpIf∧maskTm [0,1,4,7,8] 0 tm=tmIf hs fr 0 (rowsH hs).length 0∧hp= []∧(hs.length<1000000∧k=firstL fr hs)∧
 BIf (decide (k<hs.length)) (∀i:Int,K .ret (tmIf hs fr k hs.length i) [] b) (∀i:Int,K (.exit 0) (tmIf hs fr 0 hs.length i) [] b)
theorem wlIf_ok {Ev:Env Tryd.prog} (c:Code) (tm:List AV) (hp:List Blk) (b:Ev.β) (K:Exit→List AV→List Blk→Ev.β→Prop) (h:wlIf c tm hp b K):W Ev c ⟨tm,hp,b⟩ (fun e s=>K e s.tm s.hp s.b):=by
 obtain ⟨hs,fr,_,rfl,htm,rfl,⟨hl,rfl⟩,hK⟩:=h
 rw [rowsH_len] at htm
 refine W.cast (htm▸maskTm_le _ tm 0) (Zdj _) ?_
 exact W.rounds (wrIf (Q:=fun e s=>K e s.tm s.hp s.b) hs fr hl (fun h=>bif_f hK (decide_eq_false (by omega))) (fun h=>bif_t hK (decide_eq_true h)) hs 0 rfl (Nat.zero_le _) (by omega))
theorem index_nf (hs:List HalfS) (fr:Int):wpFn Tryd.prog ⟨TLa, [],wlIf,y,false⟩ 100 Tryd.f55 [.d (.sl 6 (rowsH hs)),fnL fr] b R=(∃(hs0:List HalfS) (fr1:Int) (k2:Nat),Zdi lpIf=Zdi lpIf∧(Zaf (Zbc 6 (rowsH hs))::Zdc (Fn.func 40) [] [Zdo [i64 fr]]::Zal::Zal::Zaf (i64 0)::Zal::Zal::Zaf (i64 ((Zae (rowsH hs):Nat):Int))::Zaf (i64 0)::bds 10 [])=(Zaf (Zbc 6 (rowsH hs0))::Zdc (Fn.func 40) [] [Zdo [i64 fr1]]::Zal::Zal::Zaf (i64 0)::Zal::Zal::Zaf (i64 ((Zae (rowsH hs0):Nat):Int))::Zaf (i64 0)::bds 10 [])∧([]:List Blk)= []∧(Zae hs0<1000000∧k2=firstL fr1 hs0)∧BIf (decide (k2<Zae hs0)) (∀(i:Int),R (.d (i64 (k2:Int))) b) (∀(i:Int),R (.d (i64 (-1))) b)):=by kernel_rfl
theorem pcIndex (hs:List HalfS) (fr:Int) (hl:hs.length<1000000):PCall Tryd.prog 55 [.d (.sl 6 (rowsH hs)),fnL fr] (.d (i64 (indexS hs fr))):=by
 refine PCall.ofFnW (n:=100) (u:=false) (fun _=>wlIf) mixed TLa_ok Zao (fun Ev=>wlIf_ok) Tryd.func55 (by rfl) (by rfl) fun Ev bb=> ?_
 rw [index_nf]
 refine ⟨hs,fr,_,rfl,rfl,rfl,⟨hl,rfl⟩,Zat (fun h i=> ?_) fun h i=> ?_⟩
 · rw [indexS,if_pos (of_decide_eq_true h)]
 · rw [indexS,if_neg (of_decide_eq_false h)]
def cIndex (args:List AV) (K:AV→Prop):Prop:=∃(hs:List HalfS) (fr z:Int),args= [.d (.sl 6 (rowsH hs)),fnL fr]∧(hs.length<1000000∧z=indexS hs fr)∧K (.d (i64 z))
theorem cIndex_ok:∀args K,cIndex args K→∃x,PCall Tryd.prog 55 args x∧K x:=by
 rintro _ K ⟨hs,fr,_,rfl,⟨hl,rfl⟩,hk⟩;exact ⟨_,pcIndex hs fr hl,hk⟩
def boxI (fr:Int):Blk:=⟨[.d (i64 fr)],false,false,0⟩
noncomputable def lpDf:Code:=sub [1,1,1,0,1,2,3] (code Tryd.f38)
def tmDf (v n:Nat) (i j:Int):List AV:= [.gref 1 v n 6, .fn (.func 40) [] [.ptr 0 0], .bad, .bad, .bad, .d (i64 i), .d (i64 j)]++Zap 35 .bad
def ULa:List (Nat×(List AV→List Blk→(AV→List Blk→Prop)→Prop)):= [(1000040,fun _ _ _=>False),(40,lendC cLate)]
theorem ULa_ok:SCallsOk Tryd.prog ULa:=Zcq (fun _ _ _ h=>h.elim) (Zcq (lendC_ok cLate_ok) Zao)
def grB (v:Nat) (cs:List AV):Blk:=⟨cs,false,true,v⟩
theorem rDf (v n:Nat) (i j fr:Int) (cs:List AV):wpc Tryd.prog ⟨[],ULa,wl,y,false⟩ 100 lpDf (tmDf v n i j) [boxI fr,grB v cs] b (maskK 2 [0,1,5,6] K)=(v=v∧BIf (decide (j<(n:Int))) (v=v∧BIf (decide (0≤j)&&decide (j<(n:Int))) (v=v∧∃(x0:Int) (x1:Int) (x2:Int) (x3:Int) (b4:Bool) (x5:Int),List.take 6 (List.drop (Zbl j*6) cs)=(Qz14 x0 x1 x2 x3 b4 x5)∧∃(h6:HalfS) (fr7:Int), [Zbb (Qz14 x0 x1 x2 x3 b4 x5),Zdo [i64 fr]]= [Zbb (Qz4 h6),Zdo [i64 fr7]]∧BIf (!decide (HalfS.un h6<fr7)) (v=v∧BIf (decide (0≤i)&&decide (i<(n:Int))) (v=v∧BIf (decide (Zbl i*6+6≤Zae cs)) (BIf (List.all [cell (i64 fr),Blk.mk (List.take (Zbl i*6) cs++(Qz14 x0 x1 x2 x3 b4 x5)++List.drop (Zbl i*6+6) cs) false true v] fun (blk8:Blk)=>lows 2 blk8.1) (K .normal (AV.gref 1 v n 6::Zdc (Fn.func 40) [] [Zcc 0 0]::bds 3 (Zaf (i64 (Zad .i64 (i+1)))::Zaf (i64 (Zad .i64 (j+1)))::bds 35 [])) [cell (i64 fr),Blk.mk (List.take (Zbl i*6) cs++(Qz14 x0 x1 x2 x3 b4 x5)++List.drop (Zbl i*6+6) cs) false true v] b) False) False) False) (BIf (List.all [cell (i64 fr),Blk.mk cs false true v] fun (blk9:Blk)=>lows 2 blk9.1) (K .normal (AV.gref 1 v n 6::Zdc (Fn.func 40) [] [Zcc 0 0]::bds 3 (Zaf (i64 i)::Zaf (i64 (Zad .i64 (j+1)))::bds 35 [])) [cell (i64 fr),Blk.mk cs false true v] b) False)) False) (BIf (List.all [cell (i64 fr),Blk.mk cs false true v] fun (blk10:Blk)=>lows 2 blk10.1) (K (Zea 0) (AV.gref 1 v n 6::Zdc (Fn.func 40) [] [Zcc 0 0]::bds 3 (Zaf (i64 i)::Zaf (i64 j)::bds 35 [])) [cell (i64 fr),Blk.mk cs false true v] b) False)):=by kernel_rfl
theorem hc_cons (h:HalfS) (hs:List HalfS):flatA (rowsH (h::hs))=(halfR h).map .d++flatA (rowsH hs):=flatA_cons _ _
theorem hc_len:∀hs:List HalfS,(flatA (rowsH hs)).length=hs.length*6
 | []=>rfl
 |h::hs=>by rw [hc_cons,List.length_append,hc_len hs];simp [halfR];omega
theorem hc_take:∀(hs:List HalfS) (i:Nat),(flatA (rowsH hs)).take (i*6)=flatA (rowsH (hs.take i))
 | [],i=>by simp [rowsH,flatA]
 |h::hs,0=>by simp [rowsH,flatA]
 | h::hs,i+1=>by
   rw [hc_cons,List.take_succ_cons,hc_cons,←hc_take hs i,List.take_append]
   have e:((halfR h).map Zaf).length=6:=rfl
   rw [e,List.take_of_length_le (by rw [e];omega)]
   congr 2;omega
theorem hc_drop:∀(hs:List HalfS) (i:Nat),(flatA (rowsH hs)).drop (i*6)=flatA (rowsH (hs.drop i))
 | [],i=>by simp [rowsH,flatA]
 |h::hs,0=>by simp
 | h::hs,i+1=>by
   rw [hc_cons,List.drop_succ_cons,←hc_drop hs i,List.drop_append]
   have e:((halfR h).map Zaf).length=6:=rfl
   rw [e,List.drop_eq_nil_of_le (by rw [e];omega),List.nil_append]
   congr 1;omega
theorem hc_at {hs:List HalfS} {j:Nat} (hj:j<hs.length):((flatA (rowsH hs)).drop (j*6)).take 6=(halfR (nthH hs j)).map .d:=by
 rw [hc_drop,List.drop_eq_getElem_cons hj,hc_cons]
 have e:nthH hs j=hs[j]:=by simp [nthH,hj]
 rw [e];rfl
theorem hc_app (a b:List HalfS):flatA (rowsH (a++b))=flatA (rowsH a)++flatA (rowsH b):=by simp [rowsH,flatA_append]
theorem hc_set {hs:List HalfS} {i:Nat} (hi:i<hs.length) (h:HalfS):(flatA (rowsH hs)).take (i*6)++(halfR h).map .d++(flatA (rowsH hs)).drop (i*6+6)=flatA (rowsH (hs.set i h)):=by
 have e:i*6+6=(i+1)*6:=by omega
 rw [e,hc_take,hc_drop,List.set_eq_take_append_cons_drop,if_pos hi,hc_app,hc_cons,List.append_assoc]
theorem hc_lows (n:Nat):∀hs:List HalfS,lows n (flatA (rowsH hs))=true
 | []=>rfl
 | h::hs=>by
   rw [hc_cons]
   have:=hc_lows n hs
   simp only [halfR,List.map_cons,List.map_nil,List.cons_append,List.nil_append,lows,AV.low,this,Bool.and_true]
theorem hc_low2 (fr:Int) (v:Nat) (hs:List HalfS):List.all [boxI fr,grB v (flatA (rowsH hs))] (fun blk=>lows 2 blk.1)=true:=by
 simp only [List.all_cons,List.all_nil,Bool.and_true,Zag]
 exact ⟨rfl,hc_lows 2 hs⟩
def keepH (fr:Int) (h:HalfS):Bool:= !lateB fr h
theorem wrDf {Ev:Env Tryd.prog} {b:Ev.β} {Q:Exit→St Ev.β→Prop} (v:Nat) (fr:Int) (hs:List HalfS) (hl:hs.length<1000000)
   (hQ:∀(cur:List HalfS) (j:Int),cur.length=hs.length→cur.take (hs.filter (keepH fr)).length=hs.filter (keepH fr)→Q (.exit 0) ⟨tmDf v hs.length ((hs.filter (keepH fr)).length:Nat) j, [boxI fr,grB v (flatA (rowsH cur))],b⟩):
   ∀ (rest:List HalfS) (j i:Nat) (cur:List HalfS),hs.drop j=rest→j≤hs.length→i≤j→cur.length=hs.length→cur.take i=(hs.take j).filter (keepH fr)→cur.drop j=rest→
     WR Ev lpDf (rest.length+1) ⟨tmDf v hs.length i j, [boxI fr,grB v (flatA (rowsH cur))],b⟩ Q
 | [],j,i,cur,hd,hj,hi,hcl,ht,hcd=>by
   refine Zcr [0,1,5,6] mixed (CX.Ok.of (u:=false) Zas ULa_ok) (k:=100) ?_
   refine Eq.mpr (rDf _ _ _ _ v hs.length i j fr _) ?_
   have hjl:j=hs.length:=by have:=List.drop_eq_nil_iff.1 hd;omega
   subst hjl
   rw [List.take_length] at ht
   have hil:i=(hs.filter (keepH fr)).length:=by rw [←ht,List.length_take];omega
   refine ⟨rfl,BIf.f (by simp) (Zcp (hc_low2 fr v cur) ?_)⟩
   rw [hil] at ht ⊢
   exact hQ cur _ hcl ht
 | h::rest,j,i,cur,hd,hj,hi,hcl,ht,hcd=>by
   refine Zcr [0,1,5,6] mixed (CX.Ok.of (u:=false) Zas ULa_ok) (k:=100) ?_
   refine Eq.mpr (rDf _ _ _ _ v hs.length i j fr _) ?_
   obtain ⟨hj1,hh1,hd1⟩:=nthH_drop hd
   obtain ⟨hj2,hh2,hd2⟩:=nthH_drop hcd
   have htake:hs.take (j+1)=hs.take j++ [h]:=by
     rw [List.take_succ_eq_append_getElem hj1]
     congr 2
     rw [←hh1];simp [nthH,hj1]
   refine ⟨rfl,Zcp (by simp;omega) ⟨rfl,Zcp (by simp;omega) ⟨rfl,(nthH cur j).st,(nthH cur j).no,(nthH cur j).ch,(nthH cur j).un,(nthH cur j).pr,(nthH cur j).ke,by rw [Zdb];exact hc_at hj2,nthH cur j,fr,rfl,Zat (fun h1=> ?_) fun h1=> ?_⟩⟩⟩
   · have hk:keepH fr h=true:=by rw [←hh2];exact h1
     refine ⟨rfl,Zcp (by simp;omega) ⟨rfl,Zcp (by rw [Zdb,hc_len];simp;omega) ?_⟩⟩
     rw [Zdb]
     have e:=hc_set (hs:=cur) (i:=i) (by omega) (nthH cur j)
     have e':((halfR (nthH cur j)).map Zaf)= [Zaf (i64 (nthH cur j).st),Zaf (i64 (nthH cur j).no),Zaf (i64 (nthH cur j).ch),Zaf (i64 (nthH cur j).un),Zaf (bo (nthH cur j).pr),Zaf (i64 (nthH cur j).ke)]:=rfl
     rw [e'] at e
     rw [e,hh2,wrapN (by omega),wrapN (by omega)]
     refine Zcp (hc_low2 fr v _) ?_
     refine wrDf v fr hs hl hQ rest (j+1) (i+1) (cur.set i h) hd1 hj1 (by omega) (by simpa using hcl) ?_ ?_
     · rw [htake,List.filter_append,←ht,List.take_succ_eq_append_getElem (by simp;omega)]
       simp [hk,List.take_set_of_le]
     · rw [List.drop_set_of_lt (by omega)];exact hd2
   · have hk:keepH fr h=false:=by rw [←hh2];exact h1
     rw [wrapN (by omega)]
     refine Zcp (hc_low2 fr v _) ?_
     refine wrDf v fr hs hl hQ rest (j+1) i cur hd1 hj1 (by omega) hcl ?_ hd2
     rw [htake,List.filter_append,ht]
     simp [hk]
theorem first_take (fr:Int):∀hs:List HalfS,firstL fr hs<hs.length→hs.take (firstL fr hs)=(hs.take (firstL fr hs+1)).filter (keepH fr)
 | [],h=>by simp at h
 | h::r,hf=>by
   simp only [firstL] at hf ⊢
   split
   · rename_i h1;simp [keepH,h1]
   · rename_i h1
     rw [if_neg h1] at hf
     have:=first_take fr r (by simpa using hf)
     simp only [List.take_succ_cons,List.filter_cons,keepH,h1,Bool.not_false,if_true]
     rw [this]
theorem first_all (fr:Int):∀hs:List HalfS,¬firstL fr hs<hs.length→hs.filter (keepH fr)=hs
 | [],_=>rfl
 | h::r,hf=>by
   simp only [firstL] at hf
   split at hf
   · simp at hf
   · rename_i h1
     have:=first_all fr r (by simpa using hf)
     simp only [List.filter_cons,keepH,h1,Bool.not_false,if_true]
     rw [this]
def wlDf0 {β:Type}:WLT β:=fun c tm hp b K=>∃(v:Nat) (fr i j:Int) (hs out:List HalfS),c= .loop lpDf∧maskTm [0,1,5,6] 0 tm=tmDf v hs.length i j∧hp= [boxI fr,grB v (flatA (rowsH hs))]∧(hs.length<1000000∧firstL fr hs<hs.length∧i=firstL fr hs∧j=Zad Zbj (i+1)∧out=hs.filter (keepH fr))∧
 ∀(cur:List HalfS) (j:Int),cur.length=hs.length→cur.take out.length=out→K (.exit 0) (tmDf v hs.length (out.length:Nat) j) [boxI fr,grB v (flatA (rowsH cur))] b
theorem wlDf0_ok {Ev:Env Tryd.prog} (c:Code) (tm:List AV) (hp:List Blk) (b:Ev.β) (K:Exit→List AV→List Blk→Ev.β→Prop) (h:wlDf0 c tm hp b K):W Ev c ⟨tm,hp,b⟩ (fun e s=>K e s.tm s.hp s.b):=by
 obtain ⟨v,fr,_,_,hs,_,rfl,htm,rfl,⟨hl,hf,rfl,rfl,rfl⟩,hK⟩:=h
 rw [wrapN (by omega)] at htm
 refine W.cast (htm▸maskTm_le _ tm 0) (Zdj _) ?_
 exact W.rounds (wrDf (Q:=fun e s=>K e s.tm s.hp s.b) v fr hs hl hK (hs.drop (firstL fr hs+1)) (firstL fr hs+1) (firstL fr hs) hs rfl hf (by omega) rfl (first_take fr hs hf) rfl)
def TDf:List (Nat×(List AV→(AV→Prop)→Prop)):= [(4000011,cNone)]
theorem TDf_ok:CallsOk Tryd.prog TDf:=Zam cNone_ok Zas
def UDf:List (Nat×(List AV→List Blk→(AV→List Blk→Prop)→Prop)):= [(1000040,fun _ _ _=>False),(55,lendC cIndex)]
theorem UDf_ok:SCallsOk Tryd.prog UDf:=Zcq (fun _ _ _ h=>h.elim) (Zcq (lendC_ok cIndex_ok) Zao)
def wlDf {β:Type} (y:YieldT β):WLT β:=wlZ Tryd.prog ⟨TDf,UDf,fun _ _ _ _ _=>False,y,false⟩ wlDf0
theorem del_nf (v n:Nat) (fr:Int) (cs:List AV):wpc Tryd.prog ⟨TDf,UDf,wlDf y,y,false⟩ 100 (code Tryd.f38) (startTm Tryd.f38 [.gref 1 v n 6, .fn (.func 40) [] [.ptr 0 0]]) [boxI fr,grB v cs] b (fnKS Tryd.prog Tryd.f38 RS)=(v=v∧∃(xs0:List (List Dv)),cs=flatA xs0∧Zae xs0=n∧(∀(r:List Dv),r∈xs0→Zae r=6)∧∃(hs1:List HalfS) (fr2:Int) (z3:Int), [Zaf (Zbc 6 xs0),Zdc (Fn.func 40) [] [Zdo [i64 fr]]]= [Zaf (Zbc 6 (rowsH hs1)),Zdc (Fn.func 40) [] [Zdo [i64 fr2]]]∧(Zae hs1<1000000∧z3=indexS hs1 fr2)∧BIf (z3==(-1:Int)) (RS (AV.gref 1 v n 6) [cell (i64 fr),Blk.mk cs false true v] b) (∃(v4:Nat) (fr5:Int) (i6:Int) (j7:Int) (hs8:List HalfS) (out9:List HalfS),Zdi lpDf=Zdi lpDf∧(AV.gref 1 v n 6::Zdc (Fn.func 40) [] [Zcc 0 0]::bds 3 (Zaf (i64 z3)::Zaf (i64 (Zad .i64 (z3+1)))::bds 35 []))=(AV.gref 1 v4 (Zae hs8) 6::Zdc (Fn.func 40) [] [Zcc 0 0]::bds 3 (Zaf (i64 i6)::Zaf (i64 j7)::bds 35 []))∧ [cell (i64 fr),Blk.mk cs false true v]= [cell (i64 fr5),Blk.mk (flatA (rowsH hs8)) false true v4]∧(Zae hs8<1000000∧firstL fr5 hs8<Zae hs8∧i6=((firstL fr5 hs8:Nat):Int)∧j7=Zad .i64 (i6+1)∧out9=List.filter (keepH fr5) hs8)∧∀(cur:List HalfS) (j:Int),Zae cur=Zae hs8→List.take (Zae out9) cur=out9→v4=v4∧BIf (true&&decide (((Zae out9:Nat):Int)≤((Zae hs8:Nat):Int))) (BIf (true&&decide (((Zae out9:Nat):Int)≤((Zae hs8:Nat):Int))) (v4=v4∧RS (AV.gref 1 (v4+1) (Zbl ((Zae out9:Nat):Int)) 6) [cell (i64 fr5),Blk.mk (List.take (Zbl ((Zae out9:Nat):Int)*6) (List.take (Zbl ((Zae out9:Nat):Int)*6) (flatA (rowsH cur))++flatA (Zap (Zae hs8 - Zbl ((Zae out9:Nat):Int)) [i64 0,i64 0,i64 0,i64 0,bo false,i64 0]))) false true (v4+1)] b) False) False)):=by kernel_rfl
theorem del_body:Tryd.f38.body=some (code Tryd.f38):=by rfl
def delV (v:Nat) (fr:Int) (hs:List HalfS):Nat:=if firstL fr hs<hs.length then v+1 else v
theorem del_X (Ev:Env Tryd.prog):CX.Ok Ev ⟨TDf,UDf,wlDf Ev.Y,Ev.Y,false⟩:=
 CX.Ok.ofWl TDf_ok UDf_ok (wlZ_ok (X:=⟨TDf,UDf,fun _ _ _ _ _=>False,Ev.Y,false⟩) (CX.Ok.ofWl TDf_ok UDf_ok fun _ _ _ _ _ h=>h.elim) wlDf0_ok)
theorem del0_nf (fr:Int):wpc Tryd.prog ⟨TDf,UDf,wlDf y,y,false⟩ 100 (code Tryd.f38) (startTm Tryd.f38 [.d (.sl 6 []), .fn (.func 40) [] [.ptr 0 0]]) [boxI fr] b (fnKS Tryd.prog Tryd.f38 RS)=(∃(hs0:List HalfS) (fr1:Int) (z2:Int), [Zaf (Zbc 6 []),Zdc (Fn.func 40) [] [Zdo [i64 fr]]]= [Zaf (Zbc 6 (rowsH hs0)),Zdc (Fn.func 40) [] [Zdo [i64 fr1]]]∧(Zae hs0<1000000∧z2=indexS hs0 fr1)∧BIf (z2==(-1:Int)) (RS (Zaf (Zbc 6 [])) [cell (i64 fr)] b) (∃(v3:Nat) (fr4:Int) (i5:Int) (j6:Int) (hs7:List HalfS) (out8:List HalfS),Zdi lpDf=Zdi lpDf∧(Zaf (Zbc 6 [])::Zdc (Fn.func 40) [] [Zcc 0 0]::bds 3 (Zaf (i64 z2)::Zaf (i64 (Zad .i64 (z2+1)))::bds 35 []))=(AV.gref 1 v3 (Zae hs7) 6::Zdc (Fn.func 40) [] [Zcc 0 0]::bds 3 (Zaf (i64 i5)::Zaf (i64 j6)::bds 35 []))∧ [cell (i64 fr)]= [cell (i64 fr4),Blk.mk (flatA (rowsH hs7)) false true v3]∧(Zae hs7<1000000∧firstL fr4 hs7<Zae hs7∧i5=((firstL fr4 hs7:Nat):Int)∧j6=Zad .i64 (i5+1)∧out8=List.filter (keepH fr4) hs7)∧∀(cur:List HalfS) (j:Int),Zae cur=Zae hs7→List.take (Zae out8) cur=out8→v3=v3∧BIf (true&&decide (((Zae out8:Nat):Int)≤((Zae hs7:Nat):Int))) (BIf (true&&decide (((Zae out8:Nat):Int)≤((Zae hs7:Nat):Int))) (v3=v3∧RS (AV.gref 1 (v3+1) (Zbl ((Zae out8:Nat):Int)) 6) [cell (i64 fr4),Blk.mk (List.take (Zbl ((Zae out8:Nat):Int)*6) (List.take (Zbl ((Zae out8:Nat):Int)*6) (flatA (rowsH cur))++flatA (Zap (Zae hs7 - Zbl ((Zae out8:Nat):Int)) [i64 0,i64 0,i64 0,i64 0,bo false,i64 0]))) false true (v3+1)] b) False) False)):=by kernel_rfl
theorem scDel0 (fr:Int):SCall Tryd.prog 38 [.d (.sl 6 []), .fn (.func 40) [] [.ptr 0 0]] [boxI fr] (.d (.sl 6 [])) [boxI fr]:=by
 refine SCall.ofW Tryd.func38 del_body (by rfl) fun Ev b=> ?_
 refine wpc_sound (X:=⟨TDf,UDf,wlDf Ev.Y,Ev.Y,false⟩) (n:=100) mixed (del_X Ev) ?_ fun e tm hp b hK=>fnKS_sound hK
 refine Eq.mpr (del0_nf _ _ _ fr) ?_
 exact ⟨[],fr,_,rfl,⟨by simp,rfl⟩,Zcp rfl ⟨rfl,rfl⟩⟩
theorem scDel (v:Nat) (fr:Int) (hs:List HalfS) (hl:hs.length<1000000):
   SCall Tryd.prog 38 [.gref 1 v hs.length 6, .fn (.func 40) [] [.ptr 0 0]] [boxI fr,grB v (flatA (rowsH hs))] (.gref 1 (delV v fr hs) (hs.filter (keepH fr)).length 6) [boxI fr,grB (delV v fr hs) (flatA (rowsH (hs.filter (keepH fr))))]:=by
 refine SCall.ofW Tryd.func38 del_body (by rfl) fun Ev b=> ?_
 refine wpc_sound (X:=⟨TDf,UDf,wlDf Ev.Y,Ev.Y,false⟩) (n:=100) mixed (del_X Ev) ?_ fun e tm hp b hK=>fnKS_sound hK
 refine Eq.mpr (del_nf _ _ _ v hs.length fr _) ?_
 refine ⟨rfl,rowsH hs,rfl,rowsH_len hs,fun r hr=> ?_,hs,fr,_,rfl,⟨hl,rfl⟩,Zat (fun h1=> ?_) fun h1=> ?_⟩
 · simp only [rowsH,List.mem_map] at hr
   obtain ⟨x,_,rfl⟩:=hr;rfl
 · have hn:¬firstL fr hs<hs.length:=by
     intro h
     simp only [indexS,if_pos h,beq_iff_eq] at h1
     omega
   rw [delV,if_neg hn,first_all fr hs hn]
   exact ⟨rfl,rfl⟩
 · have hn:firstL fr hs<hs.length:=by
     apply Classical.byContradiction
     intro h
     simp [indexS,if_neg h] at h1
   have hle:(hs.filter (keepH fr)).length≤hs.length:=List.length_filter_le _ _
   refine ⟨v,fr,_,_,hs,_,rfl,rfl,rfl,⟨hl,hn,by rw [indexS,if_pos hn],rfl,rfl⟩,fun cur j hcl hct=>⟨rfl,Zcp (by simp;exact hle) (Zcp (by simp;exact hle) ⟨rfl, ?_⟩)⟩⟩
   rw [Zdb,delV,if_pos hn]
   refine ⟨rfl, ?_⟩
   have e:((flatA (rowsH cur)).take ((hs.filter (keepH fr)).length*6)).length=(hs.filter (keepH fr)).length*6:=by
     rw [List.length_take,hc_len,hcl];omega
   rw [List.take_append_of_le_length (by rw [e];exact Nat.le_refl _),List.take_take,Nat.min_self,hc_take,hct]
   rfl
def sDel (args:List AV) (hp:List Blk) (K:AV→List Blk→Prop):Prop:=match hp with
 | [b0]=>∃(fr:Int),args= [.d (.sl 6 []), .fn (.func 40) [] [.ptr 0 0]]∧b0=boxI fr∧K (.d (.sl 6 [])) [boxI fr]
 | [b0,b1]=>∃(v n:Nat) (fr:Int) (hs out:List HalfS),args= [.gref 1 v n 6, .fn (.func 40) [] [.ptr 0 0]]∧b0=boxI fr∧b1=grB v (flatA (rowsH hs))∧(n=hs.length∧hs.length<1000000∧out=hs.filter (keepH fr))∧
   ∀v',K (.gref 1 v' out.length 6) [boxI fr,grB v' (flatA (rowsH out))]
 |_=>False
theorem sDel_ok:∀args hp K,sDel args hp K→∃x hp',SCall Tryd.prog 38 args hp x hp'∧K x hp':=by
 intro args hp K h
 unfold sDel at h
 split at h
 · obtain ⟨fr,rfl,rfl,h⟩:=h
   exact ⟨_,_,scDel0 fr,h⟩
 · obtain ⟨v,_,fr,hs,_,rfl,rfl,rfl,⟨rfl,hl,rfl⟩,h⟩:=h
   exact ⟨_,_,scDel v fr hs hl,h _⟩
 · exact h.elim
theorem SCall.toSl {P:Program} {f k:Nat} {args:List AV} {hp hp':List Blk} {xs:List (List Dv)} (h:SCall P f args hp (.full k xs) hp'):SCall P f args hp (.d (.sl k xs)) hp':=by
 refine ⟨h.1,fun S X yv w m B hv vs hl hr=>CallsIn.mono (h.2 S X yv w m B hv vs hl hr) ?_⟩
 rintro e w' ⟨v,S',m',hv',he,h1,h2⟩
 have hrv:=h2.rv _ (List.mem_cons_self ..)
 refine ⟨v,S',m',hv',he,h1,(h2.sub (List.sublist_cons_self _ _)).cons ?_ rfl⟩
 cases hrv with|full h=>exact .d h
def sCl6 (args:List AV) (hp:List Blk) (K:AV→List Blk→Prop):Prop:=∃(hs:List HalfS),args= [.d (.sl 6 (rowsH hs))]∧hs.length<1000000∧BIf hs.isEmpty (K (.d (.sl 6 [])) hp) (K (.gref hp.length 0 hs.length 6) (hp++ [grB 0 (flatA (rowsH hs))]))
theorem sCl6_ok:∀args hp K,sCl6 args hp K→∃x hp',SCall Tryd.prog 39 args hp x hp'∧K x hp':=by
 rintro _ hp K ⟨hs,rfl,hl,hK⟩
 have h1:=(pcClone39 (rowsH hs) (by rw [rowsH_len];omega)).toS rfl hp
 cases hs with
 |nil=>exact ⟨_,_,SCall.toSl h1,by simpa [rowsH,shiftH,BIf] using hK⟩
 | cons a r=>
   refine ⟨_,_,h1, ?_⟩
   simpa [rowsH,shift,shiftH,shiftB,blkG,shifts_flatA,BIf,grB] using hK
def UEx:List (Nat×(List AV→List Blk→(AV→List Blk→Prop)→Prop)):= [(1000040,fun _ _ _=>False),(39,sCl6),(38,sDel)]
theorem UEx_ok:SCallsOk Tryd.prog UEx:=Zcq (fun _ _ _ h=>h.elim) (Zcq sCl6_ok (Zcq sDel_ok Zao))
theorem expire_nf (hs:List HalfS) (fr:Int):wpFn Tryd.prog ⟨[],UEx,wl,y,false⟩ 100 Tryd.f16 [.d (.sl 6 (rowsH hs)), .d (i64 fr)] b R=(∃(hs0:List HalfS), [Zaf (Zbc 6 (rowsH hs))]= [Zaf (Zbc 6 (rowsH hs0))]∧Zae hs0<1000000∧BIf (List.isEmpty hs0) (∃(fr1:Int), [Zaf (Zbc 6 []),Zdc (Fn.func 40) [] [Zcc 0 0]]= [Zaf (Zbc 6 []),Zdc (Fn.func 40) [] [Zcc 0 0]]∧cell (i64 fr)=cell (i64 fr1)∧R (.d (Zbc 6 [])) b) (∃(v2:Nat) (n3:Nat) (fr4:Int) (hs5:List HalfS) (out6:List HalfS), [AV.gref 1 0 (Zae hs0) 6,Zdc (Fn.func 40) [] [Zcc 0 0]]= [AV.gref 1 v2 n3 6,Zdc (Fn.func 40) [] [Zcc 0 0]]∧cell (i64 fr)=cell (i64 fr4)∧Blk.mk (flatA (rowsH hs0)) false true 0=Blk.mk (flatA (rowsH hs5)) false true v2∧(n3=Zae hs5∧Zae hs5<1000000∧out6=List.filter (keepH fr4) hs5)∧∀(v':Nat),v'=v'∧∃(xs7:List (List Dv)),flatA (rowsH out6)=flatA xs7∧Zae xs7=Zae out6∧(∀(r:List Dv),r∈xs7→Zae r=6)∧R (.d (Zbc 6 xs7)) b)):=by kernel_rfl
theorem rowsH_six (hs:List HalfS):∀r∈rowsH hs,r.length=6:=by
 intro r hr
 simp only [rowsH,List.mem_map] at hr
 obtain ⟨x,_,rfl⟩:=hr;rfl
def expireS (hs:List HalfS) (fr:Int):List HalfS:=hs.filter (keepH fr)
theorem pcExpire (hs:List HalfS) (fr:Int) (hl:hs.length<1000000):PCall Tryd.prog 16 [.d (.sl 6 (rowsH hs)), .d (i64 fr)] (.d (.sl 6 (rowsH (expireS hs fr)))):=by
 refine Zcd (n:=100) (u:=false) mixed Zas UEx_ok Tryd.func16 (by rfl) (by rfl) fun Ev bb=> ?_
 rw [expire_nf]
 refine ⟨hs,rfl,hl,Zat (fun h1=> ?_) fun h1=> ?_⟩
 · have h2:hs= []:=List.isEmpty_iff.1 h1
   subst h2
   exact ⟨fr,rfl,rfl,rfl⟩
 · refine ⟨0,_,fr,hs,_,rfl,rfl,rfl,⟨rfl,hl,rfl⟩,fun v'=>⟨rfl,rowsH (hs.filter (keepH fr)),rfl,rowsH_len _,rowsH_six _,rfl⟩⟩
def gath {γ:Type} (n:Nat) (step:Nat→List γ):List γ:=(Zay n).flatMap step
theorem gath_succ {γ:Type} (n:Nat) (step:Nat→List γ):gath (n+1) step=gath n step++step n:=by simp [gath,List.range_succ]
theorem gath_len {γ:Type} {step:Nat→List γ} (h:∀i,(step i).length≤1):∀n,(gath n step).length≤n
 |0=>Nat.le_refl _
 |n+1=>by have:=gath_len h n;have:=h n;rw [gath_succ,List.length_append];omega
theorem WR.gathK {P:Program} {Ev:Env P} {X:CX Ev.β} {lp:Code} {b:Ev.β} {Q:Exit→St Ev.β→Prop} {k:Nat} {γ:Type} (keep:List Nat) (hm:P.follows .mixedOrders=true) (hX:X.Ok) (n:Nat) (step:Nat→List γ) (hs:∀i,(step i).length≤1) (tmOf:List γ→Nat→List AV) (hp:List Blk) (id:Nat)
   (hr:∀(i:Nat) (acc:List γ),i<n→acc.length≤i→∀K:Exit→List AV→List Blk→Ev.β→Prop,K .normal (tmOf (acc++step i) (i+1)) hp b→wpc P X k lp (tmOf acc i) hp b (maskK hp.length keep K))
   (he:∀(acc:List γ) (K:Exit→List AV→List Blk→Ev.β→Prop),K (.exit id) (tmOf acc n) hp b→wpc P X k lp (tmOf acc n) hp b (maskK hp.length keep K))
   (hQ:Q (.exit id) ⟨tmOf (gath n step) n,hp,b⟩):WR Ev lp (n+1) ⟨tmOf [] 0,hp,b⟩ Q:=by
 have key:∀(m i:Nat),i+m=n→WR Ev lp (m+1) ⟨tmOf (gath i step) i,hp,b⟩ Q:=by
   intro m
   induction m with
   | zero=>
     intro i hi
     have:i=n:=by omega
     subst this
     exact Zcr keep hm hX (he _ _ hQ)
   | succ m ih=>
     intro i hi
     refine Zcr keep hm hX (hr i _ (by omega) (gath_len hs i) _ ?_)
     rw [←gath_succ]
     exact ih (i+1) (by omega)
 exact key n 0 (by omega)
def rowsW (ws:List WordS):List (List Dv):=ws.map wordR
noncomputable def lpTo:Code:=sub [1,1,1,0,1,2,3] (code Tryd.f41)
def tmTo (hs:List HalfS) (me kd:Int) (pr:Bool) (acc:AV) (n i:Int):List AV:= [.bad, .d (i64 me), .d (i64 kd), .d (bo pr), .bad, .bad, .bad, .bad, .bad,acc, .bad, .bad]++Zap 8 .bad++ [.d (.sl 6 (rowsH hs)), .d (i64 n), .d (i64 i)]++Zap 23 .bad
theorem rTo (hs:List HalfS) (ws:List (List Dv)) (me kd n i:Int) (pr:Bool):wpc Tryd.prog ⟨[], [],wl,y,false⟩ 100 lpTo (tmTo hs me kd pr (.own 26 8 ws) n i) [] b (maskK 0 [1,2,3,9,20,21,22] K)=(BIf (decide (i<n)) (BIf (true&&decide (0≤i)) (∃(x0:Int) (x1:Int) (x2:Int) (x3:Int) (b4:Bool) (x5:Int),(rowsH hs)[Zbl i]? =some (Qz19 x0 x1 x2 x3 b4 x5)∧BIf (b4==pr) (BIf (true&&decide ((Zae ws+1)*64≤140737488355328)) (K .normal (Zal::Zaf (i64 me)::Zaf (i64 kd)::Zaf (bo pr)::bds 5 (AV.own 26 8 (ws++ [[i64 kd,i64 x0,i64 me,i64 x1,i64 x2,i64 x5,i64 0,i64 0]])::bds 10 (Zaf (Zbc 6 (rowsH hs))::Zaf (i64 n)::Zaf (i64 (Zad .i64 (i+1)))::bds 23 []))) [] b) False) (K .normal (Zal::Zaf (i64 me)::Zaf (i64 kd)::Zaf (bo pr)::bds 5 (AV.own 26 8 ws::bds 10 (Zaf (Zbc 6 (rowsH hs))::Zaf (i64 n)::Zaf (i64 (Zad .i64 (i+1)))::bds 23 []))) [] b)) False) (K (Zea 0) (Zal::Zaf (i64 me)::Zaf (i64 kd)::Zaf (bo pr)::bds 5 (AV.own 26 8 ws::bds 10 (Zaf (Zbc 6 (rowsH hs))::Zaf (i64 n)::Zaf (i64 i)::bds 23 []))) [] b)):=by kernel_rfl
end Go.Proofs.YtlnenbbmhidjeaaDoor.Am
namespace Go.Proofs.YtlnenbbmhidjeaaDoor.Am
open Go Go.RowKit Go.Proofs Go.ChangeShapes Go.WideShapes Go.ChangeAt
open AV renaming agg → Zbb, bad → Zal, d → Zaf, fn → Zdc, ptr → Zcc, rptr → Zdo
open BIf renaming of → Zat, t → Zcp
open Bool renaming and_eq_true → Zag, false_eq_true → Zbq
open CallsOk renaming cons → Zam, nil → Zas
open Go.Code renaming loop → Zdi
open Dv renaming sl → Zbc
open Env renaming mapped → Zcj
open Go.Exit renaming exit → Zea
open Int renaming tmod → Zdn, toNat → Zbl, toNat_natCast → Zdb
open Go.IntKind renaming i64 → Zbj, u64 → Zch, wrap → Zad
open LeH renaming refl → Zdj
open List renaming length → Zae, range → Zay, replicate → Zap
open PCall renaming ofFn → Zcd
open Prod renaming fst → Zcx, snd → Zcy
open SCallsOk renaming cons → Zcq, nil → Zao
open Go.Value renaming map → Zbe
open WR renaming ofMask → Zcr
open AV (bad)
set_option linter.unusedVariables false
theorem Try_own:ownKnob Tryd.prog.godebug=none:=by kernel_rfl
theorem Try_laidOut:laidOutB Tryd.prog=true:=by kernel_rfl
def laid1:List (String×DataW Unit):= [("slotmesh/random.steps",Rows.laid_slotmesh_random_steps)]
theorem gn0:Tryd.prog.globalNamed "slotmesh/random.steps" =some 0:=by kernel_rfl
theorem flat_of {P:Program} {g n t:Nat} (h:(P.globals[g]?).map (·.type)=some t) (k:(((P.globals[g]?).map (·.type)).bind (flat P n)).isSome=true):∃tys,flat P n t=some tys:=by
 rw [h] at k;exact Option.isSome_iff_exists.1 k
theorem fl0:(((Tryd.prog.globals[0]?).map (·.type)).bind (flat Tryd.prog 9)).isSome=true:=by kernel_rfl
theorem glob_met {W:World} (h:laidMetH Tryd.prog laid1 W):Glob (AllOf W) W:=by
 rw [MakeChecks.laidMetH_plain _ _ _ (by kernel_rfl)] at h
 obtain ⟨ps,⟨g0,t0,cs0,f0,p0,q0,hg0,ht0,hv0,hd0,_⟩,_,_⟩:=h
 obtain rfl:=Option.some.inj (gn0.symm.trans hg0)
 have e0:=flat_of ht0 fl0
 obtain ⟨tys0,e0⟩:=e0
 have v0:=var_at gn0 hv0 hd0 e0 (k:=9) (vs:=laidTable 0) (by kernel_rfl)
 have one:∀g,g<1→∀v∈laidTable g,v.oneCell'=true:=by
   have:(Zay 1).all (fun g=>(laidTable g).all fun v=>v.oneCell')=true:=by kernel_rfl
   intro g hg v hv
   exact List.all_eq_true.1 (List.all_eq_true.1 this g (List.mem_range.2 hg)) v hv
 refine glob_of fun g hg j v hj=> ?_
 match g,hg with
 |0,_=>exact ⟨v0 j v hj,one 0 (by omega) v (List.mem_of_getElem? hj)⟩
 |n+1,hg=>exact absurd rfl hg
theorem door_met (os:Os) (args:Array Value):laidMetH Tryd.prog laid1 ((World.doorLaid Tryd.prog 400 os).forCall (fun _ _=>0) ⟨#[],args, []⟩).memory:=
 laidMetH_of_parts3 (fuel:=8) (laidMet_of_run' 8 (by kernel_rfl) (by kernel_rfl)) (by kernel_rfl) (by kernel_rfl)
def halfTys:List Ty:= [.int .i64, .int .i64, .int .i64, .int .i64, .bool, .int .i64]
theorem half_row {row:List Dv} (h:HasTys halfTys row):∃x:HalfS,row=halfR x:=by
 unfold halfTys at h
 obtain _|⟨h0,h⟩:=h
 obtain _|⟨h1,h⟩:=h
 obtain _|⟨h2,h⟩:=h
 obtain _|⟨h3,h⟩:=h
 obtain _|⟨h4,h⟩:=h
 obtain _|⟨h5,h⟩:=h
 cases h
 cases h0;cases h1;cases h2;cases h3;cases h4;cases h5
 exact ⟨⟨_,_,_,_,_,_⟩,rfl⟩
theorem halves_of {x:Dv} (h:HasTy (.sl halfTys) x):∃l:List HalfS,x= .sl 6 (rowsH l)∧l.length≤maxLen∧True:=by
 cases h with
 | sl _ xs hl h=>
   have key:∀(xs:List (List Dv)),(∀row∈xs,HasTys halfTys row)→∃l:List HalfS,xs=rowsH l:=by
     intro xs
     induction xs with
     |nil=>exact fun _=>⟨[],rfl⟩
     | cons row xs ih=>
       intro h
       obtain ⟨p,rfl⟩:=ih fun r hr=>h r (List.mem_cons_of_mem _ hr)
       obtain ⟨x,rfl⟩:=half_row (h row (List.mem_cons_self ..))
       exact ⟨x::p,rfl⟩
   obtain ⟨p,rfl⟩:=key xs h
   exact ⟨p,rfl,by simpa [rowsH] using hl,trivial⟩
theorem flatHs:flat Tryd.prog 20 22=some [.sl halfTys]:=by kernel_rfl
end Go.Proofs.YtlnenbbmhidjeaaDoor.Am
namespace Go.Proofs.YtlnenbbmhidjeaaDoor.Am
open Go Go.RowKit Go.Proofs
open AV renaming agg → Zbb, bad → Zal, d → Zaf, fn → Zdc, ptr → Zcc, rptr → Zdo
open BIf renaming of → Zat, t → Zcp
open Bool renaming and_eq_true → Zag, false_eq_true → Zbq
open CallsOk renaming cons → Zam, nil → Zas
open Go.Code renaming loop → Zdi
open Dv renaming sl → Zbc
open Env renaming mapped → Zcj
open Go.Exit renaming exit → Zea
open Int renaming tmod → Zdn, toNat → Zbl, toNat_natCast → Zdb
open Go.IntKind renaming i64 → Zbj, u64 → Zch, wrap → Zad
open LeH renaming refl → Zdj
open List renaming length → Zae, range → Zay, replicate → Zap
open PCall renaming ofFn → Zcd
open Prod renaming fst → Zcx, snd → Zcy
open SCallsOk renaming cons → Zcq, nil → Zao
open Go.Value renaming map → Zbe
open WR renaming ofMask → Zcr
variable {β:Type} (wl:WLT β) (y:YieldT β) (b:β) (R:AV→β→Prop) (RS:AV→List Blk→β→Prop) (K:Exit→List AV→List Blk→β→Prop) (Q:β→Prop)
open AV (bad)
set_option linter.unusedVariables false
set_option maxRecDepth 20000
set_option maxHeartbeats 1000000
theorem gath_nthH {γ:Type} (f:HalfS→List γ):∀(hs:List HalfS),gath hs.length (fun i=>f (nthH hs i))=hs.flatMap f:=by
 intro hs
 have key:∀k,k≤hs.length→gath k (fun i=>f (nthH hs i))=(hs.take k).flatMap f:=by
   intro k
   induction k with
   |zero=>intro _;simp [gath]
   | succ k ih=>
     intro hk
     rw [gath_succ,ih (by omega),List.take_succ_eq_append_getElem (by omega),List.flatMap_append]
     simp [nthH,show k<hs.length by omega]
 rw [key _ (Nat.le_refl _),List.take_length]
def wordOf (me kd:Int) (h:HalfS):WordS:=⟨kd,h.st,me,h.no,h.ch,h.ke,0,0⟩
def stepTo (me kd:Int) (pr:Bool) (h:HalfS):List WordS:=if (h.pr==pr)=true then [wordOf me kd h] else []
def toldW (hs:List HalfS) (me kd:Int) (pr:Bool):List WordS:=hs.flatMap (stepTo me kd pr)
theorem rowsW_app (a b:List WordS):rowsW (a++b)=rowsW a++rowsW b:=by simp [rowsW]
theorem rowsW_len (a:List WordS):(rowsW a).length=a.length:=by simp [rowsW]
theorem stepTo_len (me kd:Int) (pr:Bool) (h:HalfS):(stepTo me kd pr h).length≤1:=by unfold stepTo;split<;>simp
theorem wrTo {Ev:Env Tryd.prog} {b:Ev.β} {Q:Exit→St Ev.β→Prop} (hs:List HalfS) (me kd:Int) (pr:Bool) (hl:hs.length<1000000) (hQ:∀i:Int,Q (.exit 0) ⟨tmTo hs me kd pr (.own 26 8 (rowsW (toldW hs me kd pr))) hs.length i, [],b⟩):
   WR Ev lpTo (hs.length+1) ⟨tmTo hs me kd pr (.own 26 8 (rowsW [])) hs.length (0:Nat), [],b⟩ Q:=by
 refine WR.gathK (X:=⟨[], [],wlW Ev,Ev.Y,false⟩) (k:=100) [1,2,3,9,20,21,22] mixed (CX.Ok.of Zas Zao) hs.length (fun i=>stepTo me kd pr (nthH hs i)) (fun i=>stepTo_len me kd pr _) (fun acc i=>tmTo hs me kd pr (.own 26 8 (rowsW acc)) hs.length (i:Nat)) [] 0 (fun i acc hi ha K k1=> ?_) (fun acc K k1=> ?_) ?_
 · refine Eq.mpr (rTo _ _ _ K hs _ me kd hs.length i pr) ?_
   rw [Zdb,rowsH_at hi]
   refine Zcp (by simp;omega) (Zcp (by simp) ⟨_,_,_,_,_,_,rfl,Zat (fun h1=> ?_) fun h1=> ?_⟩)
   · refine Zcp (by simp [rowsW];omega) ?_
     rw [stepTo,if_pos h1,rowsW_app] at k1
     rw [wrapN (by omega)]
     exact k1
   · rw [stepTo,if_neg (by rw [h1];decide),List.append_nil] at k1
     rw [wrapN (by omega)]
     exact k1
 · refine Eq.mpr (rTo _ _ _ K hs _ me kd hs.length _ pr) ?_
   exact BIf.f (by simp) k1
 · rw [gath_nthH];exact hQ _
def wlTo {β:Type}:WLT β:=fun c tm hp b K=>∃(hs:List HalfS) (q:List WordS) (me kd:Int) (pr:Bool),c= .loop lpTo∧maskTm [1,2,3,9,20,21,22] 0 tm=tmTo hs me kd pr nilA (rowsH hs).length 0∧hp= []∧(hs.length<1000000∧q=toldW hs me kd pr)∧
 ∀i:Int,K (.exit 0) (tmTo hs me kd pr (.own 26 8 (rowsW q)) hs.length i) [] b
theorem wlTo_ok {Ev:Env Tryd.prog} (c:Code) (tm:List AV) (hp:List Blk) (b:Ev.β) (K:Exit→List AV→List Blk→Ev.β→Prop) (h:wlTo c tm hp b K):W Ev c ⟨tm,hp,b⟩ (fun e s=>K e s.tm s.hp s.b):=by
 obtain ⟨hs,_,me,kd,pr,rfl,htm,rfl,⟨hl,rfl⟩,hK⟩:=h
 rw [rowsH_len] at htm
 refine W.cast (htm▸maskTm_le _ tm 0) (Zdj _) ?_
 refine W.cast (tm':=tmTo hs me kd pr (.own 26 8 (rowsW [])) hs.length 0) (LeL.at [_,_,_,_,_,_,_,_,_] _ (LeA.nilOwn rfl)) (Zdj _) ?_
 exact W.rounds (wrTo (Q:=fun e s=>K e s.tm s.hp s.b) hs me kd pr hl hK)
def TTo:List (Nat×(List AV→(AV→Prop)→Prop)):= [(13,cValid),(54,cNode)]
theorem TTo_ok:CallsOk Tryd.prog TTo:=Zam cValid_ok (Zam cNode_ok Zas)
abbrev Qz28 (v0:Int) (v1:Int) (v2:Bool) (v3:List HalfS):=Zal::Zaf (i64 v0)::Zaf (i64 v1)::Zaf (bo v2)::bds 5 (Zaf (Dv.s (.slice none 0 0))::bds 10 (Zaf (Zbc 6 (rowsH v3))::Zaf (i64 ((Zae (rowsH v3):Nat):Int))::Zaf (i64 0)::bds 23 []))
theorem told_nf (hs:List HalfS) (me kd:Int) (pr:Bool):wpFn Tryd.prog ⟨TTo, [],wlTo,y,false⟩ 100 Tryd.f41 [.d (.sl 6 (rowsH hs)), .d (i64 me), .d (i64 kd), .d (bo pr)] b R=(∃(hs0:List HalfS) (z1:Bool), [Zaf (Zbc 6 (rowsH hs))]= [Zaf (Zbc 6 (rowsH hs0))]∧(Zae hs0≤9223372036854775807∧z1=validH hs0)∧BIf (!z1) (R (.d (Dv.s (.slice none 0 0))) b) (∃(n2:Int), [Zaf (i64 me)]= [Zaf (i64 n2)]∧BIf (!nodeN n2) (R (.d (Dv.s (.slice none 0 0))) b) (∃(hs3:List HalfS) (q4:List WordS) (me5:Int) (kd6:Int) (pr7:Bool),Zdi lpTo=Zdi lpTo∧(Qz28 me kd pr hs)=(Qz28 me5 kd6 pr7 hs3)∧([]:List Blk)= []∧(Zae hs3<1000000∧q4=toldW hs3 me5 kd6 pr7)∧∀(i:Int),R (.d (Zbc 8 (rowsW q4))) b))):=by kernel_rfl
def toldS (hs:List HalfS) (me kd:Int) (pr:Bool):List WordS:=if (!validH hs)=true then [] else if (!nodeN me)=true then [] else toldW hs me kd pr
theorem pcTold (hs:List HalfS) (me kd:Int) (pr:Bool) (hl:hs.length<1000000):PCall Tryd.prog 41 [.d (.sl 6 (rowsH hs)), .d (i64 me), .d (i64 kd), .d (bo pr)] (.d (.sl 8 (rowsW (toldS hs me kd pr)))):=by
 refine PCall.ofFnL (n:=100) (u:=false) (fun _=>wlTo) mixed TTo_ok Zao (fun Ev=>wlTo_ok) Tryd.func41 (by rfl) (by rfl) fun Ev bb=> ?_
 rw [told_nf]
 refine ⟨hs,_,rfl,⟨by omega,rfl⟩,Zat (fun h1=> ?_) fun h1=>⟨me,rfl,Zat (fun h2=> ?_) fun h2=>⟨hs,_,me,kd,pr,rfl,rfl,rfl,⟨hl,rfl⟩,fun i=> ?_⟩⟩⟩
 · rw [toldS,if_pos h1];exact .base (LeA.nilSl rfl)
 · rw [toldS,if_neg (by rw [h1];decide),if_pos h2];exact .base (LeA.nilSl rfl)
 · rw [toldS,if_neg (by rw [h1];decide),if_neg (by rw [h2];decide)];exact .base LeA.rfl
def cTold (args:List AV) (K:AV→Prop):Prop:=∃(hs:List HalfS) (q:List WordS) (me kd:Int) (pr:Bool),args= [.d (.sl 6 (rowsH hs)), .d (i64 me), .d (i64 kd), .d (bo pr)]∧(hs.length<1000000∧q=toldS hs me kd pr)∧K (.d (.sl 8 (rowsW q)))
theorem cTold_ok:∀args K,cTold args K→∃x,PCall Tryd.prog 41 args x∧K x:=by
 rintro _ K ⟨hs,_,me,kd,pr,rfl,⟨hl,rfl⟩,hk⟩;exact ⟨_,pcTold hs me kd pr hl,hk⟩
def TWd:List (Nat×(List AV→(AV→Prop)→Prop)):= [(41,cTold)]
theorem TWd_ok:CallsOk Tryd.prog TWd:=Zam cTold_ok Zas
theorem words_nf (hs:List HalfS) (me:Int):wpFn Tryd.prog ⟨TWd, [],wl,y,false⟩ 100 Tryd.f19 [.d (.sl 6 (rowsH hs)), .d (i64 me)] b R=(∃(hs0:List HalfS) (q1:List WordS) (me2:Int) (kd3:Int) (pr4:Bool), [Zaf (Zbc 6 (rowsH hs)),Zaf (i64 me),Zaf (i64 2),Zaf (bo false)]= [Zaf (Zbc 6 (rowsH hs0)),Zaf (i64 me2),Zaf (i64 kd3),Zaf (bo pr4)]∧(Zae hs0<1000000∧q1=toldS hs0 me2 kd3 pr4)∧R (.d (Zbc 8 (rowsW q1))) b):=by kernel_rfl
theorem proofs_nf (hs:List HalfS) (me:Int):wpFn Tryd.prog ⟨TWd, [],wl,y,false⟩ 100 Tryd.f21 [.d (.sl 6 (rowsH hs)), .d (i64 me)] b R=(∃(hs0:List HalfS) (q1:List WordS) (me2:Int) (kd3:Int) (pr4:Bool), [Zaf (Zbc 6 (rowsH hs)),Zaf (i64 me),Zaf (i64 3),Zaf (bo true)]= [Zaf (Zbc 6 (rowsH hs0)),Zaf (i64 me2),Zaf (i64 kd3),Zaf (bo pr4)]∧(Zae hs0<1000000∧q1=toldS hs0 me2 kd3 pr4)∧R (.d (Zbc 8 (rowsW q1))) b):=by kernel_rfl
theorem pcWords (hs:List HalfS) (me:Int) (hl:hs.length<1000000):PCall Tryd.prog 19 [.d (.sl 6 (rowsH hs)), .d (i64 me)] (.d (.sl 8 (rowsW (toldS hs me 2 false)))):=by
 refine Zcd (n:=100) (u:=false) mixed TWd_ok Zao Tryd.func19 (by rfl) (by rfl) fun Ev bb=> ?_
 rw [words_nf]
 exact ⟨hs,_,me,2,false,rfl,⟨hl,rfl⟩,rfl⟩
theorem pcProofs (hs:List HalfS) (me:Int) (hl:hs.length<1000000):PCall Tryd.prog 21 [.d (.sl 6 (rowsH hs)), .d (i64 me)] (.d (.sl 8 (rowsW (toldS hs me 3 true)))):=by
 refine Zcd (n:=100) (u:=false) mixed TWd_ok Zao Tryd.func21 (by rfl) (by rfl) fun Ev bb=> ?_
 rw [proofs_nf]
 exact ⟨hs,_,me,3,true,rfl,⟨hl,rfl⟩,rfl⟩
def cWords (args:List AV) (K:AV→Prop):Prop:=∃(hs:List HalfS) (q:List WordS) (me:Int),args= [.d (.sl 6 (rowsH hs)), .d (i64 me)]∧(hs.length<1000000∧q=toldS hs me 2 false)∧K (.d (.sl 8 (rowsW q)))
theorem cWords_ok:∀args K,cWords args K→∃x,PCall Tryd.prog 19 args x∧K x:=by
 rintro _ K ⟨hs,_,me,rfl,⟨hl,rfl⟩,hk⟩;exact ⟨_,pcWords hs me hl,hk⟩
def cProofs (args:List AV) (K:AV→Prop):Prop:=∃(hs:List HalfS) (q:List WordS) (me:Int),args= [.d (.sl 6 (rowsH hs)), .d (i64 me)]∧(hs.length<1000000∧q=toldS hs me 3 true)∧K (.d (.sl 8 (rowsW q)))
theorem cProofs_ok:∀args K,cProofs args K→∃x,PCall Tryd.prog 21 args x∧K x:=by
 rintro _ K ⟨hs,_,me,rfl,⟨hl,rfl⟩,hk⟩;exact ⟨_,pcProofs hs me hl,hk⟩
theorem formedH_nf (h:HalfS):wpFn Tryd.prog ⟨[], [],wl,y,false⟩ 100 Tryd.f37 [halfA h] b R=(BIf (decide (HalfS.st h<(0:Int))) (R (.d (bo false)) b) (BIf (decide (HalfS.st h>(59:Int))) (R (.d (bo false)) b) (BIf (decide (HalfS.no h<(0:Int))) (R (.d (bo false)) b) (BIf (decide (HalfS.no h>(1000000000:Int))) (R (.d (bo false)) b) (BIf (decide (HalfS.ch h<(0:Int))) (R (.d (bo false)) b) (BIf (decide (HalfS.ch h>(1000000000:Int))) (R (.d (bo false)) b) (BIf (decide (HalfS.un h≥(0:Int))) (BIf (decide (HalfS.un h≤(1000000000:Int))) (BIf (decide (HalfS.ke h≥(0:Int))) (BIf (decide (HalfS.ke h≤(2000000:Int))) (BIf (HalfS.ke h==(0:Int)) (R (.d (bo true)) b) (R (.d (bo (HalfS.pr h))) b)) (R (.d (bo false)) b)) (R (.d (bo false)) b)) (R (.d (bo false)) b)) (R (.d (bo false)) b)))))))):=by kernel_rfl
theorem pcFormedH (h:HalfS):PCall Tryd.prog 37 [halfA h] (.d (bo (halfOk h))):=by
 refine Zcd (n:=100) (u:=false) mixed Zas Zao Tryd.func37 (by rfl) (by rfl) fun Ev bb=> ?_
 rw [formedH_nf]
 have key:∀z:Bool,(z=halfOk h)→Zaf (bo z)=Zaf (bo (halfOk h)):=by rintro _ rfl;rfl
 refine Zat (fun h1=>key _ ?_) fun h1=>Zat (fun h2=>key _ ?_) fun h2=>Zat (fun h3=>key _ ?_) fun h3=>Zat (fun h4=>key _ ?_) fun h4=>Zat (fun h5=>key _ ?_) fun h5=>Zat (fun h6=>key _ ?_) fun h6=>Zat (fun h7=>Zat (fun h8=>Zat (fun h9=>Zat (fun h10=>Zat (fun h11=>key _ ?_) fun h11=>key _ ?_) fun h10=>key _ ?_) fun h9=>key _ ?_) fun h8=>key _ ?_) fun h7=>key _ ?_
 all_goals
   simp only [decide_eq_true_eq,decide_eq_false_iff_not,beq_iff_eq,beq_eq_false_iff_ne] at*
   rw [Bool.eq_iff_iff]
   simp only [halfOk,nodeN,inN,Zag,Bool.or_eq_true,decide_eq_true_eq,beq_iff_eq,Zbq,false_iff,true_iff,iff_true]
   cases h.pr<;>simp only [Zbq,false_or,true_or,and_true,false_iff,true_iff]<;>omega
def cFormedH (args:List AV) (K:AV→Prop):Prop:=∃(h:HalfS) (z:Bool),args= [halfA h]∧z=halfOk h∧K (.d (bo z))
theorem cFormedH_ok:∀args K,cFormedH args K→∃x,PCall Tryd.prog 37 args x∧K x:=by
 rintro _ K ⟨h,_,rfl,rfl,hk⟩;exact ⟨_,pcFormedH h,hk⟩
noncomputable def lpVr:Code:=sub [1,0,1,2,3] (code Tryd.f14)
def tmVr (hs:List HalfS) (z:Bool) (i:Int):List AV:= [.d (.sl 6 (rowsH hs)), .bad, .d (bo z), .d (i64 i)]++Zap 35 .bad
def TVr:List (Nat×(List AV→(AV→Prop)→Prop)):= [(37,cFormedH)]
theorem TVr_ok:CallsOk Tryd.prog TVr:=Zam cFormedH_ok Zas
noncomputable def lpOf:Code:=sub [1,0,1,2,3] (code Tryd.f23)
def tmOf (hs:List HalfS) (k:Int) (z:Bool) (i:Int):List AV:= [.d (.sl 6 (rowsH hs)), .d (i64 k), .bad, .bad, .ptr 0 0, .d (bo z), .d (i64 i)]++Zap 18 .bad
def halfB (h:HalfS):Blk:=⟨[.d (i64 h.st), .d (i64 h.no), .d (i64 h.ch), .d (i64 h.un), .d (bo h.pr), .d (i64 h.ke)],false,false,0⟩
abbrev Qz30 (v0:List HalfS) (v1:Int):=Zaf (Zbc 6 (rowsH v0))::Zal::Zaf (bo false)::Zaf (i64 v1)::bds 35 []
theorem rVr (hs:List HalfS) (i:Int):wpc Tryd.prog ⟨TVr, [],wl,y,false⟩ 100 lpVr (tmVr hs false i) [] b (maskK 0 [0,2,3] K)=(BIf (decide (i<((Zae (rowsH hs):Nat):Int))) (BIf (true&&decide (0≤i)) (∃(x0:Int) (x1:Int) (x2:Int) (x3:Int) (b4:Bool) (x5:Int),(rowsH hs)[Zbl i]? =some (Qz19 x0 x1 x2 x3 b4 x5)∧∃(h8:HalfS) (z9:Bool), [Zbb (Qz14 x0 x1 x2 x3 b4 x5)]= [Zbb (Qz4 h8)]∧z9=halfOk h8∧BIf (!z9) (K .ret (Qz30 hs i) [] b) (BIf (decide (i>(0:Int))) (BIf (true&&decide ((0:Int)≤Zad .i64 (i - 1))) (∃(x10:Int) (x11:Int) (x12:Int) (x13:Int) (b14:Bool) (x15:Int),(rowsH hs)[Zbl (Zad .i64 (i - 1))]? =some (Qz19 x10 x11 x12 x13 b14 x15)∧BIf (true&&decide (0≤i)) (∃(x18:Int) (x19:Int) (x20:Int) (x21:Int) (b22:Bool) (x23:Int),(rowsH hs)[Zbl i]? =some (Qz19 x18 x19 x20 x21 b22 x23)∧BIf (decide (x10≥x18)) (K .ret (Qz30 hs i) [] b) (K .normal (Zaf (Zbc 6 (rowsH hs))::Zal::Zaf (bo false)::Zaf (i64 (Zad .i64 (i+1)))::bds 35 []) [] b)) False) False) (K .normal (Zaf (Zbc 6 (rowsH hs))::Zal::Zaf (bo false)::Zaf (i64 (Zad .i64 (i+1)))::bds 35 []) [] b))) False) (K (Zea 0) (Qz30 hs i) [] b)):=by kernel_rfl
abbrev Qz15:List AV:= [Zaf (i64 0),Zaf (i64 0),Zaf (i64 0),Zaf (i64 0),Zaf (bo false),Zaf (i64 0)]
theorem rOf (hs:List HalfS) (k i:Int):wpc Tryd.prog ⟨[], [],wl,y,false⟩ 100 lpOf (tmOf hs k false i) [halfB zeroH] b (maskK 1 [0,1,4,5,6] K)=(BIf (decide (i<((Zae (rowsH hs):Nat):Int))) (BIf (true&&decide (0≤i)) (∃(x0:Int) (x1:Int) (x2:Int) (x3:Int) (b4:Bool) (x5:Int),(rowsH hs)[Zbl i]? =some (Qz19 x0 x1 x2 x3 b4 x5)∧BIf (x0==k) (BIf (true&&decide (0≤i)) (∃(x8:Int) (x9:Int) (x10:Int) (x11:Int) (b12:Bool) (x13:Int),(rowsH hs)[Zbl i]? =some (Qz19 x8 x9 x10 x11 b12 x13)∧K .ret (Zaf (Zbc 6 (rowsH hs))::Zaf (i64 k)::Zal::Zal::Zcc 0 0::Zaf (bo true)::Zaf (i64 i)::bds 18 []) [Blk.mk (Qz14 x8 x9 x10 x11 b12 x13) false false 0] b) False) (K .normal (Zaf (Zbc 6 (rowsH hs))::Zaf (i64 k)::Zal::Zal::Zcc 0 0::Zaf (bo false)::Zaf (i64 (Zad .i64 (i+1)))::bds 18 []) [Blk.mk Qz15 false false 0] b)) False) (K (Zea 0) (Zaf (Zbc 6 (rowsH hs))::Zaf (i64 k)::Zal::Zal::Zcc 0 0::Zaf (bo false)::Zaf (i64 i)::bds 18 []) [Blk.mk Qz15 false false 0] b)):=by kernel_rfl
theorem wrVr {Ev:Env Tryd.prog} {b:Ev.β} {Q:Exit→St Ev.β→Prop} (hs:List HalfS) (hl:hs.length≤9223372036854775807) (h1:(Zay hs.length).any (badAt hs)=false→∀i:Int,Q (.exit 0) ⟨tmVr hs false i, [],b⟩)
   (h2:(Zay hs.length).any (badAt hs)=true→∀i:Int,Q .ret ⟨tmVr hs false i, [],b⟩):WR Ev lpVr (hs.length+1) ⟨tmVr hs false (0:Nat), [],b⟩ Q:=by
 refine WR.scanK (X:=⟨TVr, [],wlW Ev,Ev.Y,false⟩) (k:=100) [0,2,3] mixed (CX.Ok.of TVr_ok Zao) hs.length (badAt hs) (fun i=>tmVr hs false (i:Nat)) (fun i=>tmVr hs false (i:Nat)) [] 0 (fun i hi K k1 k2=> ?_) (fun K k1=> ?_) (fun h=>h1 h _) fun h i=>h2 h i
 · refine Eq.mpr (rVr _ _ _ K hs i) ?_
   rw [rowsH_len,Zdb,rowsH_at hi]
   refine Zcp (by simp<;>omega) (Zcp (by simp) ⟨_,_,_,_,_,_,rfl,nthH hs i,_,rfl,rfl, ?_⟩)
   refine Zat (fun g=>k1 (by rw [badAt,g];rfl)) fun g=>Zat (fun g2=> ?_) fun g2=> ?_
   · have h0:0<i:=by have:=of_decide_eq_true g2;omega
     rw [wrapP (by omega) h0,rowsH_at (by omega:i - 1<hs.length)]
     refine Zcp (by simp [wrapQ (by omega:i<9223372036854775807) h0]) ⟨_,_,_,_,_,_,rfl,Zcp (by simp) ⟨_,_,_,_,_,_,rfl,Zat (fun g3=>k1 (by rw [badAt,g,g2];exact g3)) fun g3=> ?_⟩⟩
     rw [wrapN (by omega)]
     exact k2 (by rw [badAt,g,g2];exact g3)
   · rw [wrapN (by omega)]
     exact k2 (by rw [badAt,g,g2];rfl)
 · refine Eq.mpr (rVr _ _ _ K hs _) ?_
   rw [rowsH_len]
   exact BIf.f (by simp) k1
def wlVr {β:Type}:WLT β:=fun t tm hp b K=>∃(hs:List HalfS) (z:Bool),t= .loop lpVr∧maskTm [0,2,3] 0 tm=tmVr hs false 0∧hp= []∧(hs.length≤9223372036854775807∧z=(Zay hs.length).any (badAt hs))∧
 BIf z (∀i:Int,K .ret (tmVr hs false i) [] b) (∀i:Int,K (.exit 0) (tmVr hs false i) [] b)
theorem wlVr_ok {Ev:Env Tryd.prog} (c:Code) (tm:List AV) (hp:List Blk) (b:Ev.β) (K:Exit→List AV→List Blk→Ev.β→Prop) (h:wlVr c tm hp b K):W Ev c ⟨tm,hp,b⟩ (fun e s=>K e s.tm s.hp s.b):=by
 obtain ⟨hs,z,rfl,htm,rfl,⟨hl,hz⟩,hK⟩:=h
 refine W.cast (htm▸maskTm_le _ tm 0) (Zdj _) ?_
 exact W.rounds (wrVr (Q:=fun e s=>K e s.tm s.hp s.b) hs hl (fun h=>by rw [hz,h] at hK;exact hK) fun h=>by rw [hz,h] at hK;exact hK)
theorem validR_nf (hs:List HalfS):wpFn Tryd.prog ⟨TVr, [],wlVr,y,false⟩ 100 Tryd.f14 [.d (.sl 6 (rowsH hs))] b R=(∃(hs0:List HalfS) (z1:Bool),Zdi lpVr=Zdi lpVr∧(Zaf (Zbc 6 (rowsH hs))::Zal::Zaf (bo false)::Zaf (i64 0)::bds 35 [])=(Zaf (Zbc 6 (rowsH hs0))::Zal::Zaf (bo false)::Zaf (i64 0)::bds 35 [])∧([]:List Blk)= []∧(Zae hs0≤9223372036854775807∧z1=List.any (Zay (Zae hs0)) (badAt hs0))∧BIf z1 (∀(i:Int),R (.d (bo false)) b) (∀(i:Int),R (.d (bo (decide (((Zae (rowsH hs0):Nat):Int)≤(4:Int))))) b)):=by kernel_rfl
theorem pcValidR (hs:List HalfS) (hl:hs.length≤9223372036854775807):PCall Tryd.prog 14 [.d (.sl 6 (rowsH hs))] (.d (bo (validH hs))):=by
 refine PCall.ofFnW (n:=100) (u:=false) (fun _=>wlVr) mixed TVr_ok Zao (fun Ev=>wlVr_ok) Tryd.func14 (by rfl) (by rfl) fun Ev bb=> ?_
 rw [validR_nf]
 refine ⟨hs,_,rfl,rfl,rfl,⟨hl,rfl⟩,Zat (fun h i=> ?_) fun h i=> ?_⟩
 · rw [validH,h];rfl
 · rw [validH,h,rowsH_len,show decide ((hs.length:Int)≤4)=decide (hs.length≤4) from decide_eq_decide.2 (by omega)];rfl
def cValidR (args:List AV) (K:AV→Prop):Prop:=∃(hs:List HalfS) (z:Bool),args= [.d (.sl 6 (rowsH hs))]∧(hs.length≤9223372036854775807∧z=validH hs)∧K (.d (bo z))
theorem cValidR_ok:∀args K,cValidR args K→∃x,PCall Tryd.prog 14 args x∧K x:=by
 rintro _ K ⟨hs,_,rfl,⟨hl,rfl⟩,h⟩;exact ⟨_,pcValidR hs hl,h⟩
theorem getH_not {k:Int} {hs:List HalfS} (h:hasH k hs=false):getH k hs=zeroH:=by
 have:hs.find? (fun h=>h.st==k)=none:=by
   rw [List.find?_eq_none]
   intro x hx
   simp only [hasH,List.any_eq_false] at h
   exact h x hx
 rw [getH,this];rfl
theorem getH_cons (k:Int) (h:HalfS) (r:List HalfS):getH k (h::r)=if (h.st==k)=true then h else getH k r:=by
 simp only [getH,List.find?_cons]
 cases h.st==k<;>rfl
theorem hasH_cons (k:Int) (h:HalfS) (r:List HalfS):hasH k (h::r)=(h.st==k||hasH k r):=rfl
theorem wrOf {Ev:Env Tryd.prog} {b:Ev.β} {Q:Exit→St Ev.β→Prop} (hs:List HalfS) (k:Int) (hl:hs.length≤9223372036854775807) (hQ1:hasH k hs=false→∀i:Int,Q (.exit 0) ⟨tmOf hs k false i, [halfB zeroH],b⟩)
   (hQ2:hasH k hs=true→∀i:Int,Q .ret ⟨tmOf hs k true i, [halfB (getH k hs)],b⟩):∀(rest:List HalfS) (i:Nat),hs.drop i=rest→i≤hs.length→getH k hs=getH k rest→hasH k hs=hasH k rest→
   WR Ev lpOf (rest.length+1) ⟨tmOf hs k false i, [halfB zeroH],b⟩ Q
 | [],i,hd,hi,hg,hh=>by
   refine Zcr [0,1,4,5,6] mixed (CX.Ok.of (u:=false) Zas Zao) (k:=100) ?_
   refine Eq.mpr (rOf _ _ _ _ hs k i) ?_
   have:=List.drop_eq_nil_iff.1 hd
   rw [rowsH_len]
   exact BIf.f (by simp;omega) (hQ1 hh _)
 | h::rest,i,hd,hi,hg,hh=>by
   refine Zcr [0,1,4,5,6] mixed (CX.Ok.of (u:=false) Zas Zao) (k:=100) ?_
   refine Eq.mpr (rOf _ _ _ _ hs k i) ?_
   obtain ⟨hi',hh',hd'⟩:=nthH_drop hd
   rw [rowsH_len,Zdb,rowsH_at hi']
   rw [getH_cons] at hg
   rw [hasH_cons] at hh
   rw [←hh'] at hg hh
   refine Zcp (by simp;omega) (Zcp (by simp) ⟨_,_,_,_,_,_,rfl,Zat (fun h1=>Zcp (by simp) ⟨_,_,_,_,_,_,rfl, ?_⟩) fun h1=> ?_⟩)
   · rw [if_pos h1] at hg
     rw [h1] at hh
     have:=hQ2 hh i
     rw [hg] at this
     exact this
   · rw [if_neg (by rw [h1];decide)] at hg
     rw [h1] at hh
     rw [wrapN (by omega)]
     exact wrOf hs k hl hQ1 hQ2 rest (i+1) hd' hi' hg hh
def wlOf {β:Type}:WLT β:=fun t tm hp b K=>∃(hs:List HalfS) (k:Int) (z:Bool) (h:HalfS),t= .loop lpOf∧maskTm [0,1,4,5,6] 0 tm=tmOf hs k false 0∧hp= [halfB zeroH]∧(hs.length≤9223372036854775807∧z=hasH k hs∧h=getH k hs)∧
 BIf z (∀i:Int,K .ret (tmOf hs k true i) [halfB h] b) (∀i:Int,K (.exit 0) (tmOf hs k false i) [halfB zeroH] b)
theorem wlOf_ok {Ev:Env Tryd.prog} (c:Code) (tm:List AV) (hp:List Blk) (b:Ev.β) (K:Exit→List AV→List Blk→Ev.β→Prop) (h:wlOf c tm hp b K):W Ev c ⟨tm,hp,b⟩ (fun e s=>K e s.tm s.hp s.b):=by
 obtain ⟨hs,k,z,h,rfl,htm,rfl,⟨hl,hz,rfl⟩,hK⟩:=h
 refine W.cast (htm▸maskTm_le _ tm 0) (Zdj _) ?_
 exact W.rounds (wrOf (Q:=fun e s=>K e s.tm s.hp s.b) hs k hl (fun h=>by rw [hz,h] at hK;exact hK) (fun h=>by rw [hz,h] at hK;exact hK) hs 0 rfl (Nat.zero_le _) rfl rfl)
abbrev Qz34 (v0:List HalfS) (v1:Int):=Zaf (Zbc 6 (rowsH v0))::Zaf (i64 v1)::Zal::Zal::Zcc 0 0::Zaf (bo false)::Zaf (i64 0)::bds 18 []
theorem of_nf (hs:List HalfS) (k:Int):wpFn Tryd.prog ⟨[], [],wlOf,y,false⟩ 100 Tryd.f23 [.d (.sl 6 (rowsH hs)), .d (i64 k)] b R=(∃(hs0:List HalfS) (k1:Int) (z2:Bool) (h3:HalfS),Zdi lpOf=Zdi lpOf∧(Qz34 hs k)=(Qz34 hs0 k1)∧ [Blk.mk Qz15 false false 0]= [Blk.mk Qz15 false false 0]∧(Zae hs0≤9223372036854775807∧z2=hasH k1 hs0∧h3=getH k1 hs0)∧BIf z2 (∀(i:Int),R (.tup [Zbb (Qz4 h3),Zaf (bo true)]) b) (∀(i:Int),R (.tup [Zbb Qz15,Zaf (bo false)]) b)):=by kernel_rfl
theorem pcOf (hs:List HalfS) (k:Int) (hl:hs.length≤9223372036854775807):PCall Tryd.prog 23 [.d (.sl 6 (rowsH hs)), .d (i64 k)] (.tup [halfA (getH k hs), .d (bo (hasH k hs))]):=by
 refine PCall.ofFnW (n:=100) (u:=false) (fun _=>wlOf) mixed Zas Zao (fun Ev=>wlOf_ok) Tryd.func23 (by rfl) (by rfl) fun Ev bb=> ?_
 rw [of_nf]
 refine ⟨hs,k,_,_,rfl,rfl,rfl,⟨hl,rfl,rfl⟩,Zat (fun h i=> ?_) fun h i=> ?_⟩
 · rw [h];rfl
 · rw [getH_not h,h];rfl
def cOf (args:List AV) (K:AV→Prop):Prop:=∃(hs:List HalfS) (k:Int) (h:HalfS) (z:Bool),args= [.d (.sl 6 (rowsH hs)), .d (i64 k)]∧(hs.length≤9223372036854775807∧h=getH k hs∧z=hasH k hs)∧K (.tup [halfA h, .d (bo z)])
theorem cOf_ok:∀args K,cOf args K→∃x,PCall Tryd.prog 23 args x∧K x:=by
 rintro _ K ⟨hs,k,_,_,rfl,⟨hl,rfl,rfl⟩,hk⟩;exact ⟨_,pcOf hs k hl,hk⟩
def stepKi (kd:Int) (w:WordS):List WordS:=if (w.ki==kd)=true then [w] else []
def kindS (ws:List WordS) (kd:Int):List WordS:=ws.flatMap (stepKi kd)
def tellW (me:Int) (h:HalfS):WordS:=if h.pr=true then ⟨3,h.st,me,h.no,h.ch,h.ke,0,0⟩ else ⟨2,h.st,me,h.no,h.ch,0,0,0⟩
def okTr (v:Bool) (me:Int):Bool:=v&&(decide (me≥0)&&decide (me≤59))
def tellS (hs:List HalfS) (me:Int) (v:Bool):List WordS:=if okTr v me=true then hs.map (tellW me) else []
def tellR (hs:List HalfS) (me:Int):List WordS:=tellS hs me (validH hs)
noncomputable def lpSa:Code:=sub [1,1,0,1,2,3] (code Tryd.f15)
def tmSa (a c:List HalfS) (z:Bool) (i:Int):List AV:= [.d (.sl 6 (rowsH a)), .d (.sl 6 (rowsH c)), .bad, .bad, .d (bo z), .d (i64 i)]++Zap 20 .bad
theorem rSa (a c:List HalfS) (i:Int):wpc Tryd.prog ⟨[], [],wl,y,false⟩ 100 lpSa (tmSa a c false i) [] b (maskK 0 [0,1,4,5] K)=(BIf (decide (i<((Zae (rowsH a):Nat):Int))) (BIf (true&&decide (0≤i)) (∃(x0:Int) (x1:Int) (x2:Int) (x3:Int) (b4:Bool) (x5:Int),(rowsH a)[Zbl i]? =some (Qz19 x0 x1 x2 x3 b4 x5)∧BIf (true&&decide (0≤i)) (∃(x8:Int) (x9:Int) (x10:Int) (x11:Int) (b12:Bool) (x13:Int),(rowsH c)[Zbl i]? =some (Qz19 x8 x9 x10 x11 b12 x13)∧BIf (!(x0==x8&&(x1==x9&&(x2==x10&&(x3==x11&&(b4==b12&&(x5==x13&&true))))))) (K .ret (Zaf (Zbc 6 (rowsH a))::Zaf (Zbc 6 (rowsH c))::Zal::Zal::Zaf (bo false)::Zaf (i64 i)::bds 20 []) [] b) (K .normal (Zaf (Zbc 6 (rowsH a))::Zaf (Zbc 6 (rowsH c))::Zal::Zal::Zaf (bo false)::Zaf (i64 (Zad .i64 (i+1)))::bds 20 []) [] b)) False) False) (K (Zea 0) (Zaf (Zbc 6 (rowsH a))::Zaf (Zbc 6 (rowsH c))::Zal::Zal::Zaf (bo false)::Zaf (i64 i)::bds 20 []) [] b)):=by kernel_rfl
def SortH (l:List HalfS):Prop:=l.Pairwise fun a b=>a.st<b.st
theorem insH_sort {h:HalfS}:∀ {l:List HalfS},SortH l→(∀x∈l,x.st≠h.st)→SortH (insH h l)
 | [],_,_=>List.pairwise_singleton _ _
 | y::r,hl,hn=>by
   obtain ⟨hy,hr⟩:=List.pairwise_cons.1 hl
   simp only [insH]
   split
   · rename_i hlt
     refine List.pairwise_cons.2 ⟨fun x hx=> ?_,hl⟩
     rcases List.mem_cons.1 hx with rfl|hx
     · exact hlt
     · have:=hy x hx;omega
   · rename_i hlt
     refine List.pairwise_cons.2 ⟨fun x hx=> ?_,insH_sort hr fun x hx=>hn x (List.mem_cons_of_mem _ hx)⟩
     rcases mem_insH.1 hx with rfl|hx
     · have:=hn y (by simp);omega
     · exact hy x hx
theorem putH_sort {h:HalfS} {l:List HalfS} (hl:SortH l):SortH (putH h l):=
 insH_sort (hl.sublist List.filter_sublist) fun x hx=>by simpa using (List.mem_filter.1 hx).2
theorem valid_sort {hs:List HalfS} (hv:validH hs=true):SortH hs:=by
 simp only [validH,Zag,Bool.not_eq_true',List.any_eq_false,List.mem_range] at hv
 have hstep:∀i,i+1<hs.length→(nthH hs i).st<(nthH hs (i+1)).st:=by
   intro i hi
   have:=hv.1 (i+1) hi
   simp only [badAt,Bool.or_eq_true,Zag,decide_eq_true_eq,not_or,not_and] at this
   have h1:=this.2 (by omega)
   simp only [Nat.add_sub_cancel] at h1
   omega
 have hmono:∀(d i:Nat),i+d+1<hs.length→(nthH hs i).st<(nthH hs (i+d+1)).st:=by
   intro d
   induction d with
   |zero=>intro i hi;exact hstep i hi
   | succ d ih=>
     intro i hi
     have h1:=ih i (by omega)
     have h2:=hstep (i+d+1) (by omega)
     have e:i+(d+1)+1=i+d+1+1:=by omega
     rw [e];omega
 refine List.pairwise_iff_getElem.2 fun i j hi hj hij=> ?_
 have:=hmono (j - i - 1) i (by omega)
 have e:i+(j - i - 1)+1=j:=by omega
 rw [e] at this
 simpa [nthH,hi,hj] using this
theorem insH_last {h:HalfS}:∀ {l:List HalfS},(∀x∈l,x.st<h.st)→insH h l=l++ [h]
 | [],_=>rfl
 | y::r,hn=>by
   have:=hn y (by simp)
   simp only [insH]
   rw [if_neg (by omega),insH_last fun x hx=>hn x (List.mem_cons_of_mem _ hx)];rfl
theorem putH_last {h:HalfS} {l:List HalfS} (hn:∀x∈l,x.st<h.st):putH h l=l++ [h]:=by
 have e:l.filter (fun x=> !(x.st==h.st))=l:=List.filter_eq_self.2 fun x hx=>by have:=hn x hx;simp;omega
 rw [putH,e,insH_last hn]
theorem tab_sort {hs:List HalfS} (h:SortH hs):tabH hs=hs:=by
 have key:∀(l t:List HalfS),SortH (t++l)→l.foldl (fun t h=>putH h t) t=t++l:=by
   intro l
   induction l with
   |nil=>intro t _;simp
   | cons x r ih=>
     intro t ht
     have h1:putH x t=t++ [x]:=putH_last fun y hy=>(List.pairwise_append.1 ht).2.2 y hy x (by simp)
     rw [List.foldl_cons,h1,ih (t++ [x]) (by simpa using ht)]
     simp
 simpa [tabH] using key hs [] (by simpa using h)
theorem getH_self {l:List HalfS} (hl:SortH l) {x:HalfS} (hx:x∈l):getH x.st l=x:=by
 induction l with
 |nil=>cases hx
 | cons y r ih=>
   obtain ⟨hy,hr⟩:=List.pairwise_cons.1 hl
   rw [getH_cons]
   rcases List.mem_cons.1 hx with rfl|hx
   · rw [if_pos (by simp)]
   · have:=hy x hx
     rw [if_neg (by simp;omega)]
     exact ih hr hx
theorem list_sort {l:List HalfS} (hl:SortH l):listS l=l:=by
 have e:sortK (entH l)=l.map HalfS.st:=by
   have e1:(entH l).map (fun p=>Go.intOf p.1)=l.map HalfS.st:=by simp [entH,Function.comp_def,Go.intOf]
   rw [sortK,e1]
   refine List.mergeSort_of_pairwise (List.pairwise_map.2 (hl.imp fun {a b} h=> ?_))
   simp only [leI,decide_eq_true_eq];omega
 rw [listS,getsH,e,List.map_map]
 have:∀x∈l,((fun k=>getH k l) ∘ HalfS.st) x=id x:=fun x hx=>getH_self hl hx
 rw [List.map_congr_left this,List.map_id]
theorem hasH_iff {k:Int} {l:List HalfS}:hasH k l=true↔∃x∈l,x.st=k:=by simp [hasH]
def handV (hs:List HalfS) (w:WordS) (fr:Int):List HalfS×Int:=
 if (1 !=w.ki)=true then (if (3 !=w.ki)=true then ([],9) else if ((provedS hs w).1 !=0)=true then ([],(provedS hs w).1) else ((provedS hs w).2,0))
 else if ((askedS hs fr w).1 !=0)=true then ([],(askedS hs fr w).1) else ((askedS hs fr w).2,0)
def hearV (hs:List HalfS) (me:Int) (w:WordS) (fr:Int):List HalfS×Int:=
 if (!validH hs)=true then ([],1) else if (!isWordS w)=true then ([],1) else if (w.sp !=me)=true then ([],1) else if (!inN w.ke 2000000)=true then ([],1) else if (!inN fr 999999988)=true then ([],1) else handV hs w fr
theorem askedS_sort {hs:List HalfS} {fr:Int} {w:WordS} (h:SortH hs):SortH (askedS hs fr w).2:=by
 unfold askedS
 repeat' split
 all_goals first|exact h|exact putH_sort h
theorem provedS_sort {hs:List HalfS} {w:WordS} (h:SortH hs):SortH (provedS hs w).2:=by
 unfold provedS
 simp only
 repeat' split
 all_goals first|exact h|exact putH_sort h
theorem hear_eq (hs:List HalfS) (me:Int) (w:WordS) (fr:Int):hearS hs me w fr=hearV hs me w fr:=by
 unfold hearS hearV handV
 cases hv:validH hs with
 |false=>rfl
 | true=>
   have hs1:=valid_sort hv
   rw [tab_sort hs1,list_sort (provedS_sort hs1),list_sort (askedS_sort hs1)]
theorem isWord_eq (w:WordS):isWordS w=formedW w:=by
 cases hf:formedW w with
 |false=>simp [isWordS,judgeS,hf]
 | true=>
   simp only [isWordS,judgeS,hf,Bool.not_true,Zbq,if_false]
   rw [if_neg (by decide),if_neg (by decide),if_neg (by decide)]
   repeat' split
   all_goals rfl
theorem pcHearV (hs:List HalfS) (me fr:Int) (w:WordS) (hl:hs.length≤9223372036854775807):PCall Tryd.prog 11 [.d (.sl 6 (rowsH hs)), .d (i64 me),wordA w, .d (i64 fr)] (.tup [.d (.sl 6 (rowsH (hearV hs me w fr).1)), .d (i64 (hearV hs me w fr).2)]):=by
 have:=pcHear hs me fr w hl
 rwa [hear_eq] at this
def cHearV (args:List AV) (K:AV→Prop):Prop:=∃(hs q:List HalfS) (me fr e:Int) (w:WordS),args= [.d (.sl 6 (rowsH hs)), .d (i64 me),wordA w, .d (i64 fr)]∧(hs.length≤9223372036854775807∧q=(hearV hs me w fr).1∧e=(hearV hs me w fr).2)∧K (.tup [.d (.sl 6 (rowsH q)), .d (i64 e)])
theorem cHearV_ok:∀args K,cHearV args K→∃x,PCall Tryd.prog 11 args x∧K x:=by
 rintro _ K ⟨hs,_,me,fr,_,w,rfl,⟨hl,rfl,rfl⟩,hk⟩;exact ⟨_,pcHearV hs me fr w hl,hk⟩
theorem any_neG {α:Type} [DecidableEq α] (d:α) {a c:List α} (hl:a.length=c.length):(Zay a.length).any (fun i=> !decide (a.getD i d=c.getD i d))= !decide (a=c):=by
 rw [Bool.eq_iff_iff]
 simp only [List.any_eq_true,List.mem_range,Bool.not_eq_true',decide_eq_false_iff_not]
 constructor
 · rintro ⟨i,hi,h⟩ rfl;exact h rfl
 · intro h
   apply Classical.byContradiction
   intro hn
   refine h (List.ext_getElem hl fun i h1 h2=> ?_)
   have:=Classical.not_not.1 fun h3=>hn ⟨i,h1,h3⟩
   simpa [h1,h2] using this
theorem eqH (x y:HalfS):(x.st==y.st&&(x.no==y.no&&(x.ch==y.ch&&(x.un==y.un&&(x.pr==y.pr&&(x.ke==y.ke&&true))))))=decide (x=y):=by
 cases x;cases y
 rw [Bool.eq_iff_iff]
 simp
theorem wrSa {Ev:Env Tryd.prog} {b:Ev.β} {Q:Exit→St Ev.β→Prop} (a c:List HalfS) (hl:a.length=c.length) (hb:a.length<1000000) (h1:a=c→∀i:Int,Q (.exit 0) ⟨tmSa a c false i, [],b⟩) (h2:a≠c→∀i:Int,Q .ret ⟨tmSa a c false i, [],b⟩):
   WR Ev lpSa (a.length+1) ⟨tmSa a c false (0:Nat), [],b⟩ Q:=by
 refine WR.scanK (X:=⟨[], [],wlW Ev,Ev.Y,false⟩) (k:=100) [0,1,4,5] mixed (CX.Ok.of Zas Zao) a.length (fun i=> !decide (nthH a i=nthH c i)) (fun i=>tmSa a c false (i:Nat)) (fun i=>tmSa a c false (i:Nat)) [] 0 (fun i hi K k1 k2=> ?_) (fun K k1=> ?_) (fun h=>h1 ?_ _) fun h i=>h2 ?_ i
 · refine Eq.mpr (rSa _ _ _ K a c i) ?_
   rw [rowsH_len,Zdb,rowsH_at hi,rowsH_at (by omega:i<c.length)]
   refine Zcp (by simp;omega) (Zcp (by simp) ⟨_,_,_,_,_,_,rfl,Zcp (by simp) ⟨_,_,_,_,_,_,rfl, ?_⟩⟩)
   rw [show ((nthH a i).st==(nthH c i).st&&((nthH a i).no==(nthH c i).no&&((nthH a i).ch==(nthH c i).ch&&((nthH a i).un==(nthH c i).un&&((nthH a i).pr==(nthH c i).pr&&((nthH a i).ke==(nthH c i).ke&&true))))))=decide (nthH a i=nthH c i) from eqH _ _]
   refine Zat (fun g=>k1 g) fun g=> ?_
   rw [wrapN (by omega)]
   exact k2 g
 · refine Eq.mpr (rSa _ _ _ K a c _) ?_
   rw [rowsH_len]
   exact BIf.f (by simp) k1
 · have:=any_neG zeroH hl
   unfold nthH at h
   rw [this] at h;simpa using h
 · have:=any_neG zeroH hl
   unfold nthH at h
   rw [this] at h;simpa using h
def wlSa {β:Type}:WLT β:=fun t tm hp b K=>∃(a c:List HalfS) (z:Bool),t= .loop lpSa∧maskTm [0,1,4,5] 0 tm=tmSa a c false 0∧hp= []∧(a.length=c.length∧a.length<1000000∧z=decide (a=c))∧BIf z (∀i:Int,K (.exit 0) (tmSa a c false i) [] b) (∀i:Int,K .ret (tmSa a c false i) [] b)
theorem wlSa_ok {Ev:Env Tryd.prog} (c:Code) (tm:List AV) (hp:List Blk) (b:Ev.β) (K:Exit→List AV→List Blk→Ev.β→Prop) (h:wlSa c tm hp b K):W Ev c ⟨tm,hp,b⟩ (fun e s=>K e s.tm s.hp s.b):=by
 obtain ⟨a,d,z,rfl,htm,rfl,⟨hl,hb,hz⟩,hK⟩:=h
 refine W.cast (htm▸maskTm_le _ tm 0) (Zdj _) ?_
 exact W.rounds (wrSa (Q:=fun e s=>K e s.tm s.hp s.b) a d hl hb (fun h=>by rw [hz,decide_eq_true h] at hK;exact hK) fun h=>by rw [hz,decide_eq_false h] at hK;exact hK)
abbrev Qz36 (v0:List HalfS) (v1:List HalfS):=Zaf (Zbc 6 (rowsH v0))::Zaf (Zbc 6 (rowsH v1))::Zal::Zal::Zaf (bo false)::Zaf (i64 0)::bds 20 []
theorem Sa_nf (a c:List HalfS):wpFn Tryd.prog ⟨[], [],wlSa,y,false⟩ 100 Tryd.f15 [.d (.sl 6 (rowsH a)), .d (.sl 6 (rowsH c))] b R=(BIf (((Zae (rowsH a):Nat):Int) !=((Zae (rowsH c):Nat):Int)) (R (.d (bo false)) b) (∃(a0:List HalfS) (c1:List HalfS) (z2:Bool),Zdi lpSa=Zdi lpSa∧(Qz36 a c)=(Qz36 a0 c1)∧([]:List Blk)= []∧(Zae a0=Zae c1∧Zae a0<1000000∧z2=decide (a0=c1))∧BIf z2 (∀(i:Int),R (.d (bo true)) b) (∀(i:Int),R (.d (bo false)) b))):=by kernel_rfl
theorem pcSame (a c:List HalfS) (ha:a.length<1000000):PCall Tryd.prog 15 [.d (.sl 6 (rowsH a)), .d (.sl 6 (rowsH c))] (.d (bo (decide (a=c)))):=by
 refine PCall.ofFnW (n:=100) (u:=false) (fun _=>wlSa) mixed Zas Zao (fun Ev=>wlSa_ok) Tryd.func15 (by rfl) (by rfl) fun Ev bb=> ?_
 rw [Sa_nf,rowsH_len,rowsH_len]
 refine Zat (fun g=> ?_) fun g=>⟨a,c,_,rfl,rfl,rfl,⟨by simp at g;omega,ha,rfl⟩,Zat (fun h i=>by rw [h]) fun h i=>by rw [h]⟩
 have:a≠c:=fun e=>by rw [e] at g;simp at g
 rw [decide_eq_false this]
structure JoinS where
 ph:Int
 sp:Int
 no:Int
 si:Int
 tr:Int
def joinA (j:JoinS):AV:= .agg [.d (i64 j.ph), .d (i64 j.sp), .d (i64 j.no), .d (i64 j.si), .d (i64 j.tr)]
def joinD (j:JoinS):List Dv:= [i64 j.ph,i64 j.sp,i64 j.no,i64 j.si,i64 j.tr]
def joinB (j:JoinS):Blk:=⟨[.d (i64 j.ph), .d (i64 j.sp), .d (i64 j.no), .d (i64 j.si), .d (i64 j.tr)],false,false,0⟩
theorem jvalid_nf (j:JoinS):wpFn Tryd.prog ⟨[], [],wl,y,false⟩ 100 Tryd.f44 [.rptr (joinD j)] b R=(BIf (decide (JoinS.ph j≥(0:Int))) (BIf (decide (JoinS.ph j≤(3:Int))) (BIf (decide (JoinS.tr j≥(0:Int))) (BIf (decide (JoinS.tr j≤(255:Int))) (BIf (decide (JoinS.si j≥(0:Int))) (BIf (decide (JoinS.si j≤(1000000000:Int))) (BIf (decide (JoinS.no j≥(0:Int))) (BIf (decide (JoinS.no j≤(1000000000:Int))) (BIf (decide (JoinS.sp j≥(-1:Int))) (R (.d (bo (decide (JoinS.sp j<(60:Int))))) b) (R (.d (bo false)) b)) (R (.d (bo false)) b)) (R (.d (bo false)) b)) (R (.d (bo false)) b)) (R (.d (bo false)) b)) (R (.d (bo false)) b)) (R (.d (bo false)) b)) (R (.d (bo false)) b)) (R (.d (bo false)) b)):=by kernel_rfl
abbrev Qz2 (v0:JoinS):List AV:= [Zaf (i64 (JoinS.ph v0)),Zaf (i64 (JoinS.sp v0)),Zaf (i64 (JoinS.no v0)),Zaf (i64 (JoinS.si v0)),Zaf (i64 (JoinS.tr v0))]
abbrev Qz11 (v0:WordS) (v1:Int):List AV:= [Zaf (i64 3),Zaf (i64 (WordS.st v0)),Zaf (i64 (WordS.sp v0)),Zaf (i64 (WordS.no v0)),Zaf (i64 (WordS.ch v0)),Zaf (i64 v1),Zaf (i64 0),Zaf (i64 0)]
abbrev Qz32 (v0:JoinS):List AV:= [Zaf (i64 2),Zaf (i64 (JoinS.sp v0)),Zaf (i64 (JoinS.no v0)),Zaf (i64 (JoinS.si v0)),Zaf (i64 (JoinS.tr v0))]
theorem jhear_nf (b0 b1 b2 b3 b5:Blk) (j:JoinS) (w:WordS) (own:Int):wpc Tryd.prog ⟨[], [],wl,y,false⟩ 100 (code Tryd.f46) (startTm Tryd.f46 [.ptr 4 0,wordA w, .d (i64 own)]) [b0,b1,b2,b3,joinB j,b5] b (fnKS Tryd.prog Tryd.f46 RS)=(BIf (WordS.ki w==(2:Int)) (BIf (JoinS.ph j !=(1:Int)) (BIf (JoinS.ph j !=(2:Int)) (RS (AV.tup [Zbb Qz3,Zaf (bo false)]) [b0,b1,b2,b3,Blk.mk (Qz2 j) false false 0,b5,Blk.mk (Qz1 w) false false 0,Blk.mk Qz3 false false 0,Blk.mk Qz3 false false 0] b) (RS (AV.tup [Zbb (Qz11 w own),Zaf (bo true)]) [b0,b1,b2,b3,Blk.mk (Qz32 j) false false 0,b5,Blk.mk (Qz1 w) false false 0,Blk.mk (Qz11 w own) false false 0,Blk.mk (Qz11 w own) false false 0] b)) (RS (AV.tup [Zbb (Qz11 w own),Zaf (bo true)]) [b0,b1,b2,b3,Blk.mk (Qz32 j) false false 0,b5,Blk.mk (Qz1 w) false false 0,Blk.mk (Qz11 w own) false false 0,Blk.mk (Qz11 w own) false false 0] b)) (BIf (WordS.ki w==(4:Int)) (BIf (JoinS.ph j==(2:Int)) (BIf (WordS.ke w==own) (RS (AV.tup [Zbb Qz3,Zaf (bo true)]) [b0,b1,b2,b3,Blk.mk [Zaf (i64 3),Zaf (i64 (JoinS.sp j)),Zaf (i64 (JoinS.no j)),Zaf (i64 (JoinS.si j)),Zaf (i64 (JoinS.tr j))] false false 0,b5,Blk.mk (Qz1 w) false false 0,Blk.mk Qz3 false false 0,Blk.mk Qz3 false false 0] b) (RS (AV.tup [Zbb Qz3,Zaf (bo false)]) [b0,b1,b2,b3,Blk.mk (Qz2 j) false false 0,b5,Blk.mk (Qz1 w) false false 0,Blk.mk Qz3 false false 0,Blk.mk Qz3 false false 0] b)) (RS (AV.tup [Zbb Qz3,Zaf (bo false)]) [b0,b1,b2,b3,Blk.mk (Qz2 j) false false 0,b5,Blk.mk (Qz1 w) false false 0,Blk.mk Qz3 false false 0,Blk.mk Qz3 false false 0] b)) (RS (AV.tup [Zbb Qz3,Zaf (bo false)]) [b0,b1,b2,b3,Blk.mk (Qz2 j) false false 0,b5,Blk.mk (Qz1 w) false false 0,Blk.mk Qz3 false false 0,Blk.mk Qz3 false false 0] b))):=by kernel_rfl
theorem lask_nf (st no:Int):wpFn Tryd.prog ⟨[], [],wl,y,false⟩ 100 Tryd.f27 [.d (i64 st), .d (i64 no)] b R=(R (.agg [Zaf (i64 1),Zaf (i64 st),Zaf (i64 2),Zaf (i64 no),Zaf (i64 0),Zaf (i64 0),Zaf (i64 0),Zaf (i64 0)]) b):=by kernel_rfl
def jvalidB (j:JoinS):Bool:=decide (j.ph≥0)&&(decide (j.ph≤3)&&(decide (j.tr≥0)&&(decide (j.tr≤255)&&(decide (j.si≥0)&&(decide (j.si≤1000000000)&&(decide (j.no≥0)&&(decide (j.no≤1000000000)&&(decide (j.sp≥ -1)&&decide (j.sp<60)))))))))
theorem pcJvalid (j:JoinS):PCall Tryd.prog 44 [.rptr (joinD j)] (.d (bo (jvalidB j))):=by
 refine Zcd (n:=100) (u:=false) mixed Zas Zao Tryd.func44 (by rfl) (by rfl) fun Ev bb=> ?_
 rw [jvalid_nf]
 refine Zat (fun h1=>Zat (fun h2=>Zat (fun h3=>Zat (fun h4=>Zat (fun h5=>Zat (fun h6=>Zat (fun h7=>Zat (fun h8=>Zat (fun h9=> ?_) fun h9=> ?_) fun h8=> ?_) fun h7=> ?_) fun h6=> ?_) fun h5=> ?_) fun h4=> ?_) fun h3=> ?_) fun h2=> ?_) fun h1=> ?_
 all_goals simp only [jvalidB, *,Bool.true_and,Bool.false_and,Bool.and_false]
def cJvalid (args:List AV) (K:AV→Prop):Prop:=∃(j:JoinS) (z:Bool),args= [.rptr (joinD j)]∧z=jvalidB j∧K (.d (bo z))
theorem cJvalid_ok:∀args K,cJvalid args K→∃x,PCall Tryd.prog 44 args x∧K x:=by
 rintro _ K ⟨j,_,rfl,rfl,hk⟩;exact ⟨_,pcJvalid j,hk⟩
def jhearS (j:JoinS) (w:WordS) (own:Int):JoinS×WordS×Bool:=
 if (w.ki==2)=true then (if (j.ph !=1)=true then (if (j.ph !=2)=true then (j,zeroW,false) else (⟨2,j.sp,j.no,j.si,j.tr⟩,⟨3,w.st,w.sp,w.no,w.ch,own,0,0⟩,true)) else (⟨2,j.sp,j.no,j.si,j.tr⟩,⟨3,w.st,w.sp,w.no,w.ch,own,0,0⟩,true))
 else if (w.ki==4)=true then (if (j.ph==2)=true then (if (w.ke==own)=true then (⟨3,j.sp,j.no,j.si,j.tr⟩,zeroW,true) else (j,zeroW,false)) else (j,zeroW,false)) else (j,zeroW,false)
theorem jhear_body:Tryd.f46.body=some (code Tryd.f46):=by rfl
theorem scJhear (b0 b1 b2 b3 b5:Blk) (j:JoinS) (w:WordS) (own:Int):SCall Tryd.prog 46 [.ptr 4 0,wordA w, .d (i64 own)] [b0,b1,b2,b3,joinB j,b5] (.tup [wordA (jhearS j w own).2.1, .d (bo (jhearS j w own).2.2)])
   [b0,b1,b2,b3,joinB (jhearS j w own).1,b5,wordB w,wordB (jhearS j w own).2.1,wordB (jhearS j w own).2.1]:=by
 refine SCall.ofWp (n:=100) (u:=false) mixed Zas Zao Tryd.func46 jhear_body (by rfl) fun Ev b=> ?_
 rw [jhear_nf]
 have key:∀q:JoinS×WordS×Bool,jhearS j w own=q→(AV.tup [wordA q.2.1, .d (bo q.2.2)]=AV.tup [wordA (jhearS j w own).2.1, .d (bo (jhearS j w own).2.2)]∧ [b0,b1,b2,b3,joinB q.1,b5,wordB w,wordB q.2.1,wordB q.2.1]= [b0,b1,b2,b3,joinB (jhearS j w own).1,b5,wordB w,wordB (jhearS j w own).2.1,wordB (jhearS j w own).2.1]):=by
   rintro _ rfl;exact ⟨rfl,rfl⟩
 refine Zat (fun h1=>Zat (fun h2=>Zat (fun h3=>key (j,zeroW,false) ?_) fun h3=>key (⟨2,j.sp,j.no,j.si,j.tr⟩,⟨3,w.st,w.sp,w.no,w.ch,own,0,0⟩,true) ?_) fun h2=>key (⟨2,j.sp,j.no,j.si,j.tr⟩,⟨3,w.st,w.sp,w.no,w.ch,own,0,0⟩,true) ?_)
   fun h1=>Zat (fun h2=>Zat (fun h3=>Zat (fun h4=>key (⟨3,j.sp,j.no,j.si,j.tr⟩,zeroW,true) ?_) fun h4=>key (j,zeroW,false) ?_) fun h3=>key (j,zeroW,false) ?_) fun h2=>key (j,zeroW,false) ?_
 all_goals simp only [jhearS, *,if_true,Zbq,if_false]
def sJhear (args:List AV) (hp:List Blk) (K:AV→List Blk→Prop):Prop:=match hp with
 | [b0,b1,b2,b3,b4,b5]=>∃(j j':JoinS) (w a:WordS) (own:Int) (z:Bool),args= [.ptr 4 0,wordA w, .d (i64 own)]∧b4=joinB j∧(j'=(jhearS j w own).1∧a=(jhearS j w own).2.1∧z=(jhearS j w own).2.2)∧K (.tup [wordA a, .d (bo z)]) [b0,b1,b2,b3,joinB j',b5,wordB w,wordB a,wordB a]
 |_=>False
theorem sJhear_ok:∀args hp K,sJhear args hp K→∃x hp',SCall Tryd.prog 46 args hp x hp'∧K x hp':=by
 intro args hp K h
 unfold sJhear at h
 split at h
 · obtain ⟨j,_,w,_,own,_,rfl,rfl,⟨rfl,rfl,rfl⟩,h⟩:=h
   exact ⟨_,_,scJhear _ _ _ _ _ j w own,h⟩
 · exact h.elim
def TJh:List (Nat×(List AV→(AV→Prop)→Prop)):= [(47,cOwn),(48,cFormed)]
theorem TJh_ok:CallsOk Tryd.prog TJh:=Zam cOwn_ok (Zam cFormed_ok Zas)
def UJh:List (Nat×(List AV→List Blk→(AV→List Blk→Prop)→Prop)):= [(44,lendC cJvalid),(46,sJhear)]
theorem UJh_ok:SCallsOk Tryd.prog UJh:=Zcq (lendC_ok cJvalid_ok) (Zcq sJhear_ok Zao)
def TJa:List (Nat×(List AV→(AV→Prop)→Prop)):= [(45,cNodeJ)]
theorem TJa_ok:CallsOk Tryd.prog TJa:=Zam cNodeJ_ok Zas
def UJa:List (Nat×(List AV→List Blk→(AV→List Blk→Prop)→Prop)):= [(44,lendC cJvalid)]
theorem UJa_ok:SCallsOk Tryd.prog UJa:=Zcq (lendC_ok cJvalid_ok) Zao
abbrev Qz18 (v0:JoinS):List AV:= [Zdo [i64 (JoinS.ph v0),i64 (JoinS.sp v0),i64 (JoinS.no v0),i64 (JoinS.si v0),i64 (JoinS.tr v0)]]
abbrev Qz24 (v0:JoinS):List AV:= [Zbb (Qz2 v0),Zbb Qz3,Zaf (bo false)]
abbrev Qz35 (v0:JoinS) (v1:WordS) (v2:Bool):List AV:= [Zbb (Qz2 v0),Zbb (Qz1 v1),Zaf (bo v2)]
theorem jHear_nf (j:JoinS) (me fr:Int) (w:WordS):wpFn Tryd.prog ⟨TJh,UJh,wl,y,false⟩ 100 Tryd.f25 [joinA j, .d (i64 me),wordA w, .d (i64 fr)] b R=(∃(n0:Int) (k1:Int) (e2:Int), [Zaf (i64 me)]= [Zaf (i64 n0)]∧(k1=ownK n0∧e2=ownE n0)∧∃(j3:JoinS) (z4:Bool),(Qz18 j)=(Qz18 j3)∧z4=jvalidB j3∧BIf (!z4) (R (.tup (Qz24 j)) b) (∃(w5:WordS) (z6:Bool), [Zbb (Qz1 w)]= [Zbb (Qz1 w5)]∧z6=formedW w5∧BIf (!z6) (R (.tup (Qz24 j)) b) (BIf (decide (fr<(0:Int))) (R (.tup (Qz24 j)) b) (BIf (decide (fr>(1000000000:Int))) (R (.tup (Qz24 j)) b) (BIf (!(WordS.ki w==WordS.ki w&&(WordS.st w==me&&(WordS.sp w==JoinS.sp j&&(WordS.no w==JoinS.no j&&(WordS.ch w==WordS.ch w&&(WordS.ke w==WordS.ke w&&(WordS.rf w==WordS.rf w&&(WordS.rn w==WordS.rn w&&true)&&true)))))))) (R (.tup (Qz24 j)) b) (BIf (e2 !=(0:Int)) (R (.tup (Qz24 j)) b) (∃(j7:JoinS) (j8:JoinS) (w9:WordS) (a10:WordS) (own11:Int) (z12:Bool), [Zcc 4 0,Zbb (Qz1 w),Zaf (i64 k1)]= [Zcc 4 0,Zbb (Qz1 w9),Zaf (i64 own11)]∧Blk.mk (Qz2 j) false false 0=Blk.mk (Qz2 j7) false false 0∧(j8=Zcx (jhearS j7 w9 own11)∧a10=Zcx (Zcy (jhearS j7 w9 own11))∧z12=Zcy (Zcy (jhearS j7 w9 own11)))∧R (.tup (Qz35 j8 a10 z12)) b))))))):=by kernel_rfl
abbrev Qz12:List AV:= [Zbb [Zaf (i64 0),Zaf (i64 0),Zaf (i64 0),Zaf (i64 0),Zaf (i64 0)],Zbb Qz3,Zaf (i64 1)]
abbrev Qz37:List AV:= [Zaf (i64 0),Zaf (i64 0),Zaf (i64 0),Zaf (i64 0),Zaf (i64 0)]
theorem jAsk_nf (j:JoinS) (me boot sp fr:Int):wpFn Tryd.prog ⟨TJa,UJa,wl,y,false⟩ 100 Tryd.f24 [joinA j, .d (i64 me), .d (i64 boot), .d (i64 sp), .d (i64 fr)] b R=(∃(j0:JoinS) (z1:Bool),(Qz18 j)=(Qz18 j0)∧z1=jvalidB j0∧BIf (!z1) (R (.tup Qz12) b) (∃(n2:Int) (z3:Bool), [Zaf (i64 me)]= [Zaf (i64 n2)]∧z3=nodeJ n2∧BIf (!z3) (R (.tup Qz12) b) (∃(n4:Int) (z5:Bool), [Zaf (i64 sp)]= [Zaf (i64 n4)]∧z5=nodeJ n4∧BIf (!z5) (R (.tup Qz12) b) (BIf (me==sp) (R (.tup Qz12) b) (BIf (decide (boot<(0:Int))) (R (.tup Qz12) b) (BIf (decide (boot>(1000000:Int))) (R (.tup Qz12) b) (BIf (decide (fr<(0:Int))) (R (.tup Qz12) b) (BIf (decide (fr>(1000000000:Int))) (R (.tup Qz12) b) (BIf (JoinS.ph j !=(0:Int)) (R (.tup [Zbb Qz37,Zbb Qz3,Zaf (i64 6)]) b) (BIf (JoinS.tr j==(255:Int)) (R (.tup [Zbb Qz37,Zbb Qz3,Zaf (i64 2)]) b) (R (.tup [Zbb [Zaf (i64 1),Zaf (i64 sp),Zaf (i64 (Zad .i64 (Zad .i64 ((256:Int)*boot)+Zad .i64 (JoinS.tr j+(1:Int))))),Zaf (i64 fr),Zaf (i64 (Zad .i64 (JoinS.tr j+(1:Int))))],Zbb [Zaf (i64 1),Zaf (i64 me),Zaf (i64 sp),Zaf (i64 (Zad .i64 (Zad .i64 ((256:Int)*boot)+Zad .i64 (JoinS.tr j+(1:Int))))),Zaf (i64 0),Zaf (i64 0),Zaf (i64 0),Zaf (i64 0)],Zaf (i64 0)]) b))))))))))):=by kernel_rfl
def jHearV (j:JoinS) (me:Int) (w:WordS) (fr:Int):JoinS×WordS×Bool:=
 if (!jvalidB j)=true then (j,zeroW,false) else if (!formedW w)=true then (j,zeroW,false) else if fr<0 then (j,zeroW,false) else if fr>1000000000 then (j,zeroW,false)
 else if (w.st==me&&(w.sp==j.sp&&w.no==j.no))=false then (j,zeroW,false) else if (ownE me !=0)=true then (j,zeroW,false) else jhearS j w (ownK me)
theorem pcjHear (j:JoinS) (me fr:Int) (w:WordS):PCall Tryd.prog 25 [joinA j, .d (i64 me),wordA w, .d (i64 fr)] (.tup [joinA (jHearV j me w fr).1,wordA (jHearV j me w fr).2.1, .d (bo (jHearV j me w fr).2.2)]):=by
 refine Zcd (n:=100) (u:=false) mixed TJh_ok UJh_ok Tryd.func25 (by rfl) (by rfl) fun Ev bb=> ?_
 rw [jHear_nf]
 have key:∀q:JoinS×WordS×Bool,jHearV j me w fr=q→AV.tup [joinA q.1,wordA q.2.1, .d (bo q.2.2)]=AV.tup [joinA (jHearV j me w fr).1,wordA (jHearV j me w fr).2.1, .d (bo (jHearV j me w fr).2.2)]:=by
   rintro _ rfl;rfl
 have he:(w.ki==w.ki&&(w.st==me&&(w.sp==j.sp&&(w.no==j.no&&(w.ch==w.ch&&(w.ke==w.ke&&(w.rf==w.rf&&(w.rn==w.rn&&true)&&true)))))))=(w.st==me&&(w.sp==j.sp&&w.no==j.no)):=by simp
 rw [he]
 refine ⟨me,_,_,rfl,⟨rfl,rfl⟩,j,_,rfl,rfl,Zat (fun h1=>key (j,zeroW,false) ?_) fun h1=>⟨w,_,rfl,rfl,Zat (fun h2=>key (j,zeroW,false) ?_) fun h2=>Zat (fun h3=>key (j,zeroW,false) ?_) fun h3=>Zat (fun h4=>key (j,zeroW,false) ?_) fun h4=>Zat (fun h5=>key (j,zeroW,false) ?_) fun h5=>Zat (fun h6=>key (j,zeroW,false) ?_) fun h6=>⟨j,_,w,_,_,_,rfl,rfl,⟨rfl,rfl,rfl⟩,key (jhearS j w (ownK me)) ?_⟩⟩⟩
 · rw [jHearV,if_pos h1]
 · rw [jHearV,if_neg (by rw [h1];decide),if_pos h2]
 · rw [jHearV,if_neg (by rw [h1];decide),if_neg (by rw [h2];decide),if_pos (of_decide_eq_true h3)]
 · rw [jHearV,if_neg (by rw [h1];decide),if_neg (by rw [h2];decide),if_neg (of_decide_eq_false h3),if_pos (of_decide_eq_true h4)]
 all_goals rw [jHearV,if_neg (by rw [h1];decide),if_neg (by rw [h2];decide),if_neg (of_decide_eq_false h3),if_neg (of_decide_eq_false h4)]
 · rw [if_pos (by simpa only [Bool.not_eq_true'] using h5)]
 · rw [if_neg (by simp only [Bool.not_eq_false'] at h5;rw [h5];decide),if_pos h6]
 · rw [if_neg (by simp only [Bool.not_eq_false'] at h5;rw [h5];decide),if_neg (by rw [h6];decide)]
def cjHear (args:List AV) (K:AV→Prop):Prop:=∃(j j':JoinS) (me fr:Int) (w a:WordS) (z:Bool),args= [joinA j, .d (i64 me),wordA w, .d (i64 fr)]∧(j'=(jHearV j me w fr).1∧a=(jHearV j me w fr).2.1∧z=(jHearV j me w fr).2.2)∧K (.tup [joinA j',wordA a, .d (bo z)])
theorem cjHear_ok:∀args K,cjHear args K→∃x,PCall Tryd.prog 25 args x∧K x:=by
 rintro _ K ⟨j,_,me,fr,w,_,_,rfl,⟨rfl,rfl,rfl⟩,hk⟩;exact ⟨_,pcjHear j me fr w,hk⟩
def zeroJ:JoinS:=⟨0,0,0,0,0⟩
def askTr (j:JoinS):Int:=Zad Zbj (j.tr+1)
def askNo (j:JoinS) (boot:Int):Int:=Zad Zbj (Zad Zbj (256*boot)+askTr j)
def jAskV (j:JoinS) (me boot sp fr:Int):JoinS×WordS×Int:=
 if (!jvalidB j)=true then (zeroJ,zeroW,1) else if (!nodeJ me)=true then (zeroJ,zeroW,1) else if (!nodeJ sp)=true then (zeroJ,zeroW,1) else if (me==sp)=true then (zeroJ,zeroW,1)
 else if boot<0 then (zeroJ,zeroW,1) else if boot>1000000 then (zeroJ,zeroW,1) else if fr<0 then (zeroJ,zeroW,1) else if fr>1000000000 then (zeroJ,zeroW,1)
 else if (j.ph !=0)=true then (zeroJ,zeroW,6) else if (j.tr==255)=true then (zeroJ,zeroW,2)
 else (⟨1,sp,askNo j boot,fr,askTr j⟩,⟨1,me,sp,askNo j boot,0,0,0,0⟩,0)
theorem pcjAsk (j:JoinS) (me boot sp fr:Int):PCall Tryd.prog 24 [joinA j, .d (i64 me), .d (i64 boot), .d (i64 sp), .d (i64 fr)] (.tup [joinA (jAskV j me boot sp fr).1,wordA (jAskV j me boot sp fr).2.1, .d (i64 (jAskV j me boot sp fr).2.2)]):=by
 refine Zcd (n:=100) (u:=false) mixed TJa_ok UJa_ok Tryd.func24 (by rfl) (by rfl) fun Ev bb=> ?_
 rw [jAsk_nf]
 have key:∀q:JoinS×WordS×Int,jAskV j me boot sp fr=q→AV.tup [joinA q.1,wordA q.2.1, .d (i64 q.2.2)]=AV.tup [joinA (jAskV j me boot sp fr).1,wordA (jAskV j me boot sp fr).2.1, .d (i64 (jAskV j me boot sp fr).2.2)]:=by
   rintro _ rfl;rfl
 refine ⟨j,_,rfl,rfl,Zat (fun h1=>key (zeroJ,zeroW,1) ?_) fun h1=>⟨me,_,rfl,rfl,Zat (fun h2=>key (zeroJ,zeroW,1) ?_) fun h2=>⟨sp,_,rfl,rfl,Zat (fun h3=>key (zeroJ,zeroW,1) ?_) fun h3=>Zat (fun h4=>key (zeroJ,zeroW,1) ?_) fun h4=>Zat (fun h5=>key (zeroJ,zeroW,1) ?_) fun h5=>Zat (fun h6=>key (zeroJ,zeroW,1) ?_) fun h6=>Zat (fun h7=>key (zeroJ,zeroW,1) ?_) fun h7=>Zat (fun h8=>key (zeroJ,zeroW,1) ?_) fun h8=>
   Zat (fun h9=>key (zeroJ,zeroW,6) ?_) fun h9=>Zat (fun h10=>key (zeroJ,zeroW,2) ?_) fun h10=>key (⟨1,sp,askNo j boot,fr,askTr j⟩,⟨1,me,sp,askNo j boot,0,0,0,0⟩,0) ?_⟩⟩⟩
 all_goals
   try simp only [decide_eq_true_eq,decide_eq_false_iff_not] at*
   simp only [jAskV, *,if_true,if_false,Zbq]
def cjAsk (args:List AV) (K:AV→Prop):Prop:=∃(j j':JoinS) (me boot sp fr e:Int) (a:WordS),args= [joinA j, .d (i64 me), .d (i64 boot), .d (i64 sp), .d (i64 fr)]∧(j'=(jAskV j me boot sp fr).1∧a=(jAskV j me boot sp fr).2.1∧e=(jAskV j me boot sp fr).2.2)∧K (.tup [joinA j',wordA a, .d (i64 e)])
theorem cjAsk_ok:∀args K,cjAsk args K→∃x,PCall Tryd.prog 24 args x∧K x:=by
 rintro _ K ⟨j,_,me,boot,sp,fr,_,_,rfl,⟨rfl,rfl,rfl⟩,hk⟩;exact ⟨_,pcjAsk j me boot sp fr,hk⟩
theorem pcAskL (st no:Int):PCall Tryd.prog 27 [.d (i64 st), .d (i64 no)] (wordA ⟨1,st,2,no,0,0,0,0⟩):=by
 refine Zcd (n:=100) (u:=false) mixed Zas Zao Tryd.func27 (by rfl) (by rfl) fun Ev bb=> ?_
 rw [lask_nf];rfl
set_option maxRecDepth 100000
def asH:List Dv→Option HalfS
 | [.s (.int .i64 a), .s (.int .i64 b), .s (.int .i64 c), .s (.int .i64 d), .s (.bool p), .s (.int .i64 e)]=>some ⟨a,b,c,d,p,e⟩
 |_=>none
def asHs:List (List Dv)→Option (List HalfS)
 | []=>some []
 | r::rs=>match asH r,asHs rs with
   |some h,some hs=>some (h::hs)
   |_,_=>none
theorem asH_ok {r:List Dv} {h:HalfS} (e:asH r=some h):r=halfR h:=by
 unfold asH at e
 split at e
 · cases e;rfl
 · cases e
theorem asHs_ok:∀ {rs:List (List Dv)} {hs:List HalfS},asHs rs=some hs→rs=rowsH hs
 | [],hs,e=>by cases e;rfl
 | r::rs,hs,e=>by
   simp only [asHs] at e
   split at e
   · rename_i h hs' h1 h2
     cases e
     rw [asH_ok h1,asHs_ok h2];rfl
   · cases e
def asL:AV→Option (List HalfS)
 | .d (.sl 6 rs)=>asHs rs
 | .full 6 rs=>asHs rs
 | .d (.s (.slice none 0 0))=>some []
 |_=>none
theorem asL_ok {x:AV} {hs:List HalfS} (e:asL x=some hs):LeV x (.d (.sl 6 (rowsH hs))):=by
 unfold asL at e
 split at e
 · rw [asHs_ok e];exact .rfl
 · rw [asHs_ok e];exact .full
 · cases e;exact .nil rfl
 · cases e
def asW:AV→Option WordS
 | .agg [.d (.s (.int .i64 a)), .d (.s (.int .i64 b)), .d (.s (.int .i64 c)), .d (.s (.int .i64 d)), .d (.s (.int .i64 e)), .d (.s (.int .i64 f)), .d (.s (.int .i64 g)), .d (.s (.int .i64 h))]=>some ⟨a,b,c,d,e,f,g,h⟩
 |_=>none
theorem asW_ok {x:AV} {w:WordS} (e:asW x=some w):x=wordA w:=by
 unfold asW at e
 split at e
 · cases e;rfl
 · cases e
structure Small (n:Nat):Prop where
 lt:n<1000000
structure IsP (a b:List HalfS×Int):Prop where
 eq:a=b
structure IsH (a b:List HalfS):Prop where
 eq:a=b
structure IsW (a b:List WordS):Prop where
 eq:a=b
def headT (hs:List HalfS) (me:Int) (w:WordS) (fr:Int):List HalfS×Int:=
 if fr==10 then (match hs with
   | []=>([⟨7,300,300425718,22,false,0⟩],0)
   |_=>([],10))
 else if fr==15 then (if w.no==300 then ([⟨7,300,300425718,22,false,0⟩],0) else ([],14))
 else if me==3 then ([],1) else if w.ch==300425718 then ([⟨7,300,300425718,22,true,1000007⟩],0) else ([],4)
abbrev HVt:=List HalfS→Int→WordS→Int→List HalfS×Int
abbrev EXt:=List HalfS→Int→List HalfS
abbrev TOt:=List HalfS→Int→Int→Bool→List WordS
def hHear (HV:HVt) (args:List AV) (K:AV→Prop):Prop:=match args with
 | [l, .d (.s (.int .i64 me)),x, .d (.s (.int .i64 fr))]=>match asL l,asW x with
   |some hs,some w=>if fr==12 then (if me==3 then Small hs.length∧IsP (HV hs me w fr) ([],1)∧K (.tup [.d (.sl 6 []), .d (i64 1)])
      else (BIf (decide (w.ch=300425718)) (Small hs.length∧IsP (HV hs me w fr) ([⟨7,300,300425718,22,true,1000007⟩],0)∧K (.tup [.d (.sl 6 [[i64 7,i64 300,i64 300425718,i64 22,bo true,i64 1000007]]), .d (i64 0)]))
         (Small hs.length∧IsP (HV hs me w fr) ([],4)∧K (.tup [.d (.sl 6 []), .d (i64 4)])))) else match headT hs me w fr with
     |(q,e)=>Small hs.length∧IsP (HV hs me w fr) (q,e)∧K (.tup [.d (.sl 6 (rowsH q)), .d (i64 e)])
   |_,_=>False
 |_=>False
theorem hHear_fin {l x:AV} {hs q:List HalfS} {w:WordS} {me fr e:Int} {K:AV→Prop} (h1:asL l=some hs) (h2:asW x=some w) (h:Small hs.length∧IsP (hearV hs me w fr) (q,e)∧K (.tup [.d (.sl 6 (rowsH q)), .d (i64 e)])):∃y,PCall Tryd.prog 11 [l, .d (i64 me),x, .d (i64 fr)] y∧K y:=by
 obtain ⟨⟨hl⟩,⟨hq⟩,hk⟩:=h
 rw [asW_ok h2]
 have:=pcHearV hs me fr w (by omega)
 rw [hq] at this
 exact ⟨_,PCall.leArgsV (.cons (asL_ok h1) (.cons .rfl (.cons .rfl (.cons .rfl .nil)))) this,hk⟩
theorem hHear_ok:∀args K,hHear hearV args K→∃x,PCall Tryd.prog 11 args x∧K x:=by
 intro args K h
 unfold hHear at h
 split at h
 · rename_i l me x fr
   split at h
   · rename_i hs w h1 h2
     split at h
     · split at h
       · exact hHear_fin (q:= []) h1 h2 h
       · rcases BIf.elim h with ⟨_,h⟩|⟨_,h⟩
         · exact hHear_fin (q:= [⟨7,300,300425718,22,true,1000007⟩]) h1 h2 h
         · exact hHear_fin (q:= []) h1 h2 h
     · exact hHear_fin h1 h2 h
   · exact h.elim
 · exact h.elim
def hSame (args:List AV) (K:AV→Prop):Prop:=match args with
 | [l,m]=>match asL l,asL m with
   |some a,some c=>Small a.length∧IsH a c∧K (.d (bo true))
   |_,_=>False
 |_=>False
theorem hSame_ok:∀args K,hSame args K→∃x,PCall Tryd.prog 15 args x∧K x:=by
 intro args K h
 unfold hSame at h
 split at h
 · split at h
   · rename_i a c h1 h2
     obtain ⟨⟨hl⟩,⟨hq⟩,hk⟩:=h
     have:=pcSame a c hl
     rw [decide_eq_true hq] at this
     exact ⟨_,PCall.leArgsV (.cons (asL_ok h1) (.cons (asL_ok h2) .nil)) this,hk⟩
   · exact h.elim
 · exact h.elim
def hExpire (EX:EXt) (args:List AV) (K:AV→Prop):Prop:=match args with
 | [l, .d (.s (.int .i64 fr))]=>match asL l with
   | some a=>match (if fr==22 then a else []) with
     |q=>Small a.length∧IsH (EX a fr) q∧K (.d (.sl 6 (rowsH q)))
   |_=>False
 |_=>False
theorem hExpire_ok:∀args K,hExpire expireS args K→∃x,PCall Tryd.prog 16 args x∧K x:=by
 intro args K h
 unfold hExpire at h
 split at h
 · rename_i l fr
   split at h
   · rename_i a h1
     obtain ⟨⟨hl⟩,⟨hq⟩,hk⟩:=h
     have:=pcExpire a fr hl
     rw [hq] at this
     exact ⟨_,PCall.leArgsV (.cons (asL_ok h1) (.cons .rfl .nil)) this,hk⟩
   · exact h.elim
 · exact h.elim
def hWords (TO:TOt) (args:List AV) (K:AV→Prop):Prop:=match args with
 | [l, .d (.s (.int .i64 me))]=>match asL l with
   |some a=>Small a.length∧IsW (TO a me 2 false) [⟨2,7,2,300,300425718,0,0,0⟩]∧K (.d (.sl 8 (rowsW [⟨2,7,2,300,300425718,0,0,0⟩])))
   |_=>False
 |_=>False
theorem hWords_ok:∀args K,hWords toldS args K→∃x,PCall Tryd.prog 19 args x∧K x:=by
 intro args K h
 unfold hWords at h
 split at h
 · rename_i l me
   split at h
   · rename_i a h1
     obtain ⟨⟨hl⟩,⟨hq⟩,hk⟩:=h
     have:=pcWords a me hl
     rw [hq] at this
     exact ⟨_,PCall.leArgsV (.cons (asL_ok h1) (.cons .rfl .nil)) this,hk⟩
   · exact h.elim
 · exact h.elim
def proofT:List HalfS→List WordS
 |h::_=>if h.pr then [⟨3,7,2,300,300425718,1000007,0,0⟩] else []
 | []=> []
def hProofs (TO:TOt) (args:List AV) (K:AV→Prop):Prop:=match args with
 | [l, .d (.s (.int .i64 me))]=>match asL l with
   | some a=>match proofT a with
     |q=>Small a.length∧IsW (TO a me 3 true) q∧K (.d (.sl 8 (rowsW q)))
   |_=>False
 |_=>False
theorem hProofs_ok:∀args K,hProofs toldS args K→∃x,PCall Tryd.prog 21 args x∧K x:=by
 intro args K h
 unfold hProofs at h
 split at h
 · rename_i l me
   split at h
   · rename_i a h1
     obtain ⟨⟨hl⟩,⟨hq⟩,hk⟩:=h
     have:=pcProofs a me hl
     rw [hq] at this
     exact ⟨_,PCall.leArgsV (.cons (asL_ok h1) (.cons .rfl .nil)) this,hk⟩
   · exact h.elim
 · exact h.elim
def hAskL (args:List AV) (K:AV→Prop):Prop:=match args with
 | [.d (.s (.int .i64 st)), .d (.s (.int .i64 no))]=>K (.agg [.d (i64 1), .d (i64 st), .d (i64 2), .d (i64 no), .d (i64 0), .d (i64 0), .d (i64 0), .d (i64 0)])
 |_=>False
theorem hAskL_ok:∀args K,hAskL args K→∃x,PCall Tryd.prog 27 args x∧K x:=by
 intro args K h
 unfold hAskL at h
 split at h
 · rename_i st no
   exact ⟨_,pcAskL st no,h⟩
 · exact h.elim
def THd (HV:HVt) (EX:EXt) (TO:TOt):List (Nat×(List AV→(AV→Prop)→Prop)):= [(27,hAskL),(11,hHear HV),(15,hSame),(16,hExpire EX),(19,hWords TO),(21,hProofs TO)]
theorem THd_ok:CallsOk Tryd.prog (THd hearV expireS toldS):=Zam hAskL_ok (Zam hHear_ok (Zam hSame_ok (Zam hExpire_ok (Zam hWords_ok (Zam hProofs_ok Zas)))))
def rowL:List (List Dv):= [[i64 7,i64 300,i64 300425718,i64 22,bo false,i64 0]]
def rowP:List (List Dv):= [[i64 7,i64 300,i64 300425718,i64 22,bo true,i64 1000007]]
noncomputable def rg12:Code:=sub [1,1,1,1,1,1,1,1,1,1,1,0] (code Tryd.f10)
noncomputable def rg13:Code:=sub [1,1,1,1,1,1,1,1,1,1,1,1,0] (code Tryd.f10)
def tm12:List AV:= [.bad, .d (.sl 6 rowL), .bad, .d (.sl 6 rowL), .d (i64 0), .bad, .d (i64 14), .bad, .d (i64 10), .bad, .d (.sl 6 rowP), .d (i64 0), .bad, .d (i64 4), .bad, .d (i64 1)]++Zap 169 .bad
def tm13:List AV:= [.bad, .d (.sl 6 rowL), .bad, .bad, .bad, .bad, .bad, .bad, .bad, .bad, .d (.sl 6 rowP), .bad, .bad, .bad, .bad, .bad, .d (bo true)]++Zap 168 .bad
def tm14:List AV:= [.d (bo true)]++Zap 184 .bad
abbrev Qz5:= [HalfS.mk (7:Int) (300:Int) (300425718:Int) (22:Int) false (0:Int)]
abbrev Qz9:=Zal::Zaf (Zbc 6 rowL)::bds 8 (Zaf (Zbc 6 rowP)::bds 5 (Zaf (bo true)::bds 168 []))
abbrev Qz16:= [i64 7,i64 300,i64 300425718,i64 22,bo false,i64 0]
abbrev Qz17:=Zal::Zaf (Zbc 6 rowL)::bds 8 (Zaf (Zbc 6 rowP)::bds 5 (Zaf (bo false)::bds 168 []))
theorem r12_nf (HV:HVt) (EX:EXt) (TO:TOt) (bw:Blk):wpc Tryd.prog ⟨THd HV EX TO, [],wl,y,false⟩ 100 rg12 tm12 [bw] b (maskT [1,10,16] K)=(∃(x0:Int) (x1:Int) (x2:Int) (x3:Int) (b4:Bool) (x5:Int),some Qz16=some (Qz19 x0 x1 x2 x3 b4 x5)∧BIf (x0==(7:Int)) (∃(x6:Int) (x7:Int) (x8:Int) (x9:Int) (b10:Bool) (x11:Int),some Qz16=some (Qz19 x6 x7 x8 x9 b10 x11)∧BIf (x7==(300:Int)) (∃(x12:Int) (x13:Int) (x14:Int) (x15:Int) (b16:Bool) (x17:Int),some Qz16=some (Qz19 x12 x13 x14 x15 b16 x17)∧BIf (x15==(22:Int)) (∃(x18:Int) (x19:Int) (x20:Int) (x21:Int) (b22:Bool) (x23:Int),some Qz16=some (Qz19 x18 x19 x20 x21 b22 x23)∧BIf (!b22) (Small 1∧IsH Qz5 Qz5∧K .normal Qz9 [bw] b) (K .normal Qz17 [bw] b)) (K .normal Qz17 [bw] b)) (K .normal Qz17 [bw] b)) (K .normal Qz17 [bw] b)):=by kernel_rfl
abbrev Qz13:= [HalfS.mk (7:Int) (300:Int) (300425718:Int) (22:Int) true (1000007:Int)]
abbrev Qz23:= [i64 7,i64 300,i64 300425718,i64 22,bo true,i64 1000007]
theorem r13_nf (HV:HVt) (EX:EXt) (TO:TOt) (bw:Blk):wpc Tryd.prog ⟨THd HV EX TO, [],wl,y,false⟩ 100 rg13 tm13 [bw] b (maskT [0] K)=(∃(x0:Int) (x1:Int) (x2:Int) (x3:Int) (b4:Bool) (x5:Int),some Qz23=some (Qz19 x0 x1 x2 x3 b4 x5)∧BIf b4 (∃(x6:Int) (x7:Int) (x8:Int) (x9:Int) (b10:Bool) (x11:Int),some Qz23=some (Qz19 x6 x7 x8 x9 b10 x11)∧BIf (x11==(1000007:Int)) (Small 1∧IsW (TO Qz5 (2:Int) (2:Int) false) [WordS.mk (2:Int) (7:Int) (2:Int) (300:Int) (300425718:Int) (0:Int) (0:Int) (0:Int)]∧Small 1∧IsW (TO Qz5 (2:Int) (3:Int) true) (proofT Qz5)∧Small 1∧IsW (TO Qz13 (2:Int) (3:Int) true) (proofT Qz13)∧Small 1∧IsH (EX Qz13 (22:Int)) (if true=true then Qz13 else [])∧Small 1∧IsH (EX Qz13 (23:Int)) (if false=true then Qz13 else [])∧K .normal (Zaf (bo true)::bds 184 []) [bw] b) (K .normal (Zaf (bo false)::bds 184 []) [bw] b)) (K .normal (Zaf (bo false)::bds 184 []) [bw] b)):=by kernel_rfl
def wlHd {β:Type}:WLT β:=fun c tm hp b K=>match cidO c with
 |13=>∃bw,c=rg12∧maskTm [1,3,4,6,8,10,11,13,15] 0 tm=tm12∧hp= [bw]∧K .normal tm13 [bw] b
 |14=>∃bw,c=rg13∧maskTm [1,10,16] 0 tm=tm13∧hp= [bw]∧K .normal tm14 [bw] b
 |_=>False
theorem wlHd_ok {Ev:Env Tryd.prog} (c:Code) (tm:List AV) (hp:List Blk) (b:Ev.β) (K:Exit→List AV→List Blk→Ev.β→Prop) (h:wlHd c tm hp b K):W Ev c ⟨tm,hp,b⟩ (fun e s=>K e s.tm s.hp s.b):=by
 have key:∀ {c:Code} {tm0 tm1:List AV} {bw:Blk} {keep:List Nat},(∀K':Exit→List AV→List Blk→Ev.β→Prop,K' .normal tm1 [bw] b→wpc Tryd.prog ⟨THd hearV expireS toldS, [],wlW Ev,Ev.Y,false⟩ 100 c tm0 [bw] b (maskT keep K'))→
     K .normal tm1 [bw] b→W Ev c ⟨tm0, [bw],b⟩ (fun e s=>K e s.tm s.hp s.b):=fun hr hk=>
   W.castPost (wpc_sound mixed (CX.Ok.of THd_ok Zao) (hr (fun e tm hp b'=>K e tm hp b') hk) fun e tm hp b hK=>⟨_,hp,maskTm_le _ tm 0,Zdj _,hK⟩)
 unfold wlHd at h
 split at h
 · obtain ⟨bw,rfl,htm,rfl,hK⟩:=h
   refine W.cast (htm▸maskTm_le _ tm 0) (Zdj _) (key (keep:= [1,10,16]) (fun K' hk=> ?_) hK)
   rw [r12_nf _ _ _ K' hearV expireS toldS bw]
   repeat (first
     |exact hk
     |refine ⟨⟨by kernel_rfl⟩, ?_⟩
     |refine ⟨⟨by decide⟩, ?_⟩
     |refine ⟨_,_,_,_,_,_,rfl, ?_⟩
     |refine Zcp (by decide) ?_
     |refine BIf.f (by decide) ?_)
 · obtain ⟨bw,rfl,htm,rfl,hK⟩:=h
   refine W.cast (htm▸maskTm_le _ tm 0) (Zdj _) (key (keep:= [0]) (fun K' hk=> ?_) hK)
   rw [r13_nf _ _ _ K' hearV expireS toldS bw]
   repeat (first
     |exact hk
     |refine ⟨⟨by kernel_rfl⟩, ?_⟩
     |refine ⟨⟨by decide⟩, ?_⟩
     |refine ⟨_,_,_,_,_,_,rfl, ?_⟩
     |refine Zcp (by decide) ?_
     |refine BIf.f (by decide) ?_)
 · exact h.elim
def THm (HV:HVt) (EX:EXt) (TO:TOt):List (Nat×(List AV→(AV→Prop)→Prop)):= [(27,hAskL),(11,hHear HV),(4000012,cNone),(4000013,cNone)]
theorem THm_ok:CallsOk Tryd.prog (THm hearV expireS toldS):=Zam hAskL_ok (Zam hHear_ok (Zam cNone_ok (Zam cNone_ok Zas)))
abbrev Qz10:=Zal::Zaf (Zbc 6 rowL)::Zal::Zaf (Zbc 6 rowL)::Zaf (i64 0)::Zal::Zaf (i64 14)::Zal::Zaf (i64 10)::Zal::Zaf (Zbc 6 rowP)::Zaf (i64 0)::Zal::Zaf (i64 4)::Zal::Zaf (i64 1)::bds 169 []
theorem head_nf (HV:HVt) (EX:EXt) (TO:TOt):wpFn Tryd.prog ⟨THm HV EX TO, [],wlHd,y,false⟩ 100 Tryd.f10 [] b R=(Small 0∧IsP (HV [] (2:Int) (WordS.mk (1:Int) (7:Int) (2:Int) (300:Int) (0:Int) (0:Int) (0:Int) (0:Int)) (10:Int)) (Qz5,(0:Int))∧Small 1∧IsP (HV Qz5 (2:Int) (WordS.mk (1:Int) (7:Int) (2:Int) (300:Int) (0:Int) (0:Int) (0:Int) (0:Int)) (15:Int)) (Qz5,(0:Int))∧Small 1∧IsP (HV Qz5 (2:Int) (WordS.mk (1:Int) (7:Int) (2:Int) (299:Int) (0:Int) (0:Int) (0:Int) (0:Int)) (15:Int)) ([],(14:Int))∧Small 4∧IsP (HV [HalfS.mk (0:Int) (0:Int) (0:Int) (0:Int) false (0:Int),HalfS.mk (1:Int) (0:Int) (0:Int) (0:Int) false (0:Int),HalfS.mk (3:Int) (0:Int) (0:Int) (0:Int) false (0:Int),HalfS.mk (4:Int) (0:Int) (0:Int) (0:Int) false (0:Int)] (2:Int) (WordS.mk (1:Int) (7:Int) (2:Int) (300:Int) (0:Int) (0:Int) (0:Int) (0:Int)) (10:Int)) ([],(10:Int))∧∃(x0:Int) (x1:Int) (x2:Int) (x3:Int) (b4:Bool) (x5:Int),some Qz16=some (Qz19 x0 x1 x2 x3 b4 x5)∧BIf (decide (WordS.ch (WordS.mk (3:Int) (7:Int) (2:Int) (300:Int) x2 (1000007:Int) (0:Int) (0:Int))=(300425718:Int))) (Small 1∧IsP (HV Qz5 (2:Int) (WordS.mk (3:Int) (7:Int) (2:Int) (300:Int) x2 (1000007:Int) (0:Int) (0:Int)) (12:Int)) (Qz13,(0:Int))∧∃(x6:Int) (x7:Int) (x8:Int) (x9:Int) (b10:Bool) (x11:Int),some Qz16=some (Qz19 x6 x7 x8 x9 b10 x11)∧BIf (decide (WordS.ch (WordS.mk (3:Int) (7:Int) (2:Int) (300:Int) (Zdn (Zad .i64 (x8+1)) (1000000000:Int)) (1000007:Int) (0:Int) (0:Int))=(300425718:Int))) (Small 1∧IsP (HV Qz5 (2:Int) (WordS.mk (3:Int) (7:Int) (2:Int) (300:Int) (Zdn (Zad .i64 (x8+1)) (1000000000:Int)) (1000007:Int) (0:Int) (0:Int)) (12:Int)) (Qz13,(0:Int))∧Small 1∧IsP (HV Qz5 (3:Int) (WordS.mk (3:Int) (7:Int) (2:Int) (300:Int) (Zdn (Zad .i64 (x8+1)) (1000000000:Int)) (1000007:Int) (0:Int) (0:Int)) (12:Int)) ([],(1:Int))∧∃(bw12:Blk),rg12=rg12∧(Zal::Zaf (Zbc 6 (rowsH Qz5))::Zal::Zaf (Zbc 6 (rowsH Qz5))::Zaf (i64 0)::Zal::Zaf (i64 14)::Zal::Zaf (i64 10)::Zal::Zaf (Zbc 6 [Qz23])::Zaf (i64 0)::Zal::Zaf (i64 0)::Zal::Zaf (i64 1)::bds 169 [])=Qz10∧ [Blk.mk [Zaf (i64 3),Zaf (i64 7),Zaf (i64 2),Zaf (i64 300),Zaf (i64 (Zdn (Zad .i64 (x8+1)) (1000000000:Int))),Zaf (i64 1000007),Zaf (i64 0),Zaf (i64 0)] false false 0]= [bw12]∧∃(bw13:Blk),rg13=rg13∧Qz9=Qz9∧ [bw12]= [bw13]∧R (.d (bo true)) b) (Small 1∧IsP (HV Qz5 (2:Int) (WordS.mk (3:Int) (7:Int) (2:Int) (300:Int) (Zdn (Zad .i64 (x8+1)) (1000000000:Int)) (1000007:Int) (0:Int) (0:Int)) (12:Int)) ([],(4:Int))∧Small 1∧IsP (HV Qz5 (3:Int) (WordS.mk (3:Int) (7:Int) (2:Int) (300:Int) (Zdn (Zad .i64 (x8+1)) (1000000000:Int)) (1000007:Int) (0:Int) (0:Int)) (12:Int)) ([],(1:Int))∧∃(bw14:Blk),rg12=rg12∧(Zal::Zaf (Zbc 6 (rowsH Qz5))::Zal::Zaf (Zbc 6 (rowsH Qz5))::Zaf (i64 0)::Zal::Zaf (i64 14)::Zal::Zaf (i64 10)::Zal::Zaf (Zbc 6 [Qz23])::Zaf (i64 0)::Zal::Zaf (i64 4)::Zal::Zaf (i64 1)::bds 169 [])=Qz10∧ [Blk.mk [Zaf (i64 3),Zaf (i64 7),Zaf (i64 2),Zaf (i64 300),Zaf (i64 (Zdn (Zad .i64 (x8+1)) (1000000000:Int))),Zaf (i64 1000007),Zaf (i64 0),Zaf (i64 0)] false false 0]= [bw14]∧∃(bw15:Blk),rg13=rg13∧Qz9=Qz9∧ [bw14]= [bw15]∧R (.d (bo true)) b)) (Small 1∧IsP (HV Qz5 (2:Int) (WordS.mk (3:Int) (7:Int) (2:Int) (300:Int) x2 (1000007:Int) (0:Int) (0:Int)) (12:Int)) ([],(4:Int))∧∃(x16:Int) (x17:Int) (x18:Int) (x19:Int) (b20:Bool) (x21:Int),some Qz16=some (Qz19 x16 x17 x18 x19 b20 x21)∧BIf (decide (WordS.ch (WordS.mk (3:Int) (7:Int) (2:Int) (300:Int) (Zdn (Zad .i64 (x18+1)) (1000000000:Int)) (1000007:Int) (0:Int) (0:Int))=(300425718:Int))) (Small 1∧IsP (HV Qz5 (2:Int) (WordS.mk (3:Int) (7:Int) (2:Int) (300:Int) (Zdn (Zad .i64 (x18+1)) (1000000000:Int)) (1000007:Int) (0:Int) (0:Int)) (12:Int)) (Qz13,(0:Int))∧Small 1∧IsP (HV Qz5 (3:Int) (WordS.mk (3:Int) (7:Int) (2:Int) (300:Int) (Zdn (Zad .i64 (x18+1)) (1000000000:Int)) (1000007:Int) (0:Int) (0:Int)) (12:Int)) ([],(1:Int))∧∃(bw22:Blk),rg12=rg12∧(Zal::Zaf (Zbc 6 (rowsH Qz5))::Zal::Zaf (Zbc 6 (rowsH Qz5))::Zaf (i64 0)::Zal::Zaf (i64 14)::Zal::Zaf (i64 10)::Zal::Zaf (Zbc 6 [])::Zaf (i64 4)::Zal::Zaf (i64 0)::Zal::Zaf (i64 1)::bds 169 [])=Qz10∧ [Blk.mk [Zaf (i64 3),Zaf (i64 7),Zaf (i64 2),Zaf (i64 300),Zaf (i64 (Zdn (Zad .i64 (x18+1)) (1000000000:Int))),Zaf (i64 1000007),Zaf (i64 0),Zaf (i64 0)] false false 0]= [bw22]∧∃(bw23:Blk),rg13=rg13∧Qz9=Qz9∧ [bw22]= [bw23]∧R (.d (bo true)) b) (Small 1∧IsP (HV Qz5 (2:Int) (WordS.mk (3:Int) (7:Int) (2:Int) (300:Int) (Zdn (Zad .i64 (x18+1)) (1000000000:Int)) (1000007:Int) (0:Int) (0:Int)) (12:Int)) ([],(4:Int))∧Small 1∧IsP (HV Qz5 (3:Int) (WordS.mk (3:Int) (7:Int) (2:Int) (300:Int) (Zdn (Zad .i64 (x18+1)) (1000000000:Int)) (1000007:Int) (0:Int) (0:Int)) (12:Int)) ([],(1:Int))∧∃(bw24:Blk),rg12=rg12∧(Zal::Zaf (Zbc 6 (rowsH Qz5))::Zal::Zaf (Zbc 6 (rowsH Qz5))::Zaf (i64 0)::Zal::Zaf (i64 14)::Zal::Zaf (i64 10)::Zal::Zaf (Zbc 6 [])::Zaf (i64 4)::Zal::Zaf (i64 4)::Zal::Zaf (i64 1)::bds 169 [])=Qz10∧ [Blk.mk [Zaf (i64 3),Zaf (i64 7),Zaf (i64 2),Zaf (i64 300),Zaf (i64 (Zdn (Zad .i64 (x18+1)) (1000000000:Int))),Zaf (i64 1000007),Zaf (i64 0),Zaf (i64 0)] false false 0]= [bw24]∧∃(bw25:Blk),rg13=rg13∧Qz9=Qz9∧ [bw24]= [bw25]∧R (.d (bo true)) b))):=by kernel_rfl
theorem pcHead:PCall Tryd.prog 10 [] (.d (bo true)):=by
 refine PCall.ofFnW (n:=100) (u:=false) (fun _=>wlHd) mixed THm_ok Zao (fun Ev=>wlHd_ok) Tryd.func10 (by rfl) (by rfl) fun Ev bb=> ?_
 rw [head_nf _ _ _ hearV expireS toldS]
 repeat (first
   |exact rfl
   |refine ⟨⟨by kernel_rfl⟩, ?_⟩
   |refine ⟨⟨by decide⟩, ?_⟩
   |refine ⟨_,_,_,_,_,_,rfl, ?_⟩
   |refine Zcp (by decide) ?_
   |refine BIf.f (by decide) ?_
   |refine ⟨_,rfl,rfl,rfl, ?_⟩)
def cHead (args:List AV) (K:AV→Prop):Prop:=args= []∧K (.d (bo true))
theorem cHead_ok:∀args K,cHead args K→∃x,PCall Tryd.prog 10 args x∧K x:=by
 rintro _ K ⟨rfl,hk⟩;exact ⟨_,pcHead,hk⟩
set_option maxRecDepth 20000
theorem nodeN_iff (me:Int):nodeN me=true↔0≤me∧me≤59:=by simp [nodeN,inN]
theorem okTr_iff (v:Bool) (me:Int):okTr v me=true↔v=true∧0≤me∧me≤59:=by simp [okTr]
theorem told_eq (hs:List HalfS) (me kd:Int) (pr:Bool) (hk:kd=if pr=true then 3 else 2):toldS hs me kd pr=kindS (tellR hs me) kd:=by
 unfold toldS tellR tellS
 cases hv:validH hs with
 |false=>simp [okTr,kindS]
 | true=>
   by_cases hn:nodeN me=true
   · have ho:okTr true me=true:=(okTr_iff _ _).2 ⟨rfl,(nodeN_iff me).1 hn⟩
     rw [if_neg (by decide),if_neg (by rw [hn];decide),if_pos ho]
     have hall:∀x∈hs,halfOk x=true:=fun x hx=>valid_mem hv hx
     clear hv
     induction hs with
     |nil=>rfl
     | cons h r ih=>
       have ih:=ih fun x hx=>hall x (List.mem_cons_of_mem _ hx)
       have hh:=hall h (by simp)
       simp only [toldW,kindS,List.map_cons,List.flatMap_cons] at ih ⊢
       rw [ih]
       congr 1
       simp only [halfOk,Zag,Bool.or_eq_true,beq_iff_eq] at hh
       cases hp:h.pr<;>cases pr<;>simp [stepTo,stepKi,tellW,wordOf,hp,hk]<;>simp_all
   · have hn':¬okTr true me=true:=fun h=>hn ((nodeN_iff me).2 ((okTr_iff _ _).1 h).2)
     rw [if_neg (by decide),if_pos (by simpa using hn),if_neg hn'];rfl
theorem valid_of {hs:List HalfS} (h1:∀x∈hs,halfOk x=true) (h2:SortH hs) (h3:hs.length≤4):validH hs=true:=by
 simp only [validH,Zag,Bool.not_eq_true',List.any_eq_false,List.mem_range,decide_eq_true_eq]
 refine ⟨fun i hi=> ?_,h3⟩
 have e:nthH hs i=hs[i]:=by simp [nthH,hi]
 have hok:halfOk (nthH hs i)=true:=by rw [e];exact h1 _ (List.getElem_mem hi)
 simp only [badAt,hok,Bool.not_true,Bool.false_or,Zag,decide_eq_true_eq,not_and]
 intro hi0
 have e':nthH hs (i - 1)=hs[i - 1]:=by simp [nthH,show i - 1<hs.length by omega]
 rw [e,e']
 have:=(List.pairwise_iff_getElem.1 h2) (i - 1) i (by omega) hi (by omega)
 omega
theorem filter_len {k:Int}:∀ {hs:List HalfS},SortH hs→hasH k hs=true→(hs.filter fun x=> !(x.st==k)).length+1=hs.length
 | [],_,h=>by cases h
 | y::r,hs,h=>by
   obtain ⟨hy,hr⟩:=List.pairwise_cons.1 hs
   rw [hasH_cons] at h
   by_cases hk:y.st=k
   · have e:r.filter (fun x=> !(x.st==k))=r:=List.filter_eq_self.2 fun x hx=>by have:=hy x hx;simp;omega
     rw [List.filter_cons_of_neg (by simp [hk]),e];rfl
   · have hh:hasH k r=true:=by simpa [hk] using h
     rw [List.filter_cons_of_pos (by simp [hk]),List.length_cons,filter_len hr hh];rfl
theorem putH_len_has {h:HalfS} {hs:List HalfS} (hs1:SortH hs) (hh:hasH h.st hs=true):(putH h hs).length=hs.length:=by
 rw [putH,insH_len,filter_len hs1 hh]
theorem below_range (x:Int):0≤belowS x 1000000000∧belowS x 1000000000<1000000000:=by
 have h:=firstS_range x
 rw [belowS,if_neg (by decide),if_neg (by decide)]
 rw [Int.tmod_eq_emod_of_nonneg h.1]
 omega
theorem formed_facts {w:WordS} (h:formedW w=true):0≤w.st∧w.st<60∧0≤w.sp∧w.sp<60∧w.st≠w.sp∧0≤w.no∧w.no≤1000000000∧0≤w.ch∧w.ch≤1000000000∧1≤w.ki∧w.ki≤4:=by
 simp only [formedW,Zag,nodeJ,decide_eq_true_eq,bne_iff_ne,ne_eq] at h
 obtain ⟨⟨h1,h2⟩,⟨h3,h4⟩,h5,h6,h7,h8,h9⟩:=h
 refine ⟨h1,h2,h3,h4,h5, ?_, ?_, ?_, ?_,h8,h9⟩
 all_goals
   split at h6<;>split at h7<;>omega
theorem formed_of {w:WordS} (h:0≤w.st∧w.st<60∧0≤w.sp∧w.sp<60∧w.st≠w.sp∧0≤w.no∧w.no≤1000000000∧0≤w.ch∧w.ch≤1000000000∧1≤w.ki∧w.ki≤4):formedW w=true:=by
 simp only [formedW,Zag,nodeJ,decide_eq_true_eq,bne_iff_ne,ne_eq]
 refine ⟨⟨by omega,by omega⟩,⟨by omega,by omega⟩,by omega, ?_, ?_,by omega,by omega⟩
 all_goals split<;>omega
theorem fresh_un {fr:Int} (w:WordS) (h:0≤fr∧fr≤999999988):(freshS fr w).un=fr+12:=by
 show Zad Zbj (fr+12)=fr+12
 rw [wrap_i64 (by omega) (by omega)]
theorem fresh_ok {fr:Int} {w:WordS} (hf:formedW w=true) (h:0≤fr∧fr≤999999988):halfOk (freshS fr w)=true:=by
 have hc:=below_range (Zad Zch (Zad Zch (1000003*Zad Zch (Zad Zch (1000003*Zad Zch (Zad Zbj (Zad Zbj (64*w.sp)+w.st)))+Zad Zch w.no))+Zad Zch fr))
 have hu:=fresh_un w h
 have hw:=formed_facts hf
 have hc':0≤(freshS fr w).ch∧(freshS fr w).ch<1000000000:=hc
 have e1:(freshS fr w).st=w.st:=rfl
 have e2:(freshS fr w).no=w.no:=rfl
 have e3:(freshS fr w).ke=0:=rfl
 simp only [halfOk,nodeN,inN,Zag,Bool.or_eq_true,decide_eq_true_eq,beq_iff_eq,e1,e2,e3,hu,or_true,and_true]
 omega
structure Heard (hs:List HalfS) (me:Int) (w:WordS) (fr:Int) (m:List HalfS):Prop where
 valid:validH hs=true
 formed:formedW w=true
 sp:w.sp=me
 ke:0≤w.ke∧w.ke≤2000000
 frb:0≤fr∧fr≤999999988
 how:(w.ki=1∧hasH w.st hs=true∧(getH w.st hs).no=w.no∧m=hs)∨(w.ki=1∧hasH w.st hs=true∧(getH w.st hs).no<w.no∧m=putH (freshS fr w) hs)∨
   (w.ki=1∧hasH w.st hs=false∧hs.length<4∧m=putH (freshS fr w) hs)∨
   (w.ki=3∧hasH w.st hs=true∧(getH w.st hs).no=w.no∧(getH w.st hs).ch=w.ch∧m=putH ⟨(getH w.st hs).st,(getH w.st hs).no,(getH w.st hs).ch,(getH w.st hs).un,true,w.ke⟩ hs)
theorem hear_ok {hs:List HalfS} {me:Int} {w:WordS} {fr:Int} (h:(hearV hs me w fr).2=0):Heard hs me w fr (hearV hs me w fr).1:=by
 generalize hq:hearV hs me w fr=q at h ⊢
 unfold hearV at hq
 split at hq
 · subst hq;simp at h
 rename_i h1
 split at hq
 · subst hq;simp at h
 rename_i h2
 split at hq
 · subst hq;simp at h
 rename_i h3
 split at hq
 · subst hq;simp at h
 rename_i h4
 split at hq
 · subst hq;simp at h
 rename_i h5
 have hv:validH hs=true:=by simpa using h1
 have hf:formedW w=true:=by rw [←isWord_eq];simpa using h2
 refine ⟨hv,hf,by simpa using h3,by simpa [inN] using h4,by simpa [inN] using h5, ?_⟩
 unfold handV at hq
 split at hq
 · rename_i k1
   split at hq
   · subst hq;simp at h
   rename_i k2
   have hk:w.ki=3:=by simp at k2;omega
   split at hq
   · rename_i p1
     subst hq
     simp only at h
     rw [h] at p1;simp at p1
   · rename_i p1
     subst hq
     have p1:(provedS hs w).1=0:=by simpa using p1
     refine .inr (.inr (.inr ?_))
     unfold provedS at p1 ⊢
     simp only at p1 ⊢
     split at p1
     · rename_i z1
       rw [if_pos z1]
       split at p1
       · cases p1
       rename_i z2
       rw [if_neg z2]
       split at p1
       · cases p1
       rename_i z3
       rw [if_neg z3]
       exact ⟨hk,z1,by simpa using z2,by simpa using z3,rfl⟩
     · cases p1
 · rename_i k1
   have hk:w.ki=1:=by simp at k1;omega
   split at hq
   · rename_i p1
     subst hq
     simp only at h
     rw [h] at p1;simp at p1
   · rename_i p1
     subst hq
     have p1:(askedS hs fr w).1=0:=by simpa using p1
     unfold askedS at p1 ⊢
     split at p1
     · rename_i z1
       rw [if_pos z1]
       split at p1
       · cases p1
       rename_i z2
       rw [if_neg z2]
       split at p1
       · rename_i z3
         rw [if_pos z3]
         exact .inl ⟨hk,z1,by simpa using z3,rfl⟩
       · rename_i z3
         rw [if_neg z3]
         have z3:¬(getH w.st hs).no=w.no:=by simpa using z3
         exact .inr (.inl ⟨hk,z1,by omega,rfl⟩)
     · rename_i z1
       rw [if_neg z1]
       split at p1
       · cases p1
       rename_i z2
       rw [if_neg z2]
       have:=valid_len hv
       exact .inr (.inr (.inl ⟨hk,by simpa using z1,by simp at z2;omega,rfl⟩))
theorem toldS_len (hs:List HalfS) (me kd:Int) (pr:Bool):(toldS hs me kd pr).length≤hs.length:=by
 have key:∀l:List HalfS,(toldW l me kd pr).length≤l.length:=by
   intro l
   induction l with
   |nil=>exact Nat.le_refl _
   | cons h r ih=>
     have:=stepTo_len me kd pr h
     simp only [toldW,List.flatMap_cons,List.length_append,List.length_cons] at ih ⊢
     omega
 unfold toldS
 repeat' split
 all_goals first|exact Nat.zero_le _|exact key _
theorem heard_sort {hs m:List HalfS} {me:Int} {w:WordS} {fr:Int} (h:Heard hs me w fr m):SortH m:=by
 have hso:=valid_sort h.valid
 rcases h.how with ⟨_,_,_,rfl⟩|⟨_,_,_,rfl⟩|⟨_,_,_,rfl⟩|⟨_,hh,_,_,rfl⟩
 · exact hso
 all_goals exact putH_sort hso
theorem getH_mem {k:Int} {hs:List HalfS} (h:hasH k hs=true):getH k hs∈hs:=by
 induction hs with
 |nil=>cases h
 | cons y r ih=>
   rw [getH_cons]
   split
   · exact List.mem_cons_self ..
   · rename_i hn
     rw [hasH_cons] at h
     have:hasH k r=true:=by simpa [hn] using h
     exact List.mem_cons_of_mem _ (ih this)
theorem proof_ok {h:HalfS} {k:Int} (hh:halfOk h=true) (hk:0≤k∧k≤2000000):halfOk ⟨h.st,h.no,h.ch,h.un,true,k⟩=true:=by
 simp only [halfOk,nodeN,inN,Zag,Bool.or_eq_true,decide_eq_true_eq,true_or,and_true] at hh ⊢
 omega
theorem heard_valid {hs m:List HalfS} {me:Int} {w:WordS} {fr:Int} (h:Heard hs me w fr m):validH m=true:=by
 have hso:=valid_sort h.valid
 have hl:=valid_len h.valid
 have hall:∀x∈hs,halfOk x=true:=fun x hx=>valid_mem h.valid hx
 refine valid_of ?_ (heard_sort h) ?_
 · intro x hx
   rcases h.how with ⟨_,_,_,rfl⟩|⟨_,_,_,rfl⟩|⟨_,_,_,rfl⟩|⟨_,hh,_,_,rfl⟩
   · exact hall x hx
   · rcases mem_putH.1 hx with rfl|⟨hx,_⟩
     · exact fresh_ok h.formed h.frb
     · exact hall x hx
   · rcases mem_putH.1 hx with rfl|⟨hx,_⟩
     · exact fresh_ok h.formed h.frb
     · exact hall x hx
   · rcases mem_putH.1 hx with rfl|⟨hx,_⟩
     · exact proof_ok (hall _ (getH_mem hh)) h.ke
     · exact hall x hx
 · rcases h.how with ⟨_,_,_,rfl⟩|⟨_,hh,_,rfl⟩|⟨_,_,hlt,rfl⟩|⟨_,hh,_,_,rfl⟩
   · exact hl
   · rw [putH_len_has hso hh];exact hl
   · have:=putH_len (freshS fr w) hs;omega
   · rw [putH_len_has hso (by rw [getH_st hh];exact hh)];exact hl
theorem hearV_hand {hs:List HalfS} {me:Int} {w:WordS} {fr:Int} (h1:validH hs=true) (h2:formedW w=true) (h3:w.sp=me) (h4:0≤w.ke∧w.ke≤2000000) (h5:0≤fr∧fr≤999999988):hearV hs me w fr=handV hs w fr:=by
 rw [hearV,if_neg (by rw [h1];decide),if_neg (by rw [isWord_eq,h2];decide),if_neg (by simp [h3]),if_neg (by simp [inN];omega),if_neg (by simp [inN];omega)]
def TalkB (m:List HalfS) (j:JoinS) (st me fr no:Int) (q:WordS):Prop:=
 q.st=st→(judgeS q 3 5).2=0∧(judgeS q 3 5).1.ki=4∧(judgeS q 3 5).1.no=no∧(judgeS q 3 5).1.st=st
structure TalkA (m:List HalfS) (j:JoinS) (st me fr no:Int) (t:WordS):Prop where
 counts:(jHearV j st t fr).2.2=true
 heard:(hearV m me (jHearV j st t fr).2.1 fr).2=0
 some:∃q∈toldS (hearV m me (jHearV j st t fr).2.1 fr).1 me 3 true,q.st=st
 all:∀q∈toldS (hearV m me (jHearV j st t fr).2.1 fr).1 me 3 true,TalkB m j st me fr no q
 len:(hearV m me (jHearV j st t fr).2.1 fr).1.length≤4
theorem toldV {hs:List HalfS} {me:Int} (hv:validH hs=true) (hn:nodeN me=true) (kd:Int) (pr:Bool):toldS hs me kd pr=toldW hs me kd pr:=by
 rw [toldS,if_neg (by rw [hv];decide),if_neg (by rw [hn];decide)]
theorem mem_toldW {hs:List HalfS} {me kd:Int} {pr:Bool} {t:WordS}:t∈toldW hs me kd pr↔∃x∈hs,x.pr=pr∧t=wordOf me kd x:=by
 simp only [toldW,List.mem_flatMap,stepTo]
 constructor
 · rintro ⟨x,hx,h⟩
   split at h
   · rename_i e;exact ⟨x,hx,by simpa using e,by simpa using h⟩
   · cases h
 · rintro ⟨x,hx,rfl,rfl⟩;exact ⟨x,hx,by simp⟩
theorem jask_ok {tries st boot me fr:Int} (h:(jAskV ⟨0, -1,0,0,tries⟩ st boot me fr).2.2=0):∃no tr,0≤no∧no≤1000000000∧0≤tr∧tr≤255∧0≤st∧st<60∧0≤me∧me<60∧st≠me∧0≤fr∧fr≤1000000000∧
   (jAskV ⟨0, -1,0,0,tries⟩ st boot me fr).1=⟨1,me,no,fr,tr⟩∧(jAskV ⟨0, -1,0,0,tries⟩ st boot me fr).2.1=⟨1,st,me,no,0,0,0,0⟩:=by
 generalize hq:jAskV ⟨0, -1,0,0,tries⟩ st boot me fr=q at h ⊢
 unfold jAskV at hq
 repeat' (split at hq; · subst hq;simp at h)
 subst hq
 rename_i h1 h2 h3 h4 h5 h6 h7 h8 h9 h10
 simp only [jvalidB,nodeJ,Bool.not_eq_true',Bool.and_eq_false_iff,decide_eq_false_iff_not,not_or,Decidable.not_not,beq_iff_eq,bne_iff_ne,ne_eq,Zag,decide_eq_true_eq,not_and,Bool.not_eq_false] at h1 h2 h3 h4 h9 h10
 have ht:0≤tries∧tries≤254:=by omega
 have e1:askTr ⟨0, -1,0,0,tries⟩=tries+1:=wrap_i64 (by simp only;omega) (by simp only;omega)
 have e0:Zad Zbj (256*boot)=256*boot:=wrap_i64 (by omega) (by omega)
 have e2:askNo ⟨0, -1,0,0,tries⟩ boot=256*boot+(tries+1):=by
   rw [askNo,e0,e1];exact wrap_i64 (by omega) (by omega)
 exact ⟨askNo ⟨0, -1,0,0,tries⟩ boot,askTr ⟨0, -1,0,0,tries⟩,by omega,by omega,by omega,by omega,by omega,by omega,by omega,by omega,by omega,by omega,by omega,rfl,rfl⟩
theorem talk {hs:List HalfS} {st me fr no tr:Int} (hv:validH hs=true) (hl:hs.length<4) (hn:hasH st hs=false) (hf:0≤fr∧fr≤999999988) (h1:0≤no∧no≤1000000000) (h2:0≤tr∧tr≤255) (h3:0≤st∧st<60) (h4:0≤me∧me<60) (h5:st≠me):
   (hearV hs me ⟨1,st,me,no,0,0,0,0⟩ fr).2=0∧validH (hearV hs me ⟨1,st,me,no,0,0,0,0⟩ fr).1=true∧
   (∃t∈toldS (hearV hs me ⟨1,st,me,no,0,0,0,0⟩ fr).1 me 2 false,t.st=st)∧
   ∀t∈toldS (hearV hs me ⟨1,st,me,no,0,0,0,0⟩ fr).1 me 2 false,t.st=st→TalkA (hearV hs me ⟨1,st,me,no,0,0,0,0⟩ fr).1 ⟨1,me,no,fr,tr⟩ st me fr no t:=by
 have hw:formedW ⟨1,st,me,no,0,0,0,0⟩=true:=formed_of (by simp only;omega)
 have hso:=valid_sort hv
 have hme:nodeN me=true:=(nodeN_iff me).2 (by omega)
 have e:hearV hs me ⟨1,st,me,no,0,0,0,0⟩ fr=(putH (freshS fr ⟨1,st,me,no,0,0,0,0⟩) hs,0):=by
   rw [hearV_hand hv hw rfl (by simp only;omega) hf]
   have ha:askedS hs fr ⟨1,st,me,no,0,0,0,0⟩=(0,putH (freshS fr ⟨1,st,me,no,0,0,0,0⟩) hs):=by
     rw [askedS,if_neg (by rw [hn];decide),if_neg (by simp;omega)]
   rw [handV,if_neg (by simp),ha];rfl
 have hm:=heard_valid (hear_ok (hs:=hs) (me:=me) (w:=⟨1,st,me,no,0,0,0,0⟩) (fr:=fr) (by rw [e]))
 have hh:=formed_facts hw
 have hc:=valid_mem hm (x:=freshS fr ⟨1,st,me,no,0,0,0,0⟩) (by rw [e];exact mem_putH.2 (.inl rfl))
 rw [e] at hm ⊢
 simp only at hm ⊢
 generalize hx:freshS fr ⟨1,st,me,no,0,0,0,0⟩=x at*
 have x1:x.st=st:=by rw [←hx];rfl
 have x2:x.no=no:=by rw [←hx];rfl
 have x3:x.pr=false:=by rw [←hx];rfl
 have x4:x.ke=0:=by rw [←hx];rfl
 have hmso:=valid_sort hm
 have uniq:∀y∈putH x hs,y.st=st→y=x:=fun y hy hys=>by
   rcases mem_putH.1 hy with rfl|⟨_,hne⟩
   · rfl
   · exact absurd (hys.trans x1.symm) hne
 have hxin:x∈putH x hs:=mem_putH.2 (.inl rfl)
 refine ⟨trivial,hm, ?_, ?_⟩
 · rw [toldV hm hme]
   exact ⟨_,mem_toldW.2 ⟨x,hxin,x3,rfl⟩,x1⟩
 intro t ht hst
 rw [toldV hm hme] at ht
 obtain ⟨y,hy,_,rfl⟩:=mem_toldW.1 ht
 obtain rfl:=uniq y hy hst
 simp only [halfOk,inN,Zag,decide_eq_true_eq] at hc
 have hch:0≤y.ch∧y.ch≤1000000000:=hc.2.2.1
 have hnj:nodeJ st=true:=by simp [nodeJ];omega
 have ejh:jHearV ⟨1,me,no,fr,tr⟩ st (wordOf me 2 y) fr=(⟨2,me,no,fr,tr⟩,⟨3,st,me,no,y.ch,ownK st,0,0⟩,true):=by
   have b1:jvalidB ⟨1,me,no,fr,tr⟩=true:=by simp [jvalidB];omega
   have b2:formedW (wordOf me 2 y)=true:=formed_of (by simp only [wordOf];omega)
   rw [jHearV,if_neg (by rw [b1];decide),if_neg (by rw [b2];decide),if_neg (by omega),if_neg (by omega),if_neg (by simp [wordOf,x1,x2]),if_neg (by simp [ownE,hnj])]
   simp [jhearS,wordOf,x1,x2]
 have hown:ownK st=1000000+st:=by rw [ownK,if_pos hnj];exact wrap_i64 (by omega) (by omega)
 have hp:formedW ⟨3,st,me,no,y.ch,ownK st,0,0⟩=true:=formed_of (by simp only;omega)
 have hg:getH st (putH y hs)=y:=by have:=getH_self hmso hxin;rwa [x1] at this
 have hhas:hasH st (putH y hs)=true:=hasH_iff.2 ⟨y,hxin,x1⟩
 have e2:hearV (putH y hs) me ⟨3,st,me,no,y.ch,ownK st,0,0⟩ fr=(putH ⟨y.st,y.no,y.ch,y.un,true,ownK st⟩ (putH y hs),0):=by
   rw [hearV_hand hm hp rfl (by simp only;omega) hf]
   have hpr:provedS (putH y hs) ⟨3,st,me,no,y.ch,ownK st,0,0⟩=(0,putH ⟨y.st,y.no,y.ch,y.un,true,ownK st⟩ (putH y hs)):=by
     simp only [provedS]
     rw [if_pos hhas,hg,if_neg (by simp [x2]),if_neg (by simp)]
   rw [handV,if_pos (by simp),if_neg (by simp),hpr];rfl
 have hv2:=heard_valid (hear_ok (hs:=putH y hs) (me:=me) (w:=⟨3,st,me,no,y.ch,ownK st,0,0⟩) (fr:=fr) (by rw [e2]))
 rw [e2] at hv2
 simp only at hv2
 refine ⟨by rw [ejh],by rw [ejh,e2], ?_, ?_, ?_⟩
 · rw [ejh,e2,toldV hv2 hme]
   exact ⟨_,mem_toldW.2 ⟨_,mem_putH.2 (.inl rfl),rfl,rfl⟩,x1⟩
 · rw [ejh,e2,toldV hv2 hme]
   intro q hq hqs
   obtain ⟨z,hz,_,rfl⟩:=mem_toldW.1 hq
   rcases mem_putH.1 hz with rfl|⟨_,hne⟩
   · have b3:formedW (wordOf me 3 ⟨y.st,y.no,y.ch,y.un,true,ownK st⟩)=true:=formed_of (by simp only [wordOf];omega)
     have:judgeS (wordOf me 3 ⟨y.st,y.no,y.ch,y.un,true,ownK st⟩) 3 5=(⟨4,y.st,me,y.no,0,ownK st,3,5⟩,0):=by
       rw [judgeS,if_neg (by rw [b3];decide),if_neg (by decide),if_neg (by decide),if_neg (by decide),if_neg (by simp [wordOf]),if_neg (by simp [wordOf,ownE,x1,hnj]),if_neg (by simp [wordOf,x1])]
       rfl
     rw [this]
     exact ⟨rfl,rfl,x2,x1⟩
   · exact absurd hqs (by simpa [wordOf,x1] using hne)
 · rw [ejh,e2];exact valid_len hv2
noncomputable def lp9:Code:=sub [1,1,1,1,1,1,1,1,1,1,1,0,1,2,3] (code Tryd.f9)
noncomputable def lp9i:Code:=sub [1,1,1,1,1,1,1,1,1,1,1,0,1,2,3,1,0,2,1,1,1,1,1,2,3] (code Tryd.f9)
def tm9 (me st fr:Int) (m:List HalfS) (ts:List WordS) (i:Int) (r:Bool) (rest:List AV):List AV:= [.bad, .d (i64 me), .d (i64 st), .bad, .bad, .d (i64 fr), .bad, .bad, .bad, .bad, .bad, .bad, .d (bo r), .d (bo true), .bad, .bad, .bad, .ptr 1 0, .ptr 2 0, .bad, .d (.sl 6 (rowsH m)), .bad, .d (.sl 8 (rowsW ts)), .d (i64 i)]++rest
def re9:List AV:=Zap 160 .bad
def re9i (ps:List WordS) (k:Int):List AV:= [.bad, .bad, .d (bo true), .bad, .d (i64 0), .d (.sl 8 (rowsW ps)), .d (i64 k)]++Zap 153 .bad
def hp9 (z:HalfS) (j:JoinS) (w:WordS):List Blk:= [halfB z,joinB j,wordB w]
def hp9i (z:HalfS) (j:JoinS) (w:WordS) (j2:JoinS) (p:WordS):List Blk:= [halfB z,joinB j,wordB w,joinB j2,wordB p]
def wl9i {β:Type}:WLT β:=fun t tm hp b K=>∃(me st fr i:Int) (m:List HalfS) (ts ps:List WordS) (z:HalfS) (j j2:JoinS) (w p:WordS),t= .loop lp9i∧maskTm [1,2,5,12,13,17,18,20,22,23,26,28,29,30] 0 tm=tm9 me st fr m ts i false (re9i ps 0)∧hp=hp9i z j w j2 p∧((∃q∈ps,q.st=st)∧(∀q∈ps,TalkB m j st me fr w.no q)∧ps.length≤9223372036854775806)∧
 ∀k:Int,K .ret (tm9 me st fr m ts i true (re9i ps k)) (hp9i z j w j2 p) b
def TL9:List (Nat×(List AV→(AV→Prop)→Prop)):= [(11,cHearV),(21,cProofs),(25,cjHear),(26,cJudge)]
abbrev Qz6 (v0:HalfS) (v1:JoinS) (v2:WordS) (v3:JoinS) (v4:WordS):= [Blk.mk (Qz4 v0) false false 0,Blk.mk (Qz2 v1) false false 0,Blk.mk (Qz1 v2) false false 0,Blk.mk (Qz2 v3) false false 0,Blk.mk (Qz1 v4) false false 0]
abbrev Qz8 (v0:List HalfS) (v1:List WordS) (v2:Int) (v3:List WordS) (v4:Int):=Zcc 1 0::Zcc 2 0::Zal::Zaf (Zbc 6 (rowsH v0))::Zal::Zaf (Zbc 8 (rowsW v1))::Zaf (i64 v2)::Zal::Zal::Zaf (bo true)::Zal::Zaf (i64 0)::Zaf (Zbc 8 (rowsW v3))::Zaf (i64 v4)::bds 153 []
theorem r9i (me st fr i k:Int) (m:List HalfS) (ts ps:List WordS) (z:HalfS) (j j2:JoinS) (w p:WordS):wpc Tryd.prog ⟨TL9, [],wl,y,false⟩ 100 lp9i (tm9 me st fr m ts i false (re9i ps k)) (hp9i z j w j2 p) b (maskK 5 [1,2,5,12,13,17,18,20,22,23,26,28,29,30] K)=(BIf (decide (k<((Zae (rowsW ps):Nat):Int))) (BIf (true&&decide (0≤k)) (∃(x0:Int) (x1:Int) (x2:Int) (x3:Int) (x4:Int) (x5:Int) (x6:Int) (x7:Int),(rowsW ps)[Zbl k]? =some [i64 x0,i64 x1,i64 x2,i64 x3,i64 x4,i64 x5,i64 x6,i64 x7]∧BIf (x1==st) (BIf (true&&decide (0≤k)) (∃(x10:Int) (x11:Int) (x12:Int) (x13:Int) (x14:Int) (x15:Int) (x16:Int) (x17:Int),(rowsW ps)[Zbl k]? =some [i64 x10,i64 x11,i64 x12,i64 x13,i64 x14,i64 x15,i64 x16,i64 x17]∧∃(w20:WordS) (q21:WordS) (f22:Int) (n23:Int) (e24:Int), [Zbb [Zaf (i64 x10),Zaf (i64 x11),Zaf (i64 x12),Zaf (i64 x13),Zaf (i64 x14),Zaf (i64 x15),Zaf (i64 x16),Zaf (i64 x17)],Zbb [Zaf (i64 3),Zaf (i64 5)]]= [Zbb (Qz1 w20),Zbb [Zaf (i64 f22),Zaf (i64 n23)]]∧(q21=Zcx (judgeS w20 f22 n23)∧e24=Zcy (judgeS w20 f22 n23))∧BIf (e24==(0:Int)) (BIf (WordS.ki q21==(4:Int)) (BIf (WordS.no q21==WordS.no w) (K .ret (Zal::Zaf (i64 me)::Zaf (i64 st)::Zal::Zal::Zaf (i64 fr)::bds 6 (Zaf (bo (WordS.st q21==st))::Zaf (bo true)::bds 3 (Qz8 m ts i ps k))) (Qz6 z j w j2 p) b) (K .ret (Zal::Zaf (i64 me)::Zaf (i64 st)::Zal::Zal::Zaf (i64 fr)::bds 6 (Zaf (bo false)::Zaf (bo true)::bds 3 (Qz8 m ts i ps k))) (Qz6 z j w j2 p) b)) (K .ret (Zal::Zaf (i64 me)::Zaf (i64 st)::Zal::Zal::Zaf (i64 fr)::bds 6 (Zaf (bo false)::Zaf (bo true)::bds 3 (Qz8 m ts i ps k))) (Qz6 z j w j2 p) b)) (K .ret (Zal::Zaf (i64 me)::Zaf (i64 st)::Zal::Zal::Zaf (i64 fr)::bds 6 (Zaf (bo false)::Zaf (bo true)::bds 3 (Qz8 m ts i ps k))) (Qz6 z j w j2 p) b)) False) (K .normal (Zal::Zaf (i64 me)::Zaf (i64 st)::Zal::Zal::Zaf (i64 fr)::bds 6 (Zaf (bo false)::Zaf (bo true)::bds 3 (Zcc 1 0::Zcc 2 0::Zal::Zaf (Zbc 6 (rowsH m))::Zal::Zaf (Zbc 8 (rowsW ts))::Zaf (i64 i)::Zal::Zal::Zaf (bo true)::Zal::Zaf (i64 0)::Zaf (Zbc 8 (rowsW ps))::Zaf (i64 (Zad .i64 (k+1)))::bds 153 []))) (Qz6 z j w j2 p) b)) False) (K (Zea 2) (Zal::Zaf (i64 me)::Zaf (i64 st)::Zal::Zal::Zaf (i64 fr)::bds 6 (Zaf (bo false)::Zaf (bo true)::bds 3 (Qz8 m ts i ps k))) (Qz6 z j w j2 p) b)):=by kernel_rfl
abbrev Qz20 (v0:HalfS) (v1:JoinS) (v2:WordS):= [Blk.mk (Qz4 v0) false false 0,Blk.mk (Qz2 v1) false false 0,Blk.mk (Qz1 v2) false false 0]
abbrev Qz31 (v0:List HalfS) (v1:Int):List AV:= [Zaf (Zbc 6 (rowsH v0)),Zaf (i64 v1)]
abbrev Qz33 (v0:List HalfS) (v1:Int) (v2:WordS) (v3:Int):List AV:= [Zaf (Zbc 6 (rowsH v0)),Zaf (i64 v1),Zbb (Qz1 v2),Zaf (i64 v3)]
theorem r9 (me st fr i:Int) (m:List HalfS) (ts:List WordS) (z:HalfS) (j:JoinS) (w:WordS):wpc Tryd.prog ⟨TL9, [],wl9i,y,false⟩ 100 lp9 (tm9 me st fr m ts i false re9) (hp9 z j w) b (maskK 3 [1,2,5,12,13,17,18,20,22,23] K)=(BIf (decide (i<((Zae (rowsW ts):Nat):Int))) (BIf (true&&decide (0≤i)) (∃(x0:Int) (x1:Int) (x2:Int) (x3:Int) (x4:Int) (x5:Int) (x6:Int) (x7:Int),(rowsW ts)[Zbl i]? =some [i64 x0,i64 x1,i64 x2,i64 x3,i64 x4,i64 x5,i64 x6,i64 x7]∧BIf (x1 !=st) (K .normal (Zal::Zaf (i64 me)::Zaf (i64 st)::Zal::Zal::Zaf (i64 fr)::bds 6 (Zaf (bo false)::Zaf (bo true)::bds 3 (Zcc 1 0::Zcc 2 0::Zal::Zaf (Zbc 6 (rowsH m))::Zal::Zaf (Zbc 8 (rowsW ts))::Zaf (i64 (Zad .i64 (i+1)))::bds 160 []))) (Qz20 z j w) b) (BIf (true&&decide (0≤i)) (∃(x10:Int) (x11:Int) (x12:Int) (x13:Int) (x14:Int) (x15:Int) (x16:Int) (x17:Int),(rowsW ts)[Zbl i]? =some [i64 x10,i64 x11,i64 x12,i64 x13,i64 x14,i64 x15,i64 x16,i64 x17]∧∃(j20:JoinS) (j21:JoinS) (me22:Int) (fr23:Int) (w24:WordS) (a25:WordS) (z26:Bool), [Zbb (Qz2 j),Zaf (i64 st),Zbb [Zaf (i64 x10),Zaf (i64 x11),Zaf (i64 x12),Zaf (i64 x13),Zaf (i64 x14),Zaf (i64 x15),Zaf (i64 x16),Zaf (i64 x17)],Zaf (i64 fr)]= [Zbb (Qz2 j20),Zaf (i64 me22),Zbb (Qz1 w24),Zaf (i64 fr23)]∧(j21=Zcx (jHearV j20 me22 w24 fr23)∧a25=Zcx (Zcy (jHearV j20 me22 w24 fr23))∧z26=Zcy (Zcy (jHearV j20 me22 w24 fr23)))∧(Zal::Zaf (i64 me)::Zaf (i64 st)::Zal::Zal::Zaf (i64 fr)::bds 6 (Zaf (bo false)::Zaf (bo true)::bds 3 (Zcc 1 0::Zcc 2 0::Zal::Zaf (Zbc 6 (rowsH m))::Zal::Zaf (Zbc 8 (rowsW ts))::Zaf (i64 i)::Zcc 3 0::Zcc 4 0::Zaf (bo z26)::bds 69 (Zaf (i64 i)::Zaf (Zbc 8 (rowsW ts))::Zaf (i64 ((Zae (rowsW ts):Nat):Int))::Zaf (bo true)::Zal::Zal::Zaf (Zbc 8 (rowsW ts))::Zaf (i64 i)::Zdo [i64 x0,i64 x1,i64 x2,i64 x3,i64 x4,i64 x5,i64 x6,i64 x7]::Zdo [i64 x1,i64 x2,i64 x3,i64 x4,i64 x5,i64 x6,i64 x7]::Zaf (i64 x1)::Zaf (i64 st)::Zaf (bo false)::AV.tup (Qz35 j21 a25 z26)::Zbb (Qz2 j)::Zaf (i64 st)::Zaf (Zbc 8 (rowsW ts))::Zaf (i64 i)::Zdo [i64 x10,i64 x11,i64 x12,i64 x13,i64 x14,i64 x15,i64 x16,i64 x17]::Zbb [Zaf (i64 x10),Zaf (i64 x11),Zaf (i64 x12),Zaf (i64 x13),Zaf (i64 x14),Zaf (i64 x15),Zaf (i64 x16),Zaf (i64 x17)]::Zaf (i64 fr)::AV.tup (Qz35 j21 a25 z26)::Zbb (Qz2 j21)::Zbb (Qz1 a25)::Zaf (bo z26)::bds 63 []))))=(Zal::Zaf (i64 me)::Zaf (i64 st)::Zal::Zal::Zaf (i64 fr)::bds 6 (Zaf (bo false)::Zaf (bo true)::bds 3 (Zcc 1 0::Zcc 2 0::Zal::Zaf (Zbc 6 (rowsH m))::Zal::Zaf (Zbc 8 (rowsW ts))::Zaf (i64 i)::Zcc 3 0::Zcc 4 0::Zaf (bo z26)::bds 69 (Zaf (i64 i)::Zaf (Zbc 8 (rowsW ts))::Zaf (i64 ((Zae (rowsW ts):Nat):Int))::Zaf (bo true)::Zal::Zal::Zaf (Zbc 8 (rowsW ts))::Zaf (i64 i)::Zdo [i64 x0,i64 x1,i64 x2,i64 x3,i64 x4,i64 x5,i64 x6,i64 x7]::Zdo [i64 x1,i64 x2,i64 x3,i64 x4,i64 x5,i64 x6,i64 x7]::Zaf (i64 x1)::Zaf (i64 st)::Zaf (bo false)::AV.tup (Qz35 j21 a25 z26)::Zbb (Qz2 j)::Zaf (i64 st)::Zaf (Zbc 8 (rowsW ts))::Zaf (i64 i)::Zdo [i64 x10,i64 x11,i64 x12,i64 x13,i64 x14,i64 x15,i64 x16,i64 x17]::Zbb [Zaf (i64 x10),Zaf (i64 x11),Zaf (i64 x12),Zaf (i64 x13),Zaf (i64 x14),Zaf (i64 x15),Zaf (i64 x16),Zaf (i64 x17)]::Zaf (i64 fr)::AV.tup (Qz35 j21 a25 z26)::Zbb (Qz2 j21)::Zbb (Qz1 a25)::Zaf (bo z26)::bds 63 []))))∧(Qz6 z j w j21 a25)=(Qz6 z j w j21 a25)∧∃(hs27:List HalfS) (q28:List HalfS) (me29:Int) (fr30:Int) (e31:Int) (w32:WordS),(Qz33 m me a25 fr)=(Qz33 hs27 me29 w32 fr30)∧(Zae hs27≤9223372036854775807∧q28=Zcx (hearV hs27 me29 w32 fr30)∧e31=Zcy (hearV hs27 me29 w32 fr30))∧∃(hs33:List HalfS) (q34:List WordS) (me35:Int),(Qz31 q28 me)=(Qz31 hs33 me35)∧(Zae hs33<1000000∧q34=toldS hs33 me35 (3:Int) true)∧∃(me36:Int) (st37:Int) (fr38:Int) (i39:Int) (m40:List HalfS) (ts41:List WordS) (ps42:List WordS) (z43:HalfS) (j44:JoinS) (j45:JoinS) (w46:WordS) (p47:WordS),Zdi lp9i=Zdi lp9i∧(Zal::Zaf (i64 me)::Zaf (i64 st)::Zal::Zal::Zaf (i64 fr)::bds 6 (Zaf (bo false)::Zaf (bo true)::bds 3 (Zcc 1 0::Zcc 2 0::Zal::Zaf (Zbc 6 (rowsH m))::Zal::Zaf (Zbc 8 (rowsW ts))::Zaf (i64 i)::Zal::Zal::Zaf (bo z26)::Zal::Zaf (i64 e31)::Zaf (Zbc 8 (rowsW q34))::Zaf (i64 0)::bds 153 [])))=(Zal::Zaf (i64 me36)::Zaf (i64 st37)::Zal::Zal::Zaf (i64 fr38)::bds 6 (Zaf (bo false)::Zaf (bo true)::bds 3 (Zcc 1 0::Zcc 2 0::Zal::Zaf (Zbc 6 (rowsH m40))::Zal::Zaf (Zbc 8 (rowsW ts41))::Zaf (i64 i39)::Zal::Zal::Zaf (bo true)::Zal::Zaf (i64 0)::Zaf (Zbc 8 (rowsW ps42))::Zaf (i64 0)::bds 153 [])))∧(Qz6 z j w j21 a25)=(Qz6 z43 j44 w46 j45 p47)∧((∃(q48:WordS),List.Mem q48 ps42∧WordS.st q48=st37)∧(∀(q:WordS),q∈ps42→WordS.st q=st37→Zcy (judgeS q (3:Int) (5:Int))=(0:Int)∧WordS.ki (Zcx (judgeS q (3:Int) (5:Int)))=(4:Int)∧WordS.no (Zcx (judgeS q (3:Int) (5:Int)))=WordS.no w46∧WordS.st (Zcx (judgeS q (3:Int) (5:Int)))=st37)∧Zae ps42≤9223372036854775806)∧∀(k:Int),K .ret (Zal::Zaf (i64 me36)::Zaf (i64 st37)::Zal::Zal::Zaf (i64 fr38)::bds 6 (Zaf (bo true)::Zaf (bo true)::bds 3 (Zcc 1 0::Zcc 2 0::Zal::Zaf (Zbc 6 (rowsH m40))::Zal::Zaf (Zbc 8 (rowsW ts41))::Zaf (i64 i39)::bds 160 []))) (Qz20 z43 j44 w46) b) False)) False) (K (Zea 0) (Zal::Zaf (i64 me)::Zaf (i64 st)::Zal::Zal::Zaf (i64 fr)::bds 6 (Zaf (bo false)::Zaf (bo true)::bds 3 (Zcc 1 0::Zcc 2 0::Zal::Zaf (Zbc 6 (rowsH m))::Zal::Zaf (Zbc 8 (rowsW ts))::Zaf (i64 i)::bds 160 []))) (Qz20 z j w) b)):=by kernel_rfl
set_option maxHeartbeats 0
set_option maxHeartbeats 1000000
theorem rowsW_ap {ws a c:List WordS} {x:WordS} (h:ws=a++x::c):(rowsW ws)[Zbl ((a.length:Nat):Int)]? =some (wordR x):=by subst h;simp [rowsW]
theorem TL9_ok:CallsOk Tryd.prog TL9:=Zam cHearV_ok (Zam cProofs_ok (Zam cjHear_ok (Zam cJudge_ok Zas)))
theorem wr9i {Ev:Env Tryd.prog} {b:Ev.β} {Q:Exit→St Ev.β→Prop} (me st fr i:Int) (m:List HalfS) (ts ps:List WordS) (z:HalfS) (j j2:JoinS) (w p:WordS) (hall:∀q∈ps,TalkB m j st me fr w.no q) (hl:ps.length≤9223372036854775806)
   (hQ:∀k:Int,Q .ret ⟨tm9 me st fr m ts i true (re9i ps k),hp9i z j w j2 p,b⟩):∀(rest pre:List WordS),ps=pre++rest→(∃q∈rest,q.st=st)→WR Ev lp9i (rest.length+1) ⟨tm9 me st fr m ts i false (re9i ps pre.length),hp9i z j w j2 p,b⟩ Q
 | [],pre,hp,hex=>by obtain ⟨q,hq,_⟩:=hex;cases hq
 | q::rest,pre,hp,hex=>by
   refine Zcr [1,2,5,12,13,17,18,20,22,23,26,28,29,30] mixed (CX.Ok.of (u:=false) TL9_ok Zao) (k:=100) ?_
   refine Eq.mpr (r9i _ _ _ _ me st fr i pre.length m ts ps z j j2 w p) ?_
   have hlen:ps.length=pre.length+rest.length+1:=by rw [hp];simp;omega
   rw [rowsW_len,rowsW_ap hp]
   refine Zcp (by simp;omega) (Zcp (by simp) ⟨_,_,_,_,_,_,_,_,rfl,Zat (fun h1=>Zcp (by simp) ⟨_,_,_,_,_,_,_,_,rfl,q,_,3,5,_,rfl,⟨rfl,rfl⟩, ?_⟩) fun h1=> ?_⟩)
   · have hst:q.st=st:=by simpa using h1
     obtain ⟨g1,g2,g3,g4⟩:=hall q (by rw [hp];simp) hst
     refine Zcp (by rw [g1];rfl) (Zcp (by rw [g2];rfl) (Zcp (by rw [g3];simp) ?_))
     have e:((judgeS q 3 5).1.st==st)=true:=by simp [g4]
     rw [e];exact hQ _
   · have hne:q.st≠st:=by simpa using h1
     rw [wrapN (by omega)]
     have:=wr9i me st fr i m ts ps z j j2 w p hall hl hQ rest (pre++ [q]) (by rw [hp];simp) (by
       obtain ⟨q',hq',e⟩:=hex
       rcases List.mem_cons.1 hq' with rfl|h
       · exact absurd e hne
       · exact ⟨q',h,e⟩)
     rw [List.length_append] at this
     exact this
theorem wl9i_ok {Ev:Env Tryd.prog} (c:Code) (tm:List AV) (hp:List Blk) (b:Ev.β) (K:Exit→List AV→List Blk→Ev.β→Prop) (h:wl9i c tm hp b K):W Ev c ⟨tm,hp,b⟩ (fun e s=>K e s.tm s.hp s.b):=by
 obtain ⟨me,st,fr,i,m,ts,ps,z,j,j2,w,p,rfl,htm,rfl,⟨hex,hall,hl⟩,hK⟩:=h
 refine W.cast (htm▸maskTm_le _ tm 0) (Zdj _) ?_
 exact W.rounds (wr9i (Q:=fun e s=>K e s.tm s.hp s.b) me st fr i m ts ps z j j2 w p hall hl hK ps [] rfl hex)
theorem wr9 {Ev:Env Tryd.prog} {b:Ev.β} {Q:Exit→St Ev.β→Prop} (me st fr:Int) (m:List HalfS) (ts:List WordS) (z:HalfS) (j:JoinS) (w:WordS) (hml:m.length≤4) (hall:∀t∈ts,t.st=st→TalkA m j st me fr w.no t) (hl:ts.length≤9223372036854775806)
   (hQ:∀i:Int,Q .ret ⟨tm9 me st fr m ts i true re9,hp9 z j w,b⟩):∀(rest pre:List WordS),ts=pre++rest→(∃q∈rest,q.st=st)→WR Ev lp9 (rest.length+1) ⟨tm9 me st fr m ts pre.length false re9,hp9 z j w,b⟩ Q
 | [],pre,hp,hex=>by obtain ⟨q,hq,_⟩:=hex;cases hq
 | t::rest,pre,hp,hex=>by
   refine Zcr (X:=⟨TL9, [],wl9i,Ev.Y,false⟩) [1,2,5,12,13,17,18,20,22,23] mixed (CX.Ok.ofWl (u:=false) TL9_ok Zao wl9i_ok) (k:=100) ?_
   refine Eq.mpr (r9 _ _ _ me st fr pre.length m ts z j w) ?_
   have hlen:ts.length=pre.length+rest.length+1:=by rw [hp];simp;omega
   rw [rowsW_len,rowsW_ap hp]
   refine Zcp (by simp;omega) (Zcp (by simp) ⟨_,_,_,_,_,_,_,_,rfl,Zat (fun h1=> ?_) fun h1=> ?_⟩)
   · have hne:t.st≠st:=by simpa using h1
     rw [wrapN (by omega)]
     have:=wr9 me st fr m ts z j w hml hall hl hQ rest (pre++ [t]) (by rw [hp];simp) (by
       obtain ⟨q',hq',e⟩:=hex
       rcases List.mem_cons.1 hq' with rfl|h
       · exact absurd e hne
       · exact ⟨q',h,e⟩)
     rw [List.length_append] at this
     exact this
   · have hst:t.st=st:=by simpa using h1
     have ht:=hall t (by rw [hp];simp) hst
     have h3:=toldS_len (hearV m me (jHearV j st t fr).2.1 fr).1 me 3 true
     have h4:=ht.len
     exact Zcp (by simp) ⟨_,_,_,_,_,_,_,_,rfl,j,_,st,fr,t,_,true,rfl,⟨rfl,rfl,ht.counts.symm⟩,rfl,rfl,m,_,me,fr,0,_,rfl,⟨by omega,rfl,ht.heard.symm⟩,_,_,me,rfl,⟨by omega,rfl⟩,
       me,st,fr,_,m,ts,_,z,j,_,w,_,rfl,rfl,rfl,⟨ht.some,ht.all,by omega⟩,fun k=>hQ _⟩
def wl9o {β:Type}:WLT β:=fun t tm hp b K=>∃(me st fr:Int) (m:List HalfS) (ts:List WordS) (z:HalfS) (j:JoinS) (w:WordS),t= .loop lp9∧maskTm [1,2,5,12,13,17,18,20,22,23] 0 tm=tm9 me st fr m ts 0 false re9∧hp=hp9 z j w∧(m.length≤4∧(∃t∈ts,t.st=st)∧(∀t∈ts,t.st=st→TalkA m j st me fr w.no t)∧ts.length≤9223372036854775806)∧
 ∀i:Int,K .ret (tm9 me st fr m ts i true re9) (hp9 z j w) b
theorem wl9o_ok {Ev:Env Tryd.prog} (c:Code) (tm:List AV) (hp:List Blk) (b:Ev.β) (K:Exit→List AV→List Blk→Ev.β→Prop) (h:wl9o c tm hp b K):W Ev c ⟨tm,hp,b⟩ (fun e s=>K e s.tm s.hp s.b):=by
 obtain ⟨me,st,fr,m,ts,z,j,w,rfl,htm,rfl,⟨hm,hex,hall,hl⟩,hK⟩:=h
 refine W.cast (htm▸maskTm_le _ tm 0) (Zdj _) ?_
 exact W.rounds (wr9 (Q:=fun e s=>K e s.tm s.hp s.b) me st fr m ts z j w hm hall hl hK ts [] rfl hex)
def TL9f:List (Nat×(List AV→(AV→Prop)→Prop)):= [(10,cHead),(14,cValidR),(23,cOf),(24,cjAsk),(11,cHearV),(19,cWords)]
theorem TL9f_ok:CallsOk Tryd.prog TL9f:=Zam cHead_ok (Zam cValidR_ok (Zam cOf_ok (Zam cjAsk_ok (Zam cHearV_ok (Zam cWords_ok Zas)))))
abbrev Qz25 (v0:Int) (v1:Int) (v2:Int) (v3:List HalfS) (v4:List WordS):=Zal::Zaf (i64 v0)::Zaf (i64 v1)::Zal::Zal::Zaf (i64 v2)::bds 6 (Zaf (bo false)::Zaf (bo true)::bds 3 (Zcc 1 0::Zcc 2 0::Zal::Zaf (Zbc 6 (rowsH v3))::Zal::Zaf (Zbc 8 (rowsW v4))::Zaf (i64 0)::bds 160 []))
theorem law9_nf (hs:List HalfS) (me st boot tr fr:Int):wpFn Tryd.prog ⟨TL9f, [],wl9o,y,false⟩ 100 Tryd.f9 [.d (.sl 6 (rowsH hs)), .d (i64 me), .d (i64 st), .d (i64 boot), .d (i64 tr), .d (i64 fr)] b R=(([]:List AV)= []∧∃(hs0:List HalfS) (z1:Bool), [Zaf (Zbc 6 (rowsH hs))]= [Zaf (Zbc 6 (rowsH hs0))]∧(Zae hs0≤9223372036854775807∧z1=validH hs0)∧∃(hs2:List HalfS) (k3:Int) (h4:HalfS) (z5:Bool),(Qz31 hs st)=(Qz31 hs2 k3)∧(Zae hs2≤9223372036854775807∧h4=getH k3 hs2∧z5=hasH k3 hs2)∧BIf (!z1) (R (.d (bo true)) b) (BIf (decide (((Zae (rowsH hs):Nat):Int)≥(4:Int))) (R (.d (bo true)) b) (BIf z5 (R (.d (bo true)) b) (BIf (decide (fr<(0:Int))) (R (.d (bo true)) b) (BIf (decide (fr>(999999988:Int))) (R (.d (bo true)) b) (∃(j6:JoinS) (j7:JoinS) (me8:Int) (boot9:Int) (sp10:Int) (fr11:Int) (e12:Int) (a13:WordS), [Zbb [Zaf (i64 0),Zaf (i64 (-1)),Zaf (i64 0),Zaf (i64 0),Zaf (i64 tr)],Zaf (i64 st),Zaf (i64 boot),Zaf (i64 me),Zaf (i64 fr)]= [Zbb (Qz2 j6),Zaf (i64 me8),Zaf (i64 boot9),Zaf (i64 sp10),Zaf (i64 fr11)]∧(j7=Zcx (jAskV j6 me8 boot9 sp10 fr11)∧a13=Zcx (Zcy (jAskV j6 me8 boot9 sp10 fr11))∧e12=Zcy (Zcy (jAskV j6 me8 boot9 sp10 fr11)))∧BIf (e12 !=(0:Int)) (R (.d (bo true)) b) (∃(hs14:List HalfS) (q15:List HalfS) (me16:Int) (fr17:Int) (e18:Int) (w19:WordS),(Qz33 hs me a13 fr)=(Qz33 hs14 me16 w19 fr17)∧(Zae hs14≤9223372036854775807∧q15=Zcx (hearV hs14 me16 w19 fr17)∧e18=Zcy (hearV hs14 me16 w19 fr17))∧∃(hs20:List HalfS) (q21:List WordS) (me22:Int),(Qz31 q15 me)=(Qz31 hs20 me22)∧(Zae hs20<1000000∧q21=toldS hs20 me22 (2:Int) false)∧BIf (decide (WordS.no a13>(1000000000:Int))) (R (.d (bo (e18==(1:Int)))) b) (BIf (e18 !=(0:Int)) (R (.d (bo false)) b) (∃(me23:Int) (st24:Int) (fr25:Int) (m26:List HalfS) (ts27:List WordS) (z28:HalfS) (j29:JoinS) (w30:WordS),Zdi lp9=Zdi lp9∧(Qz25 me st fr q15 q21)=(Qz25 me23 st24 fr25 m26 ts27)∧(Qz20 h4 j7 a13)=(Qz20 z28 j29 w30)∧(Zae m26≤4∧(∃(t31:WordS),List.Mem t31 ts27∧WordS.st t31=st24)∧(∀(t:WordS),t∈ts27→WordS.st t=st24→TalkA m26 j29 st24 me23 fr25 (WordS.no w30) t)∧Zae ts27≤9223372036854775806)∧∀(i:Int),R (.d (bo true)) b))))))))):=by kernel_rfl
theorem pcLaw9 (hs:List HalfS) (me st boot tr fr:Int) (hl:hs.length≤9223372036854775807):PCall Tryd.prog 9 [.d (.sl 6 (rowsH hs)), .d (i64 me), .d (i64 st), .d (i64 boot), .d (i64 tr), .d (i64 fr)] (.d (bo true)):=by
 refine PCall.ofFnW (n:=100) (u:=false) (fun _=>wl9o) mixed TL9f_ok Zao (fun Ev=>wl9o_ok) Tryd.func9 (by rfl) (by rfl) fun Ev bb=> ?_
 rw [law9_nf,rowsH_len]
 refine ⟨rfl,hs,_,rfl,⟨hl,rfl⟩,hs,st,_,_,rfl,⟨hl,rfl,rfl⟩,Zat (fun _=>rfl) fun h1=>Zat (fun _=>rfl) fun h2=>Zat (fun _=>rfl) fun h3=>Zat (fun _=>rfl) fun h4=>Zat (fun _=>rfl) fun h5=>⟨⟨0, -1,0,0,tr⟩,_,st,boot,me,fr,_,_,rfl,⟨rfl,rfl,rfl⟩,Zat (fun _=>rfl) fun h6=> ?_⟩⟩
 obtain ⟨no,tr',n1,n2,n3,n4,n5,n6,n7,n8,n9,n10,n11,e1,e2⟩:=jask_ok (tries:=tr) (st:=st) (boot:=boot) (me:=me) (fr:=fr) (by simpa using h6)
 have h1:validH hs=true:=by simpa using h1
 have h2:=of_decide_eq_false h2
 have h4:=of_decide_eq_false h4
 have h5:=of_decide_eq_false h5
 obtain ⟨f1,f2,f3,f4⟩:=talk (hs:=hs) (st:=st) (me:=me) (fr:=fr) (no:=no) (tr:=tr') h1 (by omega) h3 ⟨by omega,by omega⟩ ⟨n1,n2⟩ ⟨n3,n4⟩ ⟨n5,n6⟩ ⟨n7,n8⟩ n9
 have hml:=valid_len f2
 have htl:=toldS_len (hearV hs me ⟨1,st,me,no,0,0,0,0⟩ fr).1 me 2 false
 rw [e1,e2]
 exact ⟨hs,_,me,fr,0,⟨1,st,me,no,0,0,0,0⟩,rfl,⟨hl,rfl,f1.symm⟩,_,_,me,rfl,⟨by omega,rfl⟩,BIf.f (by simp;omega) (BIf.f (by decide) ⟨me,st,fr,_,_,getH st hs,_,⟨1,st,me,no,0,0,0,0⟩,rfl,rfl,rfl,⟨hml,f3,f4,by omega⟩,fun _=>rfl⟩)⟩
end Go.Proofs.YtlnenbbmhidjeaaDoor.Am
