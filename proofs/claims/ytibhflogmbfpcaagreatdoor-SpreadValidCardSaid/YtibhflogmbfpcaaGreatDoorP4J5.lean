import Derived.Test.YtibhflogmbfpcaaGreatDoorP4J4
import Derived.Test.YtibhflogmbfpcaaGreatDoorP4J3
import Derived.Test.YtibhflogmbfpcaaGreatDoorP4J2
import Derived.Test.YtibhflogmbfpcaaGreatDoorTie
import Derived.Test.YtibhflogmbfpcaaGreatDoorCards
import Derived.ProofKit
import Derived.LaidMore
import Derived.OpenShut
import Derived.Stop.Joined
import Derived.Lay
import Derived.LaidOnce
import Derived.SevenTiedAt
import Derived.JoinedOf
set_option linter.unusedSimpArgs false
set_option linter.unusedVariables false
namespace Go.Proofs.YtibhflogmbfpcaaGreatDoor.Am
open Go Go.RowKit Go.Proofs Tryz
open AV renaming agg → Zbp, bad → Zav, d → Zae, ptr → Zaz
open BIf renaming f → Zct, of → Zan, t → Zbl
open BitVec renaming ofInt → Zao
open Bool renaming and_eq_true → Zak
open CallsOk renaming cons → Zag, nil → Zah
open Go.Code renaming loop → Zbd
open Dv renaming sl → Zam
open Int renaming toNat → Zap, toNat_natCast → Zax
open Go.IntKind renaming wrap → Zaa
open List renaming length → Zab, mem_cons_of_mem → Zau, mem_cons_self → Zaw, mem_map → Zbh, mem_of_getElem? → Zbg, mem_range → Zcn, range → Zbe, replicate → Zaf
open NotT renaming n → Zed, r → Zel, t → Zem, v → Zdy
open PCall renaming ofFn → Zba
open SCallsOk renaming nil → Zad
open StT renaming no → Zcd, ps → Zeu, tr → Zez
open Go.Value renaming slice → Zbo
variable {β:Type} (wl:WLT β) (y:YieldT β) (b:β) (R:AV→β→Prop) (K:Exit→List AV→List Blk→β→Prop) (Q:β→Prop)
open AV (bad)
set_option linter.unusedVariables false
set_option maxRecDepth 20000
set_option maxHeartbeats 1000000
def TEm:List (Nat×(List AV→(AV→Prop)→Prop)):= [(104,cSeed)]
theorem TEm_ok:CallsOk prog TEm:=Zag cSeedR_ok Zah
theorem rempty_nf (s:StT):wpFn prog ⟨TEm, [],wl,y,false⟩ 100 f35 [stV s] b R=(BIf (Zdy (Zcd s)==(0:Int)&&(Zed (Zcd s)==(0:Int)&&(Zel (Zcd s)==(0:Int)&&(Zem (Zcd s)==(0:Int)&&true)))) (BIf (Zaa .i64 (Zaa .i64 (Zaa .i64 (((Zab (partsR (Zeu s)):Nat):Int)+((Zab (proofsR (StT.qs s)):Nat):Int))+((Zab (rowsR (StT.rows s)):Nat):Int))+((Zab (digR (StT.pf s)):Nat):Int))==(0:Int)) (BIf (TrT.iv (Zez s)==(0:Int)&&(TrT.bg (Zez s)==(0:Int)&&(TrT.fi (Zez s)==(0:Int)&&(TrT.ct (Zez s)==(0:Int)&&(TrT.sd (Zez s)==TrT.sd (Zez s)&&true))))) (∃(x0:Int), [Zae (i64 (TrT.sd (Zez s)))]= [Zae (i64 x0)]∧R (.d (bo (seedS x0))) b) (R (.d (bo false)) b)) (R (.d (bo false)) b)) (R (.d (bo false)) b)):=by kernel_rfl
theorem pcREmpty (s:StT) (hs:smallS s):PCall prog 35 [stV s] (.d (bo (emptyS s))):=by
 refine Zba (n:=100) (u:=false) mixed TEm_ok Zad func35 (by rfl) (by rfl) fun Ev bb=> ?_
 rw [rempty_nf,partsR_len,proofs_len,rowsR_len,digR_len,sum4 ⟨by have:=hs.1.1;omega,by have:=hs.2.1.1;omega,by have:=hs.2.2.1.1;omega,hs.2.2.2⟩]
 rw [←isEmpty_len,←isEmpty_len,←isEmpty_len,←isEmpty_len]
 have e:tseedS s.tr.sd=seedS s.tr.sd:=rfl
 have e1:∀x:Int,(x==x)=true:=fun x=>by simp
 rw [emptyS,zeroN,e]
 simp only [Bool.and_true,e1]
 refine Zan (fun h1=>Zan (fun h2=>Zan (fun h3=>⟨_,rfl, ?_⟩) fun h3=> ?_) fun h2=> ?_) fun h1=> ?_
 · rw [h1,h2,h3];rfl
 · rw [h3,Bool.and_false];rfl
 · rw [h2,Bool.and_false];rfl
 · rw [h1];rfl
def cREmpty (args:List AV) (K:AV→Prop):Prop:=∃(s:StT) (z:Bool),args= [stV s]∧(smallS s∧z=emptyS s)∧K (.d (bo z))
theorem cREmpty_ok:∀args K,cREmpty args K→∃x,PCall prog 35 args x∧K x:=by
 rintro _ K ⟨s,_,rfl,⟨hs,rfl⟩,h⟩;exact ⟨_,pcREmpty s hs,h⟩
def TAl:List (Nat×(List AV→(AV→Prop)→Prop)):= [(75,cRCount)]
theorem TAl_ok:CallsOk prog TAl:=Zag cRCount_ok Zah
theorem rall_nf (s:StT):wpFn prog ⟨TAl, [],wl,y,false⟩ 100 f55 [stV s] b R=(∃(n0:Int),∃(z1:Int), [Zae (i64 (Zed (Zcd s)))]= [Zae (i64 n0)]∧z1=countS n0∧R (Zae (bo (((Zab (partsR (Zeu s)):Nat):Int)==z1))) b):=by kernel_rfl
theorem pcRAll (s:StT):PCall prog 55 [stV s] (.d (bo (fullP s))):=by
 refine Zba (n:=100) (u:=false) mixed TAl_ok Zad func55 (by rfl) (by rfl) fun Ev bb=> ?_
 rw [rall_nf,partsR_len]
 exact ⟨_,_,rfl,rfl,rfl⟩
def cRAll (args:List AV) (K:AV→Prop):Prop:=∃(s:StT) (z:Bool),args= [stV s]∧z=fullP s∧K (.d (bo z))
theorem cRAll_ok:∀args K,cRAll args K→∃x,PCall prog 55 args x∧K x:=by
 rintro _ K ⟨s,_,rfl,rfl,h⟩;exact ⟨_,pcRAll s,h⟩
def cRSoundT (args:List AV) (K:AV→Prop):Prop:=∃(s:StT) (z:Bool),args= [stV s]∧(smallS s∧z=soundT s)∧K (.d (bo z))
theorem cRSoundT_ok:∀args K,cRSoundT args K→∃x,PCall prog 80 args x∧K x:=by
 rintro _ K ⟨s,_,rfl,⟨hs,rfl⟩,h⟩;exact cRSound_ok _ K ⟨s.sp,_,rfl,⟨by have:=hs.1.1;show s.ps.length≤_;omega,rfl⟩,h⟩
def TRva:List (Nat×(List AV→(AV→Prop)→Prop)):= [(35,cREmpty),(80,cRSoundT),(81,c21),(55,cRAll),(82,cRTValid)]
theorem TRva_ok:CallsOk prog TRva:=Zag cREmpty_ok (Zag cRSoundT_ok (Zag c21_ok (Zag cRAll_ok (Zag cRTValid_ok Zah))))
theorem rsvalid_nf (s:StT):wpFn prog ⟨TRva, [],wl,y,false⟩ 100 f23 [stV s] b R=(∃(s0:StT) (z1:Bool), [stV s]= [stV s0]∧((smallS s0)∧z1=emptyS s0)∧BIf z1 (R (.d (bo true)) b) (∃(s2:StT) (z3:Bool), [stV s]= [stV s2]∧((smallS s2)∧z3=soundT s2)∧BIf z3 (∃(l4:List Row), [Zae (Zam 2 (rowsR (StT.rows s)))]= [Zae (Zam 2 (rowsR l4))]∧Zab l4≤9223372036854775807∧BIf (validR l4) (BIf (decide (((Zab (rowsR (StT.rows s)):Nat):Int)<(16:Int))) (BIf (((Zab (rowsR (StT.rows s)):Nat):Int)==(0:Int)) (BIf (decide (((Zab (rowsR (StT.rows s)):Nat):Int)>(0:Int))) (∃(t5:TrT) (z6:Bool), [Zbp (trL (Zez s))]= [trV t5]∧z6=validT t5∧R (.d (bo z6)) b) (BIf (((Zab (digR (StT.pf s)):Nat):Int)==(0:Int)) (∃(t7:TrT) (z8:Bool), [Zbp (trL (Zez s))]= [trV t7]∧z8=validT t7∧R (.d (bo z8)) b) (R (.d (bo false)) b))) (∃(s9:StT) (z10:Bool), [stV s]= [stV s9]∧z10=fullP s9∧BIf (!z10) (BIf (decide (((Zab (rowsR (StT.rows s)):Nat):Int)>(0:Int))) (∃(t11:TrT) (z12:Bool), [Zbp (trL (Zez s))]= [trV t11]∧z12=validT t11∧R (.d (bo z12)) b) (BIf (((Zab (digR (StT.pf s)):Nat):Int)==(0:Int)) (∃(t13:TrT) (z14:Bool), [Zbp (trL (Zez s))]= [trV t13]∧z14=validT t13∧R (.d (bo z14)) b) (R (.d (bo false)) b))) (R (.d (bo false)) b))) (R (.d (bo false)) b)) (R (.d (bo false)) b)) (R (.d (bo false)) b))):=by kernel_rfl
theorem pcRSValid (s:StT) (hs:smallS s):PCall prog 23 [stV s] (.d (bo (validP s))):=by
 refine Zba (n:=100) (u:=false) mixed TRva_ok Zad func23 (by rfl) (by rfl) fun Ev bb=> ?_
 rw [rsvalid_nf,rowsR_len,digR_len,len_eq0,len_eq0,len_gt0]
 refine ⟨s,_,rfl,⟨hs,rfl⟩,Zan (fun h=>by rw [validP,h];rfl) fun h1=>⟨s,_,rfl,⟨hs,rfl⟩,Zan (fun h2=>⟨s.rows,rfl,by have:=hs.2.2.1.1;omega, ?_⟩) fun h2=> ?_⟩⟩
 · rw [validR_eq]
   refine Zan (fun h3=>Zan (fun h4=>Zan (fun h5=>Zan (fun h6=> ?_) fun h6=>Zan (fun h7=> ?_) fun h7=> ?_) fun h5=>⟨s,_,rfl,rfl,Zan (fun h8=>Zan (fun h6=> ?_) fun h6=>Zan (fun h7=> ?_) fun h7=> ?_) fun h8=> ?_⟩) fun h4=> ?_) fun h3=> ?_
   · rw [h5] at h6;cases h6
   · exact ⟨s.tr,_,rfl,rfl,by rw [validP,h1,h2,h3,h4,h5,h7];rfl⟩
   · rw [validP,h1,h2,h3,h4,h5,h7];rfl
   · exact ⟨s.tr,_,rfl,rfl,by rw [validP,h1,h2,h3,h4,h5,nbt h8];rfl⟩
   · rw [h5] at h6;cases h6
   · rw [h5] at h6;cases h6
   · rw [validP,h1,h2,h3,h4,h5,nbf h8];rfl
   · rw [validP,h1,h2,h3,h4];rfl
   · rw [validP,h1,h2,h3];rfl
 · rw [validP,h1,h2];rfl
def cRSValid (args:List AV) (K:AV→Prop):Prop:=∃(s:StT) (z:Bool),args= [stV s]∧(smallS s∧z=validP s)∧K (.d (bo z))
theorem cRSValid_ok:∀args K,cRSValid args K→∃x,PCall prog 23 args x∧K x:=by
 rintro _ K ⟨s,_,rfl,⟨hs,rfl⟩,h⟩;exact ⟨_,pcRSValid s hs,h⟩
def noB (n:NotT):Blk:=⟨noL n,false,false,0⟩
set_option maxHeartbeats 0
set_option maxRecDepth 100000
set_option maxRecDepth 20000
def hp0:List Int:=padS (smp.take 256)
def hp1:List Int:=padS (smp.drop 256)
def hR:Int:=(rootS [hp0,hp1]).1
def hN:NotT:=⟨3,300,hR,50⟩
def hs0:SprT:=⟨hN, [], [], [], [],0,0,0,0,0⟩
def hs1:SprT:=⟨hN, [hp0], [[leafS hp1]], [], [],0,0,0,0,0⟩
def hs2:SprT:=⟨hN, [hp0,hp1], [[leafS hp1], [leafS hp0]], [], [],0,0,0,0,0⟩
def hX:Int:=Zaa IntKind.u64 ((BitVec.toNat (Zao 64 (leafS hp0) ^^^ Zao 64 (1:Int)):Nat):Int)
set_option maxRecDepth 100000
set_option maxRecDepth 20000
theorem split_flat:∀(n:Nat) (p:List Int),p.length≤n→∃z,((chunkD 256 n p).map padS).flatten=p++Zaf z 0
 | 0,p,h=>by
   have:p= []:=List.length_eq_zero_iff.1 (by omega)
   subst this;exact ⟨0,rfl⟩
 | n+1,p,h=>by
   rw [chunkD]
   cases hp:p with
   |nil=>exact ⟨0,rfl⟩
   | cons a l=>
     rw [if_neg (by simp),←hp,List.map_cons,List.flatten_cons]
     have hl:1≤p.length:=by rw [hp];simp
     obtain ⟨z,hz⟩:=split_flat n (p.drop 256) (by simp;omega)
     rw [hz]
     by_cases h256:256≤p.length
     · refine ⟨z, ?_⟩
       have:padS (p.take 256)=p.take 256:=by
         have e:(p.take 256).length=256:=by simp;omega
         rw [padS,e];simp
       rw [this,←List.append_assoc,List.take_append_drop]
     · refine ⟨(256 - p.length)+z, ?_⟩
       rw [List.take_of_length_le (by omega),List.drop_of_length_le (by omega),List.nil_append,padS,List.append_assoc,List.replicate_append_replicate]
theorem all_zeros (z:Nat):(Zaf z (0:Int)).all (· ==0)=true:=List.all_eq_true.2 fun x hx=>by rw [(List.mem_replicate.1 hx).2];rfl
theorem split_all {p:List Int}:anyOther (splitS p)=false:=by
 rw [anyOther,List.any_eq_false]
 intro q hq
 rw [split_pieces] at hq
 obtain ⟨i,_,rfl⟩:=Zbh.1 hq
 have:=padS_len (piece_len p i)
 simp;omega
theorem split_len (p:List Int):(splitS p).length=(p.length+255) / 256:=by rw [split_pieces];simp
theorem join_split {p:List Int} {n:Nat} (hn:sizedS (n:Int)=true) (hc:(n+255) / 256=(p.length+255) / 256):
   joinS (splitS p) n=if (p.drop n).all (· ==0) then ((p++Zaf (n - p.length) 0).take n,0) else ([],12):=by
 obtain ⟨k,hk,h1,h2⟩:=sized_nat hn
 have hk:n=k:=by omega
 subst hk
 obtain ⟨z,hz⟩:=split_flat p.length p (Nat.le_refl _)
 have hz:(splitS p).flatten=p++Zaf z 0:=hz
 have hg:((!sizedS (n:Int))||((((splitS p).length:Int) !=countS n)||anyOther (splitS p)))=false:=by
   rw [hn,split_all,split_len,countS_eq (by omega),hc];simp
 have hs:=sum_pages (ps:=splitS p) split_all
 rw [hz,split_len] at hs
 rw [joinS,if_neg (by rw [hg];simp),Zax,hz]
 simp only [List.length_append,List.length_replicate] at hs
 have hd:(p++Zaf z 0).drop n=p.drop n++Zaf (z - (n - p.length)) 0:=by
   rw [List.drop_append,List.drop_replicate]
 have hall:((p++Zaf z 0).drop n).all (· ==0)=(p.drop n).all (· ==0):=by
   rw [hd,List.all_append,all_zeros,Bool.and_true]
 have ht:(p++Zaf z 0).take n=(p++Zaf (n - p.length) 0).take n:=by
   rw [List.take_append,List.take_append,List.take_replicate,List.take_replicate]
   congr 2;omega
 by_cases h:(p.drop n).all (· ==0)=true
 · rw [if_neg (by rw [trimS_all,hall,h];simp),if_pos h,ht]
 · rw [if_pos (by rw [trimS_all,hall];simpa using h),if_neg h]
set_option maxRecDepth 100000
set_option maxRecDepth 20000
def rootF:Nat→List Int→Int
 |0,now=>nth now 0
 |n+1,now=>if 1<now.length then rootF n (nextL now) else nth now 0
theorem last_root:∀(n:Nat) (now:List Int) (v:Int),lastS (levelsF n now) v=rootF n now
 |0,now,v=>rfl
 | n+1,now,v=>by
   rw [levelsF,rootF]
   split
   · exact last_root n (nextL now) _
   · rfl
theorem nth_cons (a:Int) (l:List Int) (i:Nat):nth (a::l) (i+1)=nth l i:=by simp [nth]
theorem next_len:∀l:List Int,(nextL l).length=(l.length+1) / 2
 | []=>rfl
 | [a]=>by simp [nextL]
 | a::c::l=>by
   have:=next_len l
   simp only [nextL,List.length_cons];omega
theorem next_nth:∀(l:List Int) (k:Nat),k<l.length→nth (nextL l) (k / 2)=if sibN k<l.length then (if k % 2=1 then pairS (nth l (sibN k)) (nth l k) else pairS (nth l k) (nth l (sibN k))) else nth l k
 | [],k,h=>by simp at h
 | [a],k,h=>by
   have:k=0:=by simp at h;omega
   subst this
   rfl
 | a::c::l,0,h=>by
   rw [show sibN 0=1 from rfl,if_pos (by simp),if_neg (by decide)];rfl
 | a::c::l,1,h=>by
   rw [show sibN 1=0 from rfl,if_pos (by simp),if_pos (by decide)];rfl
 | a::c::l,k+2,h=>by
   have ih:=next_nth l k (by simp at h;omega)
   have e1:(k+2) / 2=k / 2+1:=by omega
   have e2:sibN (k+2)=sibN k+2:=by unfold sibN;split<;>split<;>omega
   have e3:(k+2) % 2=k % 2:=by omega
   rw [e1,e2,e3,nextL,nth_cons,ih]
   have e4:nth (a::c::l) (sibN k+2)=nth l (sibN k):=by rw [show sibN k+2=(sibN k+1)+1 from rfl,nth_cons,nth_cons]
   have e5:nth (a::c::l) (k+2)=nth l k:=by rw [show k+2=(k+1)+1 from rfl,nth_cons,nth_cons]
   rw [e4,e5]
   by_cases hs:sibN k<l.length
   · rw [if_pos hs,if_pos (show sibN k+2<(a::c::l).length by simp only [List.length_cons];omega)]
   · rw [if_neg hs,if_neg (show ¬sibN k+2<(a::c::l).length by simp only [List.length_cons];omega)]
theorem check_right:∀(n w k:Nat) (now:List Int),now.length=w→k<w→w≤n+1→checkF (walkP n w k) (proofF (levelsF n now) k) (nth now k)=some ([],rootF n now)
 | 0,w,k,now,hw,hk,hn=>by
   have:k=0:=by omega
   subst this
   rw [walkP,levelsF,proofF,show sibN 0=1 from rfl,if_neg (by omega),proofF];rfl
 | n+1,w,k,now,hw,hk,hn=>by
   rw [walkP,levelsF,rootF,hw]
   by_cases h1:1<w
   · rw [if_pos h1,if_pos h1,if_pos h1,proofF,hw]
     have hnx:=next_nth now k (by omega)
     have hln:=next_len now
     have ih:=check_right n ((w+1) / 2) (k / 2) (nextL now) (by rw [hln,hw]) (by omega) (by omega)
     rw [hw] at hnx
     by_cases hs:sibN k<w
     · rw [if_pos hs] at hnx ⊢
       rw [decide_eq_true hs,List.singleton_append]
       by_cases hodd:k % 2=1
       · rw [if_pos hodd] at hnx
         rw [show (k % 2==1)=true by simp [hodd],checkF_t,←hnx];exact ih
       · rw [if_neg hodd] at hnx
         rw [show (k % 2==1)=false by simp;omega,checkF_g,←hnx];exact ih
     · rw [if_neg hs] at hnx ⊢
       rw [decide_eq_false hs,List.nil_append,checkF_f,←hnx];exact ih
   · rw [if_neg h1,if_neg h1,if_neg h1,proofF,proofF,List.append_nil]
     have:k=0:=by omega
     subst this
     rw [hw,show sibN 0=1 from rfl,if_neg (by omega)];rfl
theorem map_nth {l:List (List Int)} {i:Nat} (h:i<l.length):nth (l.map leafS) i=leafS (nthL l i):=by simp [nth,nthL,h]
theorem check_page {ps:List (List Int)} (h:areS ps=true) {i:Nat} (hi:i<ps.length):checkF (walkS ps.length i) (proofF (levelsS ps) i) (leafS (nthL ps i))=some ([],(rootS ps).1):=by
 rw [rootS,if_pos h,levelsS,last_root,walkS,List.length_map,←map_nth hi]
 exact check_right ps.length ps.length i (ps.map leafS) (by simp) hi (by omega)
theorem check_form {r:Int} {w i:Nat} {p q:List Int} (h1:1≤w) (h2:w≤16) (h3:i<w) (h4:p.length≤256):checkS r w i p q=topS r (checkF (walkS w i) q (leafS p)):=by
 rw [checkS,Zax,Zax,decide_eq_false (by omega),decide_eq_false (by omega),decide_eq_false (by omega),decide_eq_false (by omega),decide_eq_false (by omega)];rfl
theorem page_len {ps:List (List Int)} {i:Nat} (h:areS ps=true) (hi:i<ps.length):(proofF (levelsS ps) i).length≤16:=by
 have hl:ps.length≤16:=(areS_ok h).1
 have hF:=checkF_len ps.length ps.length i (proofF (levelsS ps) i) (leafS (nthL ps i))
 have hc:=check_page h hi
 rw [walkS] at hc
 have:=lenW_le ps.length ps.length i
 rcases Nat.lt_or_ge (proofF (levelsS ps) i).length (lenW ps.length ps.length i) with h1|h1
 · omega
 · obtain ⟨z,hz⟩:=hF.2 h1
   rw [hz] at hc
   simp only [Option.some.injEq,Prod.mk.injEq,List.drop_eq_nil_iff] at hc
   omega
def IsB (x:Int):Prop:=0≤x∧x<256
theorem split_range {p:List Int} (h:∀x∈p,IsB x):∀q∈splitS p,∀x∈q,IsB x:=by
 intro q hq x hx
 rw [split_pieces] at hq
 obtain ⟨i,_,rfl⟩:=Zbh.1 hq
 rw [padS] at hx
 rcases List.mem_append.1 hx with hx|hx
 · exact h x (List.mem_of_mem_drop (List.mem_of_mem_take hx))
 · rw [(List.mem_replicate.1 hx).2];exact ⟨by decide,by decide⟩
section
set_option maxRecDepth 100000
end
set_option maxRecDepth 20000
section
set_option maxRecDepth 100000
end
set_option maxRecDepth 20000
theorem allP_no (s z:SprT) (h:z.no=s.no):∀(ps qs:List (List Int)) (k:Nat),allP z k ps qs=allP s k ps qs
 | [],qs,k=>by rw [allP,allP]<;>(intros;simp_all)
 |p::ps, [],k=>by rw [allP,allP]<;>(intros;simp_all)
 |p::ps,q::qs,k=>by rw [allP,allP,allP_no s z h ps qs,provedS,provedS,h]
theorem allP_app (s:SprT) (p q:List Int):∀(ps qs:List (List Int)) (k:Nat),ps.length=qs.length→allP s k (ps++ [p]) (qs++ [q])=(allP s k ps qs&&provedS s ((k+ps.length:Nat):Int) p q)
 | [], [],k,h=>by
   show (provedS s k p q&&allP s (k+1) [] [])=_
   rw [show allP s (k+1) [] []=true from rfl,show allP s k [] []=true from rfl,Bool.and_true,Bool.true_and];rfl
 | [],q::qs,k,h=>by simp at h
 |p::ps, [],k,h=>by simp at h
 | a::ps,c::qs,k,h=>by
   show (provedS s k a c&&allP s (k+1) (ps++ [p]) (qs++ [q]))=((provedS s k a c&&allP s (k+1) ps qs)&&_)
   rw [allP_app s p q ps qs (k+1) (by simpa using h),Bool.and_assoc]
   congr 3
   rw [List.length_cons];congr 1;omega
theorem sound_put {s:SprT} {p q:List Int} (h:soundS s=true) (hp:p.length=256) (hc:(s.ps.length:Int)≠countS s.no.n) (hq:provedS s s.ps.length p q=true) (z:SprT) (hn:z.no=s.no) (h1:z.ps=s.ps++ [p]) (h2:z.qs=s.qs++ [q]):soundS z=true:=by
 obtain ⟨f1,f2,f3,f4,f5⟩:=sound_facts h
 simp only [soundS,Zak] at h
 obtain ⟨g1,g2,g3,g4,g5⟩:=h
 have g2:¬((s.ps.length:Int)>countS s.no.n):=by simpa using g2
 have g4:anyOther s.ps=false:=by simpa using g4
 have a1:anyOther (s.ps++ [p])=false:=by
   rw [anyOther] at g4 ⊢
   rw [List.any_append,g4]
   simp [hp]
 have a2:allP z 0 (s.ps++ [p]) (s.qs++ [q])=true:=by
   rw [allP_no s z hn,allP_app s p q _ _ _ f2.symm,g5,Nat.zero_add,hq];rfl
 rw [soundS,hn,h1,h2,g1,a1,a2]
 simp [f2];omega
section
set_option maxRecDepth 100000
end
set_option maxRecDepth 20000
structure Lays (no:NotT) (ps:List (List Int)):Prop where
 are:areS ps=true
 two:∀p∈ps,p.length=256
 ann:announcedS no.v no.n no.t=true
 cnt:countS no.n=ps.length
 rt:no.r=(rootS ps).1
def proofL (ps:List (List Int)) (i:Nat):List Int:=proofF (levelsS ps) i
def layS (no:NotT) (ps:List (List Int)) (k:Nat):SprT:=⟨no,ps.take k,(Zbe k).map (proofL ps), [], [],0,0,0,0,0⟩
theorem lay_len {no:NotT} {ps:List (List Int)} {k:Nat} (hk:k≤ps.length):(layS no ps k).ps.length=k:=by simp [layS];omega
theorem lay_at {ps:List (List Int)} {i:Nat} (h:i<ps.length):ps.take (i+1)=ps.take i++ [nthL ps i]:=by
 rw [nthL,List.getD_eq_getElem?_getD,List.getElem?_eq_getElem h,List.take_add_one,List.getElem?_eq_getElem h];rfl
theorem lay_proved {no:NotT} {ps:List (List Int)} (h:Lays no ps) {k i:Nat} (hi:i<ps.length):provedS (layS no ps k) i (nthL ps i) (proofL ps i)=true:=by
 obtain ⟨a1,a2,a3⟩:=areS_ok h.are
 show checkS no.r (countS no.n) i _ _=true
 rw [h.cnt,check_form (by omega) a1 hi (a3 _ (nthL_mem hi)),proofL,check_page h.are hi,h.rt]
 simp [topS]
theorem lay_qs {no:NotT} {ps:List (List Int)} (h:Lays no ps) {k:Nat} (hk:k≤ps.length):∀x∈(layS no ps k).qs,x.length≤1000000:=by
 intro x hx
 simp only [layS,Zbh,Zcn] at hx
 obtain ⟨i,hi,rfl⟩:=hx
 have:=page_len (i:=i) h.are (by omega)
 rw [proofL];omega
theorem lay_sound {no:NotT} {ps:List (List Int)} (h:Lays no ps):∀k:Nat,k≤ps.length→soundS (layS no ps k)=true
 | 0,_=>by
   have e:layS no ps 0=⟨no, [], [], [], [],0,0,0,0,0⟩:=by simp [layS]
   obtain ⟨a1,a2,a3⟩:=areS_ok h.are
   rw [e,soundS,h.ann,h.cnt]
   simp [anyOther,allP]
 | k+1,hk=>by
   refine sound_put (s:=layS no ps k) (p:=nthL ps k) (q:=proofL ps k) (lay_sound h k (by omega)) (h.two _ (nthL_mem (by omega))) ?_ (by rw [lay_len (by omega)];exact lay_proved h (by omega)) _ rfl (lay_at (by omega)) ?_
   · rw [lay_len (by omega)]
     show (k:Int)≠countS no.n
     rw [h.cnt];omega
   · show (Zbe (k+1)).map _=(Zbe k).map _++_
     rw [List.range_succ,List.map_append];rfl
theorem lay_proof {ps:List (List Int)} (h:areS ps=true) {k:Nat} (hk:k<ps.length):proofS ps k=(proofL ps k,0):=by
 rw [proofS,h,if_pos (by simp;omega),Zax];rfl
theorem lays_page {v t:Int} {p:List Int} (h:sizedS p.length=true) (ha:announcedS v p.length t=true):annS v p t=(⟨v,p.length,(rootS (splitS p)).1,t⟩,0)∧Lays ⟨v,p.length,(rootS (splitS p)).1,t⟩ (splitS p):=by
 have ar:=split_are h
 obtain ⟨k,hk,k1,k2⟩:=sized_nat h
 refine ⟨?_,ar,fun x hx=> ?_,ha, ?_,rfl⟩
 · rw [annS,if_pos (by rw [h,ha];rfl),show (rootS (splitS p)).2=0 by rw [rootS,if_pos ar]]
 · rw [split_pieces] at hx
   obtain ⟨i,_,rfl⟩:=Zbh.1 hx
   exact padS_len (piece_len p i)
 · show countS p.length=_
   rw [countS_eq (by omega),split_len]
set_option maxHeartbeats 1000000
def laySt (no:NotT) (ps:List (List Int)) (k:Nat) (l:List Row) (q:List Int) (t:TrT):StT:=⟨no,ps.take k,(Zbe k).map (proofL ps),l,q,t⟩
theorem allP_congr {s s':SprT} (h1:s.no=s'.no):∀(l q:List (List Int)) (i:Nat),allP s i l q=allP s' i l q
 | [],_,_=>rfl
 |_::_, [],_=>rfl
 | p::l,q::qs,i=>by
   show (provedS s i p q&&allP s (i+1) l qs)=(provedS s' i p q&&allP s' (i+1) l qs)
   rw [allP_congr h1 l qs (i+1),show provedS s i p q=provedS s' i p q by unfold provedS;rw [h1]]
theorem soundS_congr {s s':SprT} (h1:s.no=s'.no) (h2:s.ps=s'.ps) (h3:s.qs=s'.qs):soundS s=soundS s':=by
 unfold soundS
 rw [h1,h2,h3,allP_congr h1]
theorem lay_st_sound {no:NotT} {ps:List (List Int)} (h:Lays no ps) {k:Nat} (hk:k≤ps.length) (l:List Row) (q:List Int) (t:TrT):soundT (laySt no ps k l q t)=true:=by
 have e:soundS (laySt no ps k l q t).sp=soundS (layS no ps k):=soundS_congr rfl rfl rfl
 rw [soundT,e];exact lay_sound h k hk
theorem lay_st_len {no:NotT} {ps:List (List Int)} {k:Nat} (hk:k≤ps.length) (l:List Row) (q:List Int) (t:TrT):(laySt no ps k l q t).ps.length=k:=by simp [laySt];omega
theorem lays_16 {no:NotT} {ps:List (List Int)} (h:Lays no ps):ps.length≤16∧1≤ps.length:=by
 have:=sound_16 (lay_st_sound h (Nat.zero_le _) [] [] zeroT)
 have hc:=h.cnt
 have h2:countS no.n≤16:=this.2.1
 have h3:1≤countS no.n:=this.2.2.1
 omega
theorem ann_zero {no:NotT} (h:announcedS no.v no.n no.t=true):zeroN no=false:=by
 simp only [announcedS,Zak,decide_eq_true_eq] at h
 rw [Bool.eq_false_iff]
 intro hz
 simp only [zeroN,Zak,beq_iff_eq] at hz
 omega
theorem lay_st_valid {no:NotT} {ps:List (List Int)} (h:Lays no ps) {k:Nat} (hk:k≤ps.length) {l:List Row} {q:List Int} {t:TrT} (hg:Good l) (hl:l.length<16) (hf:l= []∨k<ps.length) (hq:l≠ []∨q= []) (ht:validT t=true):
   emptyS (laySt no ps k l q t)=false∧validP (laySt no ps k l q t)=true:=by
 have he:emptyS (laySt no ps k l q t)=false:=by
   rw [emptyS,show zeroN (laySt no ps k l q t).no=false from ann_zero h.ann];rfl
 refine ⟨he, ?_⟩
 rw [validP,he,lay_st_sound h hk,show validS (laySt no ps k l q t).rows=true by rw [←validR_eq];exact (validR_good l).2 hg]
 rw [show (laySt no ps k l q t).rows=l from rfl,show (laySt no ps k l q t).pf=q from rfl,show (laySt no ps k l q t).tr=t from rfl,ht,decide_eq_true (p:=(l.length:Int)<16) (by omega)]
 have hfull:(l.isEmpty|| !fullP (laySt no ps k l q t))=true:=by
   rcases hf with rfl|hf
   · rfl
   · rw [fullP,lay_st_len hk,show (laySt no ps k l q t).no=no from rfl,h.cnt]
     rw [Bool.or_eq_true];right
     simp;omega
 have hqe:(!l.isEmpty||q.isEmpty)=true:=by
   rcases hq with hq|rfl
   · cases l with
     |nil=>exact absurd rfl hq
     |cons _ _=>rfl
   · simp
 rw [hfull,hqe];rfl
theorem rec_sumN {p:List Int} {s n:Int} (hn:pageS n=true) (hs:seedS s=true) (l:List Row):recS l n s (encS p s)=addS l (setS s) (sumB p (setS s)):=by
 rw [enc_sum hs,recS,if_pos]
 simp [recOk,hs,sumB_len,hn]
theorem page_of {ps:List (List Int)} {k:Nat} (h:ps.length≤16) (hk:k<ps.length):pageS (k:Int)=true:=by simp [pageS];omega
theorem first_new {p:List Int} {m:Int} (h0:1≤m) (h1:m<65536):(addS [] m (sumB p m)).2.1=true:=by
 rcases fresh_law (p:=p) (ss:= []) (fun s h=>by cases h) h0 h1 with h|h
 · exfalso
   have e:or64 m (thereS [])=m:=by
     obtain ⟨k,rfl⟩:∃k:Nat,m=k:=⟨m.toNat,by omega⟩
     have:k<65536:=by omega
     unfold or64 thereS
     simp only [List.foldl_nil]
     rw [show (Zao 64 (k:Int)|||Zao 64 0)=Zao 64 (k:Int) by simp]
     rw [wrap_i64]
     · simp [BitVec.toNat_ofInt];omega
     · simp [BitVec.toNat_ofInt];omega
     · simp [BitVec.toNat_ofInt];omega
   rw [e] at h
   simp only [thereS,List.foldl_nil] at h
   omega
 · exact h
def blkOf (ps:List (List Int)) (k:Nat) (m:Int):BlkT:=⟨k,m,encS (nthL ps k) m,proofL ps k⟩
theorem lay_refused {no:NotT} {ps:List (List Int)} (h:Lays no ps) {k:Nat} (hk:k<ps.length) {l:List Row} {q:List Int} {t:TrT} (hg:Good l) (hl:l.length<16) (hq:l≠ []→q=proofL ps k) (hq0:l≠ []∨q= []) (ht:validT t=true) {m:Int} (hm:seedS m=true):
   refusedS (laySt no ps k l q t) (blkOf ps k m)=0:=by
 obtain ⟨a1,a2⟩:=lay_st_valid h (by omega) hg hl (.inr hk) hq0 ht
 obtain ⟨b1,b2⟩:=lays_16 h
 obtain ⟨c1,c2⟩:=seedS_iff.1 hm
 have hbad:badB (blkOf ps k m)=false:=by
   have hd:(encS (nthL ps k) m).length=16:=by rw [enc_sum hm];exact sumB_len _ _
   have e:badB (blkOf ps k m)=(decide ((k:Int)<0)||(decide ((k:Int)≥16)||(decide (m<0)||(decide (m>1000000000)||(((encS (nthL ps k) m).length:Int) !=16))))):=rfl
   rw [e,hd,decide_eq_false (p:=(k:Int)<0) (by omega),decide_eq_false (p:=(k:Int)≥16) (by omega),decide_eq_false (p:=m<0) (by omega),decide_eq_false (p:=m>1000000000) (by omega)]
   rfl
 have hfull:fullP (laySt no ps k l q t)=false:=by
   rw [fullP,lay_st_len (by omega),show (laySt no ps k l q t).no=no from rfl,h.cnt]
   simp;omega
 rw [refusedS,if_neg (by rw [a2,hbad];decide),if_neg (by rw [a1];decide),if_neg (by rw [hfull];decide),lay_st_len (by omega),if_neg (by simp [blkOf]),if_neg (by simp [blkOf]),if_neg]
 show ¬(!l.isEmpty&& !decide (proofL ps k=q))=true
 cases l with
 |nil=>simp
 |cons r l=>rw [hq (by simp)];simp
theorem putT_lay {no:NotT} {ps:List (List Int)} (h:Lays no ps) {k:Nat} (hk:k<ps.length) (l:List Row) (q:List Int) (t:TrT):putT (laySt no ps k l q t) (nthL ps k) (proofL ps k)=(laySt no ps (k+1) [] [] t,0):=by
 have h1:=lay_st_sound h (k:=k) (by omega) l q t
 have h2:=h.two _ (nthL_mem hk)
 have h3:provedS (laySt no ps k l q t).sp (laySt no ps k l q t).ps.length (nthL ps k) (proofL ps k)=true:=by
   rw [lay_st_len (by omega)];exact lay_proved (k:=k) h hk
 rw [putT,if_neg (by rw [h1,h2];simp),if_neg,if_neg (by rw [h3];simp)]
 · show (StT.mk no (ps.take k++ [nthL ps k]) ((Zbe k).map (proofL ps)++ [proofL ps k]) [] [] t,(0:Int))=_
   rw [←lay_at hk,laySt,List.range_succ,List.map_append];rfl
 · rw [lay_st_len (by omega)]
   show ¬(k:Int)=countS no.n
   rw [h.cnt];omega
theorem lay_recv {no:NotT} {ps:List (List Int)} (h:Lays no ps) {k:Nat} (hk:k<ps.length) {l:List Row} {q:List Int} {t:TrT} (hb:∀x∈nthL ps k,0≤x∧x<256) (hT:Tru (nthL ps k) l) (hl:l.length<16) (hq:l≠ []→q=proofL ps k) (hq0:l≠ []∨q= []) (ht:validT t=true) {m:Int} (hm:seedS m=true):
   recvT (laySt no ps k l q t) (blkOf ps k m)=if (addS l (setS m) (sumB (nthL ps k) (setS m))).1.length=16 then (laySt no ps (k+1) [] [] t,0) else (laySt no ps k (addS l (setS m) (sumB (nthL ps k) (setS m))).1 (proofL ps k) t,0):=by
 have hr:=lay_refused h hk hT.good hl hq hq0 ht hm
 obtain ⟨s0,s1⟩:=setS_range hm
 obtain ⟨g1,g2,g3,g4⟩:=add_count hT s0 (show setS m<65536 by omega)
 have er:recS (laySt no ps k l q t).rows (blkOf ps k m).n (blkOf ps k m).s (blkOf ps k m).d=addS l (setS m) (sumB (nthL ps k) (setS m)):=rec_sumN (page_of (lays_16 h).1 hk) hm l
 have hp:=h.two _ (nthL_mem hk)
 have en:nextSt (laySt no ps k l q t) (blkOf ps k m)=laySt no ps k (addS l (setS m) (sumB (nthL ps k) (setS m))).1 (proofL ps k) t:=by
   rw [nextSt,er];rfl
 rw [recvT,if_neg (by rw [hr];simp),er,if_neg (by rw [g1];simp)]
 by_cases h16:(addS l (setS m) (sumB (nthL ps k) (setS m))).1.length=16
 · have hpg:(pagesS (addS l (setS m) (sumB (nthL ps k) (setS m))).1).2=true:=by rw [pages_iff g2,h16];rfl
   rw [if_pos h16,if_neg (by rw [hpg];simp),pages_data g2 hp hb hpg,en,show (blkOf ps k m).pf=proofL ps k from rfl,putT_lay h hk,if_neg (by simp)]
 · have hpg:(pagesS (addS l (setS m) (sumB (nthL ps k) (setS m))).1).2=false:=by rw [pages_iff g2];simp [h16]
   rw [if_neg h16,if_pos hpg,en]
def FedA (no:NotT) (ps:List (List Int)) (k:Nat) (t:TrT) (st:StT):Prop:=
 ∃l q,st=laySt no ps k l q t∧Tru (nthL ps k) l∧l.length<16∧(l≠ []→q=proofL ps k)∧(l≠ []∨q= [])
def Fed (no:NotT) (ps:List (List Int)) (k:Nat) (t:TrT) (st:StT):Prop:=st=laySt no ps (k+1) [] [] t∨FedA no ps k t st
def bytesOk (p:List Int):Prop:=∀x∈p,0≤x∧x<256
theorem done_refused {no:NotT} {ps:List (List Int)} (h:Lays no ps) {k:Nat} (hk:k<ps.length) {t:TrT} (ht:validT t=true) {m:Int} (hm:seedS m=true):
   recvT (laySt no ps (k+1) [] [] t) (blkOf ps k m)=(laySt no ps (k+1) [] [] t,if k+1=ps.length then 10 else 14):=by
 obtain ⟨a1,a2⟩:=lay_st_valid h (k:=k+1) (by omega) (l:= []) (q:= []) (Tru.nil []).good (by simp) (.inl rfl) (.inr rfl) ht
 obtain ⟨b1,b2⟩:=lays_16 h
 obtain ⟨c1,c2⟩:=seedS_iff.1 hm
 have hd:(encS (nthL ps k) m).length=16:=by rw [enc_sum hm];exact sumB_len _ _
 have hbad:badB (blkOf ps k m)=false:=by
   have e:badB (blkOf ps k m)=(decide ((k:Int)<0)||(decide ((k:Int)≥16)||(decide (m<0)||(decide (m>1000000000)||(((encS (nthL ps k) m).length:Int) !=16))))):=rfl
   rw [e,hd,decide_eq_false (p:=(k:Int)<0) (by omega),decide_eq_false (p:=(k:Int)≥16) (by omega),decide_eq_false (p:=m<0) (by omega),decide_eq_false (p:=m>1000000000) (by omega)]
   rfl
 have hr:refusedS (laySt no ps (k+1) [] [] t) (blkOf ps k m)=if k+1=ps.length then 10 else 14:=by
   rw [refusedS,if_neg (by rw [a2,hbad];decide),if_neg (by rw [a1];decide),fullP,lay_st_len (by omega),show (laySt no ps (k+1) [] [] t).no=no from rfl,h.cnt]
   by_cases hf:k+1=ps.length
   · rw [if_pos (by rw [hf];simp),if_pos hf]
   · rw [if_neg (by simp;omega),if_neg hf,if_pos (by show (k:Int)<_;omega)]
 rw [recvT,hr,if_pos (by split<;>decide)]
theorem Fed.step {no:NotT} {ps:List (List Int)} {k:Nat} {t:TrT} {st:StT} (h:Lays no ps) (hk:k<ps.length) (hb:bytesOk (nthL ps k)) (ht:validT t=true) (hf:Fed no ps k t st) {m:Int} (hm:seedS m=true):
   Fed no ps k t (recvT st (blkOf ps k m)).1∧((recvT st (blkOf ps k m)).2=0∨(recvT st (blkOf ps k m)).2=10∨(recvT st (blkOf ps k m)).2=14):=by
 rcases hf with rfl|⟨l,q,rfl,hT,hl,hq,hq0⟩
 · rw [done_refused h hk ht hm]
   exact ⟨.inl rfl,by by_cases h':k+1=ps.length<;>simp [h']⟩
 · obtain ⟨s0,s1⟩:=setS_range hm
   obtain ⟨g1,g2,g3,g4⟩:=add_count hT s0 (show setS m<65536 by omega)
   rw [lay_recv h hk hb hT hl hq hq0 ht hm]
   by_cases h16:(addS l (setS m) (sumB (nthL ps k) (setS m))).1.length=16
   · rw [if_pos h16];exact ⟨.inl rfl, .inl rfl⟩
   · rw [if_neg h16]
     refine ⟨.inr ⟨_,_,rfl,g2,by have:=g2.good.len;omega,fun _=>rfl, .inl ?_⟩, .inl rfl⟩
     intro he
     have h0:l= []:=by
       have:(addS l (setS m) (sumB (nthL ps k) (setS m))).1.length=0:=by rw [he];rfl
       exact List.length_eq_zero_iff.1 (by omega)
     subst h0
     have:=first_new (p:=nthL ps k) s0 (show setS m<65536 by omega)
     rw [he,this] at g4
     simp at g4
theorem Fed.small {no:NotT} {ps:List (List Int)} {k:Nat} {t:TrT} {st:StT} (h:Lays no ps) (hk:k<ps.length) (hf:Fed no ps k t st):smallS st:=by
 obtain ⟨b1,b2⟩:=lays_16 h
 have key:∀(j:Nat) (l:List Row) (q:List Int),j≤ps.length→smallRows l→q.length≤1000000→smallS (laySt no ps j l q t):=by
   intro j l q hj h1 h2
   refine ⟨⟨by rw [lay_st_len hj];omega,fun p hp=> ?_⟩,⟨by simp [laySt];omega,lay_qs h hj⟩,h1,h2⟩
   rw [h.two p (List.mem_of_mem_take hp)];omega
 rcases hf with rfl|⟨l,q,rfl,hT,hl,hq,hq0⟩
 · exact key _ _ _ (by omega) ⟨by simp,fun r hr=>by cases hr⟩ (by simp)
 · refine key _ _ _ (by omega) ⟨by omega,fun r hr=>by rw [hT.good.len16 r hr];omega⟩ ?_
   by_cases hn:l= []
   · rcases hq0 with h0|h0
     · exact absurd hn h0
     · rw [h0];simp
   · rw [hq hn,proofL]
     have:=page_len (i:=k) h.are (by omega);omega
def feedT (ps:List (List Int)) (k:Nat) (st:StT) (ss:List Int):StT:=ss.foldl (fun s m=>(recvT s (blkOf ps k m)).1) st
theorem recvS_grows {p:List Int}:∀ {ss:List Int} {l:List Row},(∀s∈ss,seedS s=true)→Tru p l→l.length≤(allS p (masks ss) l).1.length
 | [],l,_,_=>Nat.le_refl _
 | m::ss,l,hs,ht=>by
   have hm:=hs m (Zaw ..)
   obtain ⟨s0,s1⟩:=setS_range hm
   obtain ⟨g1,g2,g3,g4⟩:=add_count ht s0 (show setS m<65536 by omega)
   have e2:allS p (masks (m::ss)) l=allS p (masks ss) (addS l (setS m) (sumB p (setS m))).1:=by
     show allS p (setS m::masks ss) l=_
     rw [allS,if_neg (by simp;omega)]
     dsimp only
     rw [if_neg (by rw [g1];simp)]
   rw [e2]
   have:=recvS_grows (fun s hs'=>hs s (Zau _ hs')) g2
   omega
theorem feed_rows {no:NotT} {ps:List (List Int)} {k:Nat} {t:TrT} (h:Lays no ps) (hk:k<ps.length) (hb:bytesOk (nthL ps k)) (ht:validT t=true):∀(ss:List Int) (l:List Row) (q:List Int),(∀s∈ss,seedS s=true)→Tru (nthL ps k) l→l.length<16→(l≠ []→q=proofL ps k)→(l≠ []∨q= [])→
   feedT ps k (laySt no ps k l q t) ss=laySt no ps (k+1) [] [] t∧16≤(allS (nthL ps k) (masks ss) l).1.length∨∃q',feedT ps k (laySt no ps k l q t) ss=laySt no ps k (allS (nthL ps k) (masks ss) l).1 q' t∧(allS (nthL ps k) (masks ss) l).1.length<16
 | [],l,q,hs,hT,hl,hq,hq0=> .inr ⟨q,rfl,hl⟩
 | m::ss,l,q,hs,hT,hl,hq,hq0=>by
   have hm:=hs m (Zaw ..)
   have hs':=fun s hs'=>hs s (Zau _ hs')
   obtain ⟨s0,s1⟩:=setS_range hm
   obtain ⟨g1,g2,g3,g4⟩:=add_count hT s0 (show setS m<65536 by omega)
   have e2:allS (nthL ps k) (masks (m::ss)) l=allS (nthL ps k) (masks ss) (addS l (setS m) (sumB (nthL ps k) (setS m))).1:=by
     show allS (nthL ps k) (setS m::masks ss) l=_
     rw [allS,if_neg (by simp;omega)]
     dsimp only
     rw [if_neg (by rw [g1];simp)]
   have e1:feedT ps k (laySt no ps k l q t) (m::ss)=feedT ps k (recvT (laySt no ps k l q t) (blkOf ps k m)).1 ss:=rfl
   rw [e2,e1,lay_recv h hk hb hT hl hq hq0 ht hm]
   by_cases h16:(addS l (setS m) (sumB (nthL ps k) (setS m))).1.length=16
   · rw [if_pos h16]
     left
     constructor
     · have:∀ss:List Int,(∀s∈ss,seedS s=true)→feedT ps k (laySt no ps (k+1) [] [] t) ss=laySt no ps (k+1) [] [] t:=by
         intro ss
         induction ss with
         |nil=>intro _;rfl
         | cons x ss ih=>
           intro hx
           have e:feedT ps k (laySt no ps (k+1) [] [] t) (x::ss)=feedT ps k (recvT (laySt no ps (k+1) [] [] t) (blkOf ps k x)).1 ss:=rfl
           rw [e,done_refused h hk ht (hx x (Zaw ..))]
           exact ih fun s hs=>hx s (Zau _ hs)
       exact this ss hs'
     · have:=recvS_grows (p:=nthL ps k) hs' g2
       omega
   · rw [if_neg h16]
     refine feed_rows h hk hb ht ss _ _ hs' g2 (by have:=g2.good.len;omega) (fun _=>rfl) (.inl ?_)
     intro he
     have h0:l= []:=by
       have:(addS l (setS m) (sumB (nthL ps k) (setS m))).1.length=0:=by rw [he];rfl
       exact List.length_eq_zero_iff.1 (by omega)
     subst h0
     have:=first_new (p:=nthL ps k) s0 (show setS m<65536 by omega)
     rw [he,this] at g4
     simp at g4
def TFe:List (Nat×(List AV→(AV→Prop)→Prop)):= [(87,cProof),(34,cEncB),(15,cSReceive)]
theorem TFe_ok:CallsOk prog TFe:=Zag cProof_ok (Zag cEncB_ok (Zag cSReceive_ok Zah))
noncomputable def lpFe:Code:=sub [1,1,1,0,1,2,3] (code f28)
def tmFe (ps:List (List Dv)) (k:Int) (q ss:List (List Dv)) (n i:Int):List AV:= [.bad, .d (.sl 1 ps), .d (i64 k), .bad, .ptr 0 0, .bad, .bad, .bad, .ptr 1 0, .bad, .d (.sl 1 q)]++Zaf 22 .bad++ [.d (.sl 1 ss), .d (i64 n), .d (i64 i)]++Zaf 38 .bad
theorem rFe (s:StT) (b1:List AV) (ps q ss:List (List Dv)) (k n i:Int):wpc prog ⟨TFe, [],wl,y,false⟩ 100 lpFe (tmFe ps k q ss n i) [stB s,zB13] b (maskK 2 [1,2,4,8,10,33,34,35] K)=(BIf (decide (i<n)) (BIf (true&&decide (0≤i)) (∃(x0:Int),ss[Zap i]? =some [i64 x0]∧BIf (true&&decide (0≤k)) (∃(xs3:List (List Dv)),ps[Zap k]? =some [Zam 1 xs3]∧∃(p6:List Int) (n7:Int) (s8:Int) (d9:List Int), [Zae (Zam 1 xs3),Zae (i64 k),Zae (i64 x0)]= [Zae (Zam 1 (bytesR p6)),Zae (i64 n7),Zae (i64 s8)]∧(encOk p6 n7 s8=true∧d9=encS p6 s8)∧∃(s10:StT) (x11:BlkT) (z12:StT) (e13:Int), [stV s,Zbp [Zae (i64 n7),Zae (i64 s8),Zae (Zam 1 (bytesR d9)),Zae (Zam 1 q)]]= [stV s10,bkV x11]∧(((smallS s10)∧Zab (BlkT.pf x11)≤1000000)∧(z12,e13)=recvT s10 x11)∧BIf (e13 !=(0:Int)) (BIf (e13 !=(14:Int)) (BIf (e13 !=(10:Int)) (K .ret (Zav::Zae (Zam 1 ps)::Zae (i64 k)::Zav::Zaz 0 0::bds 3 (Zaz 1 0::Zav::Zae (Zam 1 q)::bds 22 (Zae (Zam 1 ss)::Zae (i64 n)::Zae (i64 i)::bds 38 []))) [stB s,stB s] b) (K .normal (Zav::Zae (Zam 1 ps)::Zae (i64 k)::Zav::Zaz 0 0::bds 3 (Zaz 1 0::Zav::Zae (Zam 1 q)::bds 22 (Zae (Zam 1 ss)::Zae (i64 n)::Zae (i64 (Zaa .i64 (i+1)))::bds 38 []))) [stB z12,Blk.mk Qz4 false false 0] b)) (K .normal (Zav::Zae (Zam 1 ps)::Zae (i64 k)::Zav::Zaz 0 0::bds 3 (Zaz 1 0::Zav::Zae (Zam 1 q)::bds 22 (Zae (Zam 1 ss)::Zae (i64 n)::Zae (i64 (Zaa .i64 (i+1)))::bds 38 []))) [stB z12,Blk.mk Qz4 false false 0] b)) (K .normal (Zav::Zae (Zam 1 ps)::Zae (i64 k)::Zav::Zaz 0 0::bds 3 (Zaz 1 0::Zav::Zae (Zam 1 q)::bds 22 (Zae (Zam 1 ss)::Zae (i64 n)::Zae (i64 (Zaa .i64 (i+1)))::bds 38 []))) [stB z12,Blk.mk Qz4 false false 0] b)) False) False) (K (Exit.exit 0) (Zav::Zae (Zam 1 ps)::Zae (i64 k)::Zav::Zaz 0 0::bds 3 (Zaz 1 0::Zav::Zae (Zam 1 q)::bds 22 (Zae (Zam 1 ss)::Zae (i64 n)::Zae (i64 i)::bds 38 []))) [stB s,Blk.mk Qz4 false false 0] b)):=by kernel_rfl
theorem plain_nf:wpFn prog ⟨[], [],wl,y,true⟩ 100 f29 [] b R=(R (.d (Zam 1 [[i64 0], [i64 1], [i64 2], [i64 3], [i64 4], [i64 5], [i64 6], [i64 7], [i64 8], [i64 9], [i64 10], [i64 11], [i64 12], [i64 13], [i64 14], [i64 15]])) b):=by kernel_rfl
theorem pcPlainL:PCall prog 29 [] (.d (.sl 1 (intsR ss0))):=by
 refine Zba (n:=100) (u:=true) mixed Zah Zad func29 (by rfl) (by rfl) fun Ev bb=> ?_
 rw [plain_nf];rfl
def cPlainL (args:List AV) (K:AV→Prop):Prop:=args= []∧∃z:List Int,z=ss0∧K (.d (.sl 1 (intsR z)))
theorem cPlainL_ok:∀args K,cPlainL args K→∃x,PCall prog 29 args x∧K x:=by
 rintro _ K ⟨rfl,_,rfl,h⟩;exact ⟨_,pcPlainL,h⟩
theorem lays_enc {no:NotT} {ps:List (List Int)} (h:Lays no ps) {k:Nat} (hk:k<ps.length) {m:Int} (hm:seedS m=true):encOk (nthL ps k) k m=true:=by
 rw [encOk,h.two _ (nthL_mem hk),page_of (lays_16 h).1 hk,hm];rfl
theorem drop_nth {ss rest:List Int} {m:Int} {j:Nat} (hd:ss.drop j=m::rest):(intsR ss)[j]? =some [i64 m]:=by
 obtain ⟨h1,h2,_⟩:=drop_cons hd
 simp [intsR,h2]
theorem wrFe {Ev:Env prog} {b:Ev.β} {Q:Exit→St Ev.β→Prop} {no:NotT} {ps:List (List Int)} {k:Nat} {t:TrT} (h:Lays no ps) (hk:k<ps.length) (hb:bytesOk (nthL ps k)) (ht:validT t=true) (ss:List Int) (hs:∀s∈ss,seedS s=true) (hl:ss.length≤1000):
   ∀(rest:List Int) (j:Nat) (st:StT),ss.drop j=rest→Fed no ps k t st→(∀i:Int,Q (.exit 0) ⟨tmFe (partsR ps) k (digR (proofL ps k)) (intsR ss) ss.length i, [stB (feedT ps k st rest),zB13],b⟩)→WR Ev lpFe (rest.length+1) ⟨tmFe (partsR ps) k (digR (proofL ps k)) (intsR ss) ss.length j, [stB st,zB13],b⟩ Q
 | [],j,st,hd,hf,hQ=>by
   have hj:=drop_nil hd
   refine WR.ofMask [1,2,4,8,10,33,34,35] mixed (CX.Ok.of (u:=false) TFe_ok Zad) (k:=100) ?_
   refine Eq.mpr (rFe _ _ _ _ st [] (partsR ps) (digR (proofL ps k)) (intsR ss) k ss.length j) ?_
   exact Zct (by simp;omega) (hQ j)
 | m::rest,j,st,hd,hf,hQ=>by
   obtain ⟨hj,h2,hd'⟩:=drop_cons hd
   have hm:seedS m=true:=hs m (Zbg h2)
   obtain ⟨f1,f2⟩:=hf.step h hk hb ht hm
   refine WR.ofMask [1,2,4,8,10,33,34,35] mixed (CX.Ok.of (u:=false) TFe_ok Zad) (k:=100) ?_
   refine Eq.mpr (rFe _ _ _ _ st [] (partsR ps) (digR (proofL ps k)) (intsR ss) k ss.length j) ?_
   rw [wrapN (by omega),Zax,Zax]
   have hn:=page_len (i:=k) h.are (by omega)
   refine Zbl (by simp;omega) (Zbl (by simp) ⟨m,drop_nth hd,Zbl (by simp) ⟨bytesR (nthL ps k),parts_at hk,nthL ps k,k,m,_,rfl,⟨lays_enc h hk hm,rfl⟩,st,blkOf ps k m,(recvT st (blkOf ps k m)).1,(recvT st (blkOf ps k m)).2,rfl,⟨⟨hf.small h hk,by show (proofL ps k).length≤_;rw [proofL];omega⟩,rfl⟩, ?_⟩⟩)
   have nx:=wrFe (Q:=Q) h hk hb ht ss hs hl rest (j+1) (recvT st (blkOf ps k m)).1 hd' f1 hQ
   rcases f2 with f2|f2|f2<;>rw [f2]
   · exact Zct rfl nx
   · exact Zbl rfl (Zbl rfl (Zct rfl nx))
   · exact Zbl rfl (Zct rfl nx)
def wlFe {β:Type}:WLT β:=fun c tm hp b K=>∃(no:NotT) (ps:List (List Int)) (k:Nat) (t:TrT) (st:StT) (ss:List Int) (z:StT),c= .loop lpFe∧maskTm [1,2,4,8,10,33,34,35] 0 tm=tmFe (partsR ps) k (digR (proofL ps k)) (intsR ss) (intsR ss).length 0∧hp= [stB st,zB13]∧
 ((Lays no ps∧k<ps.length∧bytesOk (nthL ps k)∧validT t=true∧(∀s∈ss,seedS s=true)∧ss.length≤1000∧Fed no ps k t st)∧z=feedT ps k st ss)∧∀i:Int,K (.exit 0) (tmFe (partsR ps) k (digR (proofL ps k)) (intsR ss) ss.length i) [stB z,zB13] b
theorem wlFe_ok {Ev:Env prog} (c:Code) (tm:List AV) (hp:List Blk) (b:Ev.β) (K:Exit→List AV→List Blk→Ev.β→Prop) (h:wlFe c tm hp b K):W Ev c ⟨tm,hp,b⟩ (fun e s=>K e s.tm s.hp s.b):=by
 obtain ⟨no,ps,k,t,st,ss,z,rfl,htm,rfl,⟨⟨h1,h2,h3,h4,h5,h6,h7⟩,rfl⟩,hK⟩:=h
 rw [intsR_len] at htm
 refine W.cast (htm▸maskTm_le _ tm 0) (LeH.refl _) ?_
 exact W.rounds (wrFe (Q:=fun e s=>K e s.tm s.hp s.b) h1 h2 h3 h4 ss h5 h6 ss 0 st rfl h7 hK)
theorem feed_nf (s:StT) (ps ss:List (List Dv)) (k:Int):wpFn prog ⟨TFe, [],wlFe,y,false⟩ 100 f28 [stV s, .d (.sl 1 ps), .d (i64 k), .d (.sl 1 ss)] b R=(∃(ps0:List (List Int)) (i1:Int) (z2:List Int×Int), [Zae (Zam 1 ps),Zae (i64 k)]= [Zae (Zam 1 (partsR ps0)),Zae (i64 i1)]∧z2=proofS ps0 i1∧BIf (Prod.snd z2 !=(0:Int)) (R (.tup [stV s,Zae (bo false)]) b) (BIf (decide (k≥((Zab ps:Nat):Int))) (R (.tup [stV s,Zae (bo false)]) b) (∃(no3:NotT) (ps4:List (List Int)) (k5:Nat) (t6:TrT) (st7:StT) (ss8:List Int) (z9:StT),Zbd lpFe=Zbd lpFe∧(Zav::Zae (Zam 1 ps)::Zae (i64 k)::Zav::Zaz 0 0::bds 3 (Zaz 1 0::Zav::Zae (Zam 1 (digR (Prod.fst z2)))::bds 22 (Zae (Zam 1 ss)::Zae (i64 ((Zab ss:Nat):Int))::Zae (i64 0)::bds 38 [])))=(Zav::Zae (Zam 1 (partsR ps4))::Zae (i64 (k5:Int))::Zav::Zaz 0 0::bds 3 (Zaz 1 0::Zav::Zae (Zam 1 (digR (proofL ps4 k5)))::bds 22 (Zae (Zam 1 (intsR ss8))::Zae (i64 ((Zab (intsR ss8):Nat):Int))::Zae (i64 0)::bds 38 [])))∧ [stB s,Blk.mk Qz4 false false 0]= [stB st7,Blk.mk Qz4 false false 0]∧((Lays no3 ps4∧k5<Zab ps4∧(∀(x:Int),x∈nthL ps4 k5→(0:Int)≤x∧x<(256:Int))∧validT t6=true∧(∀(s:Int),s∈ss8→seedS s=true)∧Zab ss8≤1000∧(st7=laySt no3 ps4 (k5+1) [] [] t6∨∃(l10:List Row) (q11:List Int),st7=laySt no3 ps4 k5 l10 q11 t6∧Tru (nthL ps4 k5) l10∧Zab l10<16∧(l10≠ []→q11=proofL ps4 k5)∧(l10≠ []∨q11= [])))∧z9=feedT ps4 k5 st7 ss8)∧∀(i:Int),R (.tup [stV z9,Zae (bo true)]) b))):=by kernel_rfl
def OkFeed (no:NotT) (ps:List (List Int)) (k:Nat) (t:TrT) (st:StT) (ss:List Int):Prop:=Lays no ps∧k<ps.length∧bytesOk (nthL ps k)∧validT t=true∧(∀s∈ss,seedS s=true)∧ss.length≤1000∧Fed no ps k t st
theorem pcFeed {no:NotT} {ps:List (List Int)} {k:Nat} {t:TrT} {st:StT} {ss:List Int} (h:OkFeed no ps k t st ss):PCall prog 28 [stV st, .d (.sl 1 (partsR ps)), .d (i64 k), .d (.sl 1 (intsR ss))] (.tup [stV (feedT ps k st ss), .d (bo true)]):=by
 refine PCall.ofFnW (n:=100) (u:=false) (fun _=>wlFe) mixed TFe_ok Zad (fun Ev=>wlFe_ok) func28 (by rfl) (by rfl) fun Ev bb=> ?_
 rw [feed_nf]
 have hp:=lay_proof h.1.are h.2.1
 refine ⟨ps,k,_,rfl,rfl,Zct (by rw [hp];rfl) (Zct (by rw [partsR_len];have:=h.2.1;simp;omega) ⟨no,ps,k,t,st,ss,_,rfl,by rw [hp],rfl,⟨h,rfl⟩,fun i=>rfl⟩)⟩
def cFeed (args:List AV) (K:AV→Prop):Prop:=∃(no:NotT) (ps:List (List Int)) (k:Nat) (t:TrT) (st:StT) (ss:List Int) (z:StT),args= [stV st, .d (.sl 1 (partsR ps)), .d (i64 k), .d (.sl 1 (intsR ss))]∧(OkFeed no ps k t st ss∧z=feedT ps k st ss)∧K (.tup [stV z, .d (bo true)])
theorem cFeed_ok:∀args K,cFeed args K→∃x,PCall prog 28 args x∧K x:=by
 rintro _ K ⟨no,ps,k,t,st,ss,_,rfl,⟨h1,rfl⟩,h⟩;exact ⟨_,pcFeed h1,h⟩
theorem few_nf2 (s:StT) (near:List (List Dv)):wpFn prog ⟨[(46,cFew)], [],wl,y,false⟩ 100 f14 [stV s, .d (.sl 31 near)] b R=(∃(s0:SprT) (z1:Bool), [stV s]= [Zbp (spL s0)]∧((∀(r:List Dv),r∈SprT.rows s0→∃(m2:Int) (xs3:List (List Dv)),r= [i64 m2,Zam 1 xs3])∧z1=fewSI s0)∧BIf z1 (R (.d (bo (decide (((Zab near:Nat):Int)≤(100:Int))))) b) (R (.d (bo false)) b)):=by kernel_rfl
def fewT (s:StT):Bool:=fewSI s.sp
theorem few_small {s:StT} (h:fewT s=true):smallS s:=by
 simp only [fewT,fewSI,Zak,Bool.not_eq_true',decide_eq_false_iff_not] at h
 obtain ⟨h1,h2,h3,h4,h5,h6,h7⟩:=h
 have h1:¬(s.ps.length:Int)>20:=h1
 have h2:¬(s.qs.length:Int)>20:=h2
 have h3:¬((rowsR s.rows).length:Int)>40:=h3
 have h4:¬(s.pf.length:Int)>40:=h4
 rw [rowsR_len] at h3
 refine ⟨⟨by omega,fun p hp=> ?_⟩,⟨by omega,fun q hq=> ?_⟩,⟨by omega,fun r hr=> ?_⟩,by omega⟩
 · have h5:anyP s.ps=false:=h5
   rw [anyP,List.any_eq_false] at h5
   obtain ⟨i,hi⟩:=List.mem_iff_getElem?.1 hp
   have hi':=(List.getElem?_eq_some_iff.1 hi).1
   have:=h5 i (Zcn.2 hi')
   rw [nthL,List.getD_eq_getElem?_getD,hi] at this
   simp at this;omega
 · have h6:anyQ s.qs=false:=h6
   rw [anyQ,List.any_eq_false] at h6
   obtain ⟨i,hi⟩:=List.mem_iff_getElem?.1 hq
   have hi':=(List.getElem?_eq_some_iff.1 hi).1
   have:=h6 i (Zcn.2 hi')
   rw [nthL,List.getD_eq_getElem?_getD,hi] at this
   simp at this;omega
 · have h7:anyR (rowsR s.rows)=false:=h7
   rw [anyR,List.any_eq_false] at h7
   obtain ⟨i,hi⟩:=List.mem_iff_getElem?.1 hr
   have hi':=(List.getElem?_eq_some_iff.1 hi).1
   have:=h7 i (Zcn.2 (by rw [rowsR_len];exact hi'))
   have e:nthR (rowsR s.rows) i= [i64 r.1, .sl 1 (bytesR r.2)]:=by simp [nthR,rowsR,rowD,hi]
   rw [e,rowLen,bytesR_len] at this
   simp at this;omega
theorem pcFewL (s:StT) (near:List (List Dv)):PCall prog 14 [stV s, .d (.sl 31 near)] (.d (bo (fewT s&&decide ((near.length:Int)≤100)))):=by
 refine Zba (n:=100) (u:=false) mixed (Zag cFew_ok Zah) Zad func14 (by rfl) (by rfl) fun Ev bb=> ?_
 rw [few_nf2]
 refine ⟨s.sp,_,rfl,⟨fun r hr=> ?_,rfl⟩, ?_⟩
 · have hr:r∈rowsR s.rows:=hr
   simp only [rowsR,Zbh] at hr
   obtain ⟨x,_,rfl⟩:=hr
   exact ⟨_,_,rfl⟩
 · show BIf (fewT s) _ _
   exact Zan (fun h=>by rw [h];rfl) fun h=>by rw [h];rfl
def cFewL (args:List AV) (K:AV→Prop):Prop:=∃(s:StT) (near:List (List Dv)) (z:Bool),args= [stV s, .d (.sl 31 near)]∧z=(fewT s&&decide ((near.length:Int)≤100))∧K (.d (bo z))
theorem cFewL_ok:∀args K,cFewL args K→∃x,PCall prog 14 args x∧K x:=by
 rintro _ K ⟨s,n,_,rfl,rfl,h⟩;exact ⟨_,pcFewL s n,h⟩
def bkB (x:BlkT):Blk:=⟨bkL x,false,false,0⟩
noncomputable def lpPg:Code:=sub [1,1,0,1,2,3] (code f45)
def prgF (i:Nat):Int:=Zaa .u8 (Zaa .i64 (1+Int.tmod (Zaa .i64 ((i:Int)*5)) 251))
def prgP (k:Nat):List Int:=(Zbe k).map prgF++Zaf (300 - k) 0
def prg:List Int:=(Zbe 300).map prgF
def tmPg (n i:Int):List AV:= [.bad, .bad, .bad, .gref 0 0 300 1, .bad, .bad, .bad, .bad, .d (i64 n), .d (i64 i)]++Zaf 12 .bad
theorem rPg (cs:List AV) (n i:Int):wpc prog ⟨[],GB5,wl,y,false⟩ 100 lpPg (tmPg n i) [blkG cs 0] b (maskT [3,8,9] K)=(BIf (decide (i<n)) (0=0∧BIf (decide (0≤i)&&decide (i<(300:Int))) (0=0∧BIf (decide (Zap i*1+1≤Zab cs)) (K .normal (bds 3 (AV.gref 0 0 300 1::bds 4 (Zae (i64 n)::Zae (i64 (Zaa .i64 (i+1)))::bds 12 []))) [Blk.mk (List.take (Zap i*1) cs++ [Zae (u8 (Zaa .u8 (Zaa .i64 ((1:Int)+Int.tmod (Zaa .i64 (i*(5:Int))) (251:Int)))))]++List.drop (Zap i*1+1) cs) false true 0] b) False) False) (K (Exit.exit 0) (bds 3 (AV.gref 0 0 300 1::bds 4 (Zae (i64 n)::Zae (i64 i)::bds 12 []))) [Blk.mk cs false true 0] b)):=by kernel_rfl
theorem prgP_step {k:Nat} (hk:k<300):(flatA (bytesR (prgP k))).take (k*1)++ [Zae (u8 (prgF k))]++(flatA (bytesR (prgP k))).drop (k*1+1)=flatA (bytesR (prgP (k+1))):=by
 have e0:((Zbe k).map prgF).length=k:=by simp
 have e1:prgP (k+1)=(Zbe k).map prgF++ [prgF k]++Zaf (300 - (k+1)) 0:=by
   rw [prgP,List.range_succ,List.map_append];rfl
 have e2:Zaf (300 - k) (0:Int)=0::Zaf (300 - (k+1)) 0:=by
   rw [show 300 - k=(300 - (k+1))+1 by omega,List.replicate_succ]
 rw [flatA_bytes,flatA_bytes,e1,Nat.mul_one,prgP,e2]
 rw [←List.map_take,←List.map_drop,List.take_left' e0,List.drop_append,List.drop_of_length_le (by omega),e0]
 simp
theorem prgP_len {k:Nat} (hk:k≤300):(prgP k).length=300:=by simp [prgP];omega
theorem wrPg {Ev:Env prog} {b:Ev.β} {Q:Exit→St Ev.β→Prop}:∀(n k:Nat),300 - k=n→k≤300→
   (∀i:Int,Q (.exit 0) ⟨tmPg 300 i, [blkG (flatA (bytesR prg)) 0],b⟩)→WR Ev lpPg (n+1) ⟨tmPg 300 k, [blkG (flatA (bytesR (prgP k))) 0],b⟩ Q
 | n,k,hn,hk,h=>by
   refine WR.ofMaskT [3,8,9] mixed (CX.Ok.of (u:=false) Zah GB5_ok) (k:=100) ?_
   rw [rPg]
   refine Zan (fun g=> ?_) fun g=> ?_
   · have hlt:k<300:=by have:=of_decide_eq_true g;omega
     refine ⟨rfl,Zbl (by simp<;>omega) ⟨rfl,Zbl (by rw [flatA_bytes,List.length_map,prgP_len hk];simp<;>omega) ?_⟩⟩
     rw [Zax,show Zaa .u8 (Zaa .i64 (1+Int.tmod (Zaa .i64 ((k:Int)*5)) 251))=prgF k from rfl,prgP_step hlt,wrap_succ (n:=300) hlt (by omega)]
     cases n with
     |zero=>omega
     |succ n=>exact wrPg n (k+1) (by omega) (by omega) h
   · have hk:k=300:=by have:=of_decide_eq_false g;omega
     subst hk
     have e:prgP 300=prg:=by rw [prgP,Nat.sub_self,List.replicate_zero,List.append_nil];rfl
     rw [e];exact h _
def wlPg {β:Type}:WLT β:=fun c tm hp b K=>c= .loop lpPg∧maskTm [3,8,9] 0 tm=tmPg 300 0∧hp= [blkG (flatA (Zaf 300 [u8 0])) 0]∧∃z:List Int,z=prg∧∀k:Int,K (.exit 0) (tmPg 300 k) [blkG (flatA (bytesR z)) 0] b
theorem wlPg_ok {Ev:Env prog} (c:Code) (tm:List AV) (hp:List Blk) (b:Ev.β) (K:Exit→List AV→List Blk→Ev.β→Prop) (h:wlPg c tm hp b K):W Ev c ⟨tm,hp,b⟩ (fun e s=>K e s.tm s.hp s.b):=by
 obtain ⟨rfl,htm,rfl,z,rfl,hK⟩:=h
 refine W.cast (htm▸maskTm_le _ tm 0) (LeH.refl _) ?_
 have e:Zaf 300 [u8 0]=bytesR (prgP 0):=by rw [prgP,List.range_zero,List.map_nil,List.nil_append,bytesR,List.map_replicate]
 rw [e]
 exact W.rounds (wrPg (Q:=fun e s=>K e s.tm s.hp s.b) 300 0 rfl (by omega) hK)
abbrev Qz34:List AV:=bds 3 (AV.gref 0 0 300 1::bds 4 (Zae (i64 300)::Zae (i64 0)::bds 12 []))
theorem program_nf:wpFn prog ⟨[],GB5,wlPg,y,false⟩ 100 f45 [.d (i64 300)] b R=(0=0∧Zbd lpPg=Zbd lpPg∧Qz34=Qz34∧ [Blk.mk (Zaf 300 (Zae (u8 0))) false true 0]= [Blk.mk (Zaf 300 (Zae (u8 0))) false true 0]∧∃(z0:List Int),z0=prg∧∀(k:Int),0=0∧∃(xs1:List (List Dv)),flatA (bytesR z0)=flatA xs1∧Zab xs1=300∧(∀(r:List Dv),r∈xs1→Zab r=1)∧R (.d (Zam 1 xs1)) b):=by kernel_rfl
theorem prg_len:prg.length=300:=by simp [prg]
theorem pcProgram:PCall prog 45 [.d (i64 300)] (.d (.sl 1 (bytesR prg))):=by
 refine PCall.ofFnW (n:=100) (u:=false) (fun _=>wlPg) mixed Zah GB5_ok (fun Ev=>wlPg_ok) func45 (by rfl) (by rfl) fun Ev bb=> ?_
 rw [program_nf]
 refine ⟨rfl,rfl,rfl,rfl,_,rfl,fun _=>⟨rfl,bytesR prg,rfl,by rw [bytesR_len,prg_len],bytes_row,rfl⟩⟩
def cProgram (args:List AV) (K:AV→Prop):Prop:=∃z:List Int,args= [.d (i64 300)]∧z=prg∧K (.d (.sl 1 (bytesR z)))
theorem cProgram_ok:∀args K,cProgram args K→∃x,PCall prog 45 args x∧K x:=by
 rintro _ K ⟨_,rfl,rfl,h⟩;exact ⟨_,pcProgram,h⟩
set_option maxRecDepth 100000
set_option maxHeartbeats 0
def cWholeT (args:List AV) (K:AV→Prop):Prop:=∃(s:StT) (z:List Int) (e:Bool),args= [stV s]∧(smallS s∧(z,e)=wholeS s.sp)∧K (.tup [.d (.sl 1 (bytesR z)), .d (bo e)])
theorem cWholeT_ok:∀args K,cWholeT args K→∃x,PCall prog 30 args x∧K x:=by
 rintro _ K ⟨s,z,e,rfl,⟨hs,he⟩,h⟩
 exact cWhole_ok _ K ⟨s.sp,z,e,rfl,⟨by have:=hs.1.1;show s.ps.length≤_;omega,he⟩,h⟩
def THe:List (Nat×(List AV→(AV→Prop)→Prop)):= [(45,cProgram),(27,cSplitE),(25,cAnnounce),(21,lessC cSHear),(34,cEncB),(15,lessC cSReceive),(29,cPlainL),(28,cFeed),(30,cWholeT),(17,semC cSServe),(31,cBytes)]
theorem THe_ok:CallsOk prog THe:=Zag cProgram_ok (Zag cSplitE_ok (Zag cAnnounce_ok (Zag (lessC_ok cSHear_ok) (Zag cEncB_ok (Zag (lessC_ok cSReceive_ok) (Zag cPlainL_ok (Zag cFeed_ok (Zag cWholeT_ok (Zag (semC_ok cSServe_ok) (Zag cBytes_ok Zah))))))))))
abbrev Qz31 (v0:Int) (v1:Int) (v2:List Int):List AV:= [Zae (i64 v0),Zae (i64 v1),Zae (Zam 1 (bytesR v2)),Zae (Dv.s (.slice none 0 0))]
theorem shead_nf:wpFn prog ⟨THe, [],wl,y,false⟩ 200 f13 [] b R=(∃(z0:List Int), [Zae (i64 300)]= [Zae (i64 300)]∧z0=prg∧∃(p1:List Int) (q2:List (List Int)) (e3:Int), [Zae (Zam 1 (bytesR z0))]= [Zae (Zam 1 (bytesR p1))]∧(Zab p1≤9223372036854775807∧(q2,e3)=splitE p1)∧∃(v4:Int) (t5:Int) (p6:List Int) (z7:NotT) (e8:Int), [Zae (i64 2),Zae (Zam 1 (bytesR z0)),Zae (i64 100)]= [Zae (i64 v4),Zae (Zam 1 (bytesR p6)),Zae (i64 t5)]∧(Zab p6≤9223372036854775807∧(z7,e8)=annS v4 p6 t5)∧∃(args9:List AV),LeVs [Zbp [Zae (i64 0),Zae (i64 0),Zae (u64 0),Zae (i64 0),Zae (Dv.s (.slice none 0 0)),Zae (Dv.s (.slice none 0 0)),Zae (Dv.s (.slice none 0 0)),Zae (Dv.s (.slice none 0 0)),Zae (i64 0),Zae (i64 0),Zae (i64 0),Zae (i64 0),Zae (i64 7)],noV z7,Zae (i64 1),Zae (i64 5)] args9∧∃(s10:StT) (n11:NotT) (p12:Int) (f13:Int) (z14:StT),args9= [stV s10,noV n11,Zae (i64 p12),Zae (i64 f13)]∧((smallS s10)∧z14=hearS s10 n11 p12 f13)∧BIf (e3 !=(0:Int)) (R (.d (bo false)) b) (BIf (e8 !=(0:Int)) (R (.d (bo false)) b) (BIf (!(Zdy (Zcd z14)==Zdy z7&&(Zed (Zcd z14)==Zed z7&&(Zel (Zcd z14)==Zel z7&&(Zem (Zcd z14)==Zem z7&&true))))) (R (.d (bo false)) b) (BIf (TrT.iv (Zez z14) !=(1:Int)) (R (.d (bo false)) b) (BIf (TrT.sd (Zez z14) !=(7:Int)) (R (.d (bo false)) b) (∃(xs15:List (List Dv)),(partsR q2)[1]? =some [Zam 1 xs15]∧∃(p18:List Int) (n19:Int) (s20:Int) (d21:List Int), [Zae (Zam 1 xs15),Zae (i64 1),Zae (i64 0)]= [Zae (Zam 1 (bytesR p18)),Zae (i64 n19),Zae (i64 s20)]∧(encOk p18 n19 s20=true∧d21=encS p18 s20)∧∃(args22:List AV),LeVs [stV z14,Zbp (Qz31 n19 s20 d21)] args22∧∃(s23:StT) (x24:BlkT) (z25:StT) (e26:Int),args22= [stV s23,bkV x24]∧(((smallS s23)∧Zab (BlkT.pf x24)≤1000000)∧(z25,e26)=recvT s23 x24)∧∃(args27:List AV),LeVs [Zbp Qz4,Zbp (Qz31 n19 s20 d21)] args27∧∃(s28:StT) (x29:BlkT) (z30:StT) (e31:Int),args27= [stV s28,bkV x29]∧(((smallS s28)∧Zab (BlkT.pf x29)≤1000000)∧(z30,e31)=recvT s28 x29)∧([]:List AV)= []∧∃(z32:List Int),z32=ss0∧∃(no33:NotT) (ps34:List (List Int)) (k35:Nat) (t36:TrT) (st37:StT) (ss38:List Int) (z39:StT), [stV z14,Zae (Zam 1 (partsR q2)),Zae (i64 0),Zae (Zam 1 (intsR z32))]= [stV st37,Zae (Zam 1 (partsR ps34)),Zae (i64 (k35:Int)),Zae (Zam 1 (intsR ss38))]∧((Lays no33 ps34∧k35<Zab ps34∧(∀(x:Int),x∈nthL ps34 k35→(0:Int)≤x∧x<(256:Int))∧validT t36=true∧(∀(s:Int),s∈ss38→seedS s=true)∧Zab ss38≤1000∧(st37=laySt no33 ps34 (k35+1) [] [] t36∨∃(l40:List Row) (q41:List Int),st37=laySt no33 ps34 k35 l40 q41 t36∧Tru (nthL ps34 k35) l40∧Zab l40<16∧(l40≠ []→q41=proofL ps34 k35)∧(l40≠ []∨q41= [])))∧z39=feedT ps34 k35 st37 ss38)∧([]:List AV)= []∧∃(z42:List Int),z42=ss0∧∃(no43:NotT) (ps44:List (List Int)) (k45:Nat) (t46:TrT) (st47:StT) (ss48:List Int) (z49:StT), [stV z39,Zae (Zam 1 (partsR q2)),Zae (i64 1),Zae (Zam 1 (intsR z42))]= [stV st47,Zae (Zam 1 (partsR ps44)),Zae (i64 (k45:Int)),Zae (Zam 1 (intsR ss48))]∧((Lays no43 ps44∧k45<Zab ps44∧(∀(x:Int),x∈nthL ps44 k45→(0:Int)≤x∧x<(256:Int))∧validT t46=true∧(∀(s:Int),s∈ss48→seedS s=true)∧Zab ss48≤1000∧(st47=laySt no43 ps44 (k45+1) [] [] t46∨∃(l50:List Row) (q51:List Int),st47=laySt no43 ps44 k45 l50 q51 t46∧Tru (nthL ps44 k45) l50∧Zab l50<16∧(l50≠ []→q51=proofL ps44 k45)∧(l50≠ []∨q51= [])))∧z49=feedT ps44 k45 st47 ss48)∧∃(s52:StT) (z53:List Int) (e54:Bool), [stV z49]= [stV s52]∧((smallS s52)∧(z53,e54)=wholeS (StT.sp s52))∧∃(args55:List AV),LeVs [stV z49,Zbp (Qz31 n19 s20 d21)] args55∧∃(s56:StT) (x57:BlkT) (z58:StT) (e59:Int),args55= [stV s56,bkV x57]∧(((smallS s56)∧Zab (BlkT.pf x57)≤1000000)∧(z58,e59)=recvT s56 x57)∧∃(args60:List AV),SemVs [stV z49,AV.full 31 [[i64 0,i64 0,i64 0,i64 0,i64 0,i64 0,i64 0,i64 0,i64 0,i64 0,i64 0,i64 0,Dv.s (.slice none 0 0),Dv.s (.slice none 0 0),Dv.s (.slice none 0 0),Dv.s (.slice none 0 0),bo false,Dv.s (.slice none 0 0),Dv.s (.slice none 0 0),Dv.s (.slice none 0 0),i64 (Zdy z7),i64 (Zed z7),u64 (Zel z7),i64 (Zem z7),i64 1,i64 0,i64 0,i64 0,Dv.s (.slice none 0 0),Dv.s (.slice none 0 0),bo false]],Zae (i64 5)] args60∧∃(s61:StT) (l62:List NearT) (f63:Int) (z64:StT) (x65:BlkT) (e66:Bool),args60= [stV s61,Zae (Zam 31 (nearR l62)),Zae (i64 f63)]∧(((smallS s61)∧Zab l62≤1000000)∧(z64,x65,e66)=serveS s61 l62 f63)∧BIf (e26==(6:Int)) (BIf (e31==(4:Int)) (BIf (e59==(10:Int)) (BIf e54 (BIf (((Zab (partsR (Zeu z39)):Nat):Int)==(1:Int)) (∃(a67:List Int) (c68:List Int) (z69:Bool), [Zae (Zam 1 (bytesR z53)),Zae (Zam 1 (bytesR z0))]= [Zae (Zam 1 (bytesR a67)),Zae (Zam 1 (bytesR c68))]∧(Zab a67≤9223372036854775807∧z69=decide (a67=c68))∧BIf z69 (BIf e66 (BIf (BlkT.n x65==(1:Int)) (BIf (BlkT.s x65==(327:Int)) (R (.d (bo (((Zab (digR (BlkT.pf x65)):Nat):Int)==(1:Int)))) b) (R (.d (bo false)) b)) (R (.d (bo false)) b)) (R (.d (bo false)) b)) (R (.d (bo false)) b)) (R (.d (bo false)) b)) (R (.d (bo false)) b)) (R (.d (bo false)) b)) (R (.d (bo false)) b)) (R (.d (bo false)) b))))))):=by kernel_rfl
set_option maxRecDepth 20000
set_option maxHeartbeats 2000000
def hps:List (List Int):=splitS prg
def hno:NotT:=(annS 2 prg 100).1
def ht:TrT:=beginS 7 1 5
theorem hsz:sizedS (prg.length:Int)=true:=by rw [prg_len];decide
theorem hann:announcedS 2 (prg.length:Int) 100=true:=by rw [prg_len];decide
theorem hno_eq:annS 2 prg 100=(hno,0):=by rw [hno,(lays_page hsz hann).1]
theorem hlays:Lays hno hps:=by
 have:=lays_page (v:=2) (t:=100) hsz hann
 rw [hno,this.1];exact this.2
theorem hps_len:hps.length=2:=by rw [hps,split_len,prg_len]
theorem prg_isB:∀x∈prg,IsB x:=by
 intro x hx
 obtain ⟨i,hi,rfl⟩:=Zbh.1 hx
 have hi:=Zcn.1 hi
 have key:∀i,i<300→IsB (prgF i):=by unfold IsB;decide+kernel
 exact key i hi
theorem hps_ok {k:Nat} (hk:k<2):bytesOk (nthL hps k):=fun x hx=>split_range prg_isB _ (nthL_mem (by show k<hps.length;rw [hps_len];exact hk)) x hx
theorem ht_valid:validT ht=true:=begin_valid (.inl rfl) (by decide) (by decide)
theorem ht_bel:belowS (1000003*7+5) (1 - 1 / 2)=0:=by
 have:=belowS_range (1000003*7+5) (n:=1 - 1 / 2) (by decide) (by decide)
 omega
theorem ht_fi:ht.fi=5:=by
 show (5:Int)+1 / 2+belowS (1000003*7+5) (1 - 1 / 2)=5
 rw [ht_bel];decide
theorem ht_tick:tickT ht 5=(ht,true):=by
 have e:laterT ht 5=ht:=by rw [laterT,if_neg (by decide)]
 rw [tickT,if_pos (by rw [ht_valid];decide),e,ht_fi];rfl
def zst (sd:Int):StT:=⟨⟨0,0,0,0⟩, [], [], [], [],⟨0,0,0,0,sd⟩⟩
def hst:StT:=laySt hno hps 0 [] [] ht
theorem hno_fields:hno.v=2∧hno.n=300∧hno.t=100:=by
 rw [hno,(lays_page hsz hann).1]
 exact ⟨rfl,by show (prg.length:Int)=300;rw [prg_len];rfl,rfl⟩
theorem hhear:hearS (zst 7) hno 1 5=hst:=by
 obtain ⟨f1,f2,f3⟩:=hno_fields
 have h1:okHear (zst 7) hno 1 5=true:=by
   rw [okHear,show validP (zst 7)=true by rw [validP,show emptyS (zst 7)=true by decide];rfl,hlays.ann,f2,show frameS 5=true by decide,show countS 300=2 by decide]
   simp
 have e:(newT 7 5).1=ht:=by rw [newT,if_pos (by decide)];rfl
 rw [hearS,if_neg (by rw [h1];decide),if_pos (by rw [f1];decide)]
 show StT.mk hno [] [] [] [] (newT 7 5).1=_
 rw [e];rfl
theorem hfeed {k:Nat} (hk:k<2):feedT hps k (laySt hno hps k [] [] ht) ss0=laySt hno hps (k+1) [] [] ht:=by
 have hk':k<hps.length:=by rw [hps_len];exact hk
 have hf:=all_full (p:=nthL hps k) (ms:=masks ss0) (hps_ok hk) (by decide+kernel) masks16_full
 rcases feed_rows hlays hk' (hps_ok hk) ht_valid ss0 [] [] (by decide) (Tru.nil _) (by simp) (by simp) (.inr rfl) with h|⟨q,h1,h2⟩
 · exact h.1
 · omega
theorem hbad (m:Int) (hm:seedS m=true):badB (blkOf hps 1 m)=false:=by
 obtain ⟨c1,c2⟩:=seedS_iff.1 hm
 have hd:(encS (nthL hps 1) m).length=16:=by rw [enc_sum hm];exact sumB_len _ _
 have e:badB (blkOf hps 1 m)=(decide ((1:Int)<0)||(decide ((1:Int)≥16)||(decide (m<0)||(decide (m>1000000000)||(((encS (nthL hps 1) m).length:Int) !=16))))):=rfl
 rw [e,hd,decide_eq_false (p:=m<0) (by omega),decide_eq_false (p:=m>1000000000) (by omega)]
 rfl
def hblk:BlkT:=⟨1,0,encS (nthL hps 1) 0, []⟩
theorem hbad0:badB hblk=false:=by
 have:=hbad 0 (by decide)
 exact this
theorem hlater:(recvT hst hblk).2=6:=by
 obtain ⟨a1,a2⟩:=lay_st_valid hlays (k:=0) (by omega) (l:= []) (q:= []) (Tru.nil []).good (by simp) (.inl rfl) (.inr rfl) ht_valid
 have hf:fullP hst=false:=by
   rw [hst,fullP,lay_st_len (by omega),show (laySt hno hps 0 [] [] ht).no=hno from rfl,hlays.cnt,hps_len];decide
 have hr:refusedS hst hblk=6:=by
   rw [refusedS,if_neg (by rw [hst,a2,hbad0];decide),if_neg (by rw [hst,a1];decide),if_neg (by rw [hf];decide)]
   rfl
 rw [recvT,if_pos (by rw [hr];decide),hr]
theorem hempty:(recvT (zst 0) hblk).2=4:=by
 have hv:validP (zst 0)=true:=by rw [validP,show emptyS (zst 0)=true by decide];rfl
 have hr:refusedS (zst 0) hblk=4:=by
   rw [refusedS,if_neg (by rw [hv,hbad0];decide),if_pos (by decide)]
 rw [recvT,if_pos (by rw [hr];decide),hr]
def hend:StT:=laySt hno hps 2 [] [] ht
theorem hvalid:emptyS hend=false∧validP hend=true:=lay_st_valid hlays (k:=2) (by rw [hps_len];omega) (l:= []) (q:= []) (Tru.nil []).good (by simp) (.inl rfl) (.inr rfl) ht_valid
theorem hfull:(recvT hend hblk).2=10:=by
 have hf:fullP hend=true:=by
   rw [hend,fullP,lay_st_len (by rw [hps_len];omega),show (laySt hno hps 2 [] [] ht).no=hno from rfl,hlays.cnt,hps_len];decide
 have hr:refusedS hend hblk=10:=by
   rw [refusedS,if_neg (by rw [hvalid.2,hbad0];decide),if_neg (by rw [hvalid.1];decide),if_pos hf]
 rw [recvT,if_pos (by rw [hr];decide),hr]
theorem hwhole:wholeS hend.sp=(prg,true):=by
 have h1:soundS hend.sp=true:=lay_st_sound hlays (by rw [hps_len];omega) [] [] ht
 have h2:hend.sp.ps=hps:=List.take_of_length_le (by rw [hps_len];omega)
 have h3:hend.sp.no.n=((prg.length:Nat):Int):=by rw [prg_len];exact hno_fields.2.1
 have h4:=join_split (p:=prg) (n:=prg.length) hsz rfl
 rw [List.drop_of_length_le (Nat.le_refl _),if_pos (by rfl),Nat.sub_self,List.replicate_zero,List.append_nil,List.take_of_length_le (Nat.le_refl _)] at h4
 rw [wholeS,if_pos h1,h2,h3,show joinS hps prg.length=joinS (splitS prg) prg.length from rfl,h4];rfl
def hnear:NearT:=⟨0,0,0,0,0,0,0,0,0,0,0,0, [], [], [], [],false, [], [], [],hno,1,0,0,0, [], [],false⟩
theorem hserve:(serveS hend [hnear] 5).2.2=true∧(serveS hend [hnear] 5).2.1.n=1∧(serveS hend [hnear] 5).2.1.s=327∧(serveS hend [hnear] 5).2.1.pf.length=1:=by
 have h1:okServe hend 5=true:=by rw [okServe,hvalid.1,hvalid.2];decide
 have hl:lackP hend [hnear]= [1]:=by
   rw [lackP,List.filter_cons,if_pos (show eqN hnear.no hend.no=true from eqN_iff.2 rfl)];rfl
 have hp:hend.ps.length=2:=lay_st_len (by rw [hps_len];omega) [] [] ht
 have hle:leastS [1] 2=1:=by decide
 have htk:tickT hend.tr 5=(ht,true):=ht_tick
 rw [serveS,if_neg (by rw [h1];decide),hl,hp,htk]
 rw [if_neg (by rw [show leastS [1] ((2:Nat):Int)=1 from hle];decide)]
 rw [show leastS [1] ((2:Nat):Int)=1 from hle]
 refine ⟨rfl,rfl,rfl, ?_⟩
 have e:nthL hend.qs (1:Int).toNat=proofL hps 1:=rfl
 show (nthL hend.qs (1:Int).toNat).length=1
 rw [e,proofL,levelsS]
 generalize hm:hps.map leafS=now
 have hn:now.length=2:=by rw [←hm,List.length_map,hps_len]
 rw [hn]
 have e2:(nextL now).length=1:=by
   match now,hn with
   | [a,c],_=>rfl
 rw [levelsF,if_pos (by omega),levelsF,if_neg (by omega),proofF,if_pos (by rw [hn];decide),proofF,if_neg (by rw [e2];decide),proofF]
 rfl
set_option maxRecDepth 100000
set_option maxHeartbeats 4000000
theorem zstLe (sd:Int):LeV (Zbp [Zae (i64 (0:Int)),Zae (i64 (0:Int)),Zae (u64 (0:Int)),Zae (i64 (0:Int)),Zae (Dv.s (Zbo none 0 0)),Zae (Dv.s (Zbo none 0 0)),Zae (Dv.s (Zbo none 0 0)),Zae (Dv.s (Zbo none 0 0)),Zae (i64 (0:Int)),Zae (i64 (0:Int)),Zae (i64 (0:Int)),Zae (i64 (0:Int)),Zae (i64 sd)]) (stV (zst sd)):=
 LeV.aggs (.cons .rfl (.cons .rfl (.cons .rfl (.cons .rfl (.cons (.nil rfl) (.cons (.nil rfl) (.cons (.nil rfl) (.cons (.nil rfl) (LeVs.refl _)))))))))
theorem blkLe0 (n s:Int) (d:List Int):LeV (Zbp [Zae (i64 n),Zae (i64 s),Zae (Zam 1 (bytesR d)),Zae (Dv.s (Zbo none 0 0))]) (bkV ⟨n,s,d, []⟩):=
 LeV.aggs (.cons .rfl (.cons .rfl (.cons .rfl (.cons (.nil rfl) .nil))))
theorem nearLe (n:NotT) (p:Int):RowLes [[i64 (0:Int),i64 (0:Int),i64 (0:Int),i64 (0:Int),i64 (0:Int),i64 (0:Int),i64 (0:Int),i64 (0:Int),i64 (0:Int),i64 (0:Int),i64 (0:Int),i64 (0:Int),Dv.s (Zbo none 0 0),Dv.s (Zbo none 0 0),Dv.s (Zbo none 0 0),Dv.s (Zbo none 0 0),bo false,Dv.s (Zbo none 0 0),Dv.s (Zbo none 0 0),Dv.s (Zbo none 0 0),i64 (Zdy n),i64 (Zed n),u64 (Zel n),i64 (Zem n),i64 p,i64 (0:Int),i64 (0:Int),i64 (0:Int),Dv.s (Zbo none 0 0),Dv.s (Zbo none 0 0),bo false]]
   (nearR [⟨0,0,0,0,0,0,0,0,0,0,0,0, [], [], [], [],false, [], [], [],n,p,0,0,0, [], [],false⟩]):=by
 refine .cons ?_ .nil
 have r:∀ {c:Dv} {xs ys:List Dv},CellLes xs ys→CellLes (c::xs) (c::ys):=fun h=> .cons .rfl h
 have z:∀ {k:Nat} {xs ys:List Dv},CellLes xs ys→CellLes (.s (.slice none 0 0)::xs) (.sl k []::ys):=fun h=> .cons .nil h
 exact r<|r<|r<|r<|r<|r<|r<|r<|r<|r<|r<|r<|z<|z<|z<|z<|r<|z<|z<|z<|r<|r<|r<|r<|r<|r<|r<|r<|z<|z<|r .nil
theorem hsmall {k:Nat} (hk:k≤2):smallS (laySt hno hps k [] [] ht):=by
 by_cases h0:k=0
 · subst h0
   exact ⟨⟨by simp [laySt],by simp [laySt]⟩,⟨by simp [laySt],by simp [laySt]⟩,⟨by simp [laySt],by simp [laySt]⟩,by simp [laySt]⟩
 · obtain ⟨j,rfl⟩:∃j,k=j+1:=⟨k - 1,by omega⟩
   exact Fed.small (k:=j) hlays (by rw [hps_len];omega) (.inl rfl)
theorem zsmall (sd:Int):smallS (zst sd):=⟨⟨by simp [zst],by simp [zst]⟩,⟨by simp [zst],by simp [zst]⟩,⟨by simp [zst],by simp [zst]⟩,by simp [zst]⟩
theorem pcSHead:PCall prog 13 [] (.d (bo true)):=by
 refine Zba (n:=200) (u:=false) mixed THe_ok Zad func13 (by rfl) (by rfl) fun Ev bb=> ?_
 rw [shead_nf]
 have hk1:(1:Nat)<hps.length:=by rw [hps_len];omega
 have hk0:(0:Nat)<hps.length:=by rw [hps_len];omega
 have hq1:(partsR hps)[1]? =some [Zam 1 (bytesR (nthL hps 1))]:=by
   match hh:hps,hps_len with
   | [a,c],_=>rfl
 have hl1:(nthL hps 1).length=256:=hlays.two _ (nthL_mem hk1)
 have hs0:∀s∈ss0,seedS s=true:=by decide
 refine ⟨prg,rfl,rfl,prg,hps,0,rfl,⟨by rw [prg_len];omega,by rw [splitE,if_pos hsz];rfl⟩,2,100,prg,hno,0,rfl,⟨by rw [prg_len];omega,hno_eq.symm⟩, [stV (zst 7),noV hno, .d (i64 1), .d (i64 5)], .cons (zstLe 7) (LeVs.refl _),zst 7,hno,1,5,hst,rfl,⟨zsmall 7,hhear.symm⟩,
   Zct (by decide) (Zct (by decide) (Zct ?_ (Zct (by decide) (Zct (by decide) ⟨_,hq1,nthL hps 1,1,0,encS (nthL hps 1) 0,rfl,⟨by rw [encOk,hl1];decide,rfl⟩, [stV hst,bkV hblk], .cons .rfl (.cons (blkLe0 _ _ _) .nil),hst,hblk,_,6,rfl,⟨⟨hsmall (by omega),by decide⟩,by rw [←hlater]⟩,
     [stV (zst 0),bkV hblk], .cons (zstLe 0) (.cons (blkLe0 _ _ _) .nil),zst 0,hblk,_,4,rfl,⟨⟨zsmall 0,by decide⟩,by rw [←hempty]⟩,rfl,ss0,rfl,
     hno,hps,0,ht,hst,ss0,laySt hno hps 1 [] [] ht,rfl,⟨⟨hlays,hk0,hps_ok (by omega),ht_valid,hs0,by decide, .inr ⟨[], [],rfl,Tru.nil _,by simp,by simp, .inr rfl⟩⟩,(hfeed (k:=0) (by omega)).symm⟩,rfl,ss0,rfl,
     hno,hps,1,ht,laySt hno hps 1 [] [] ht,ss0,hend,rfl,⟨⟨hlays,hk1,hps_ok (by omega),ht_valid,hs0,by decide, .inr ⟨[], [],rfl,Tru.nil _,by simp,by simp, .inr rfl⟩⟩,(hfeed (k:=1) (by omega)).symm⟩,
     hend,prg,true,rfl,⟨hsmall (by omega),hwhole.symm⟩, [stV hend,bkV hblk], .cons .rfl (.cons (blkLe0 _ _ _) .nil),hend,hblk,_,10,rfl,⟨⟨hsmall (by omega),by decide⟩,by rw [←hfull]⟩,
     [stV hend, .d (.sl 31 (nearR [hnear])), .d (i64 5)], .cons .rfl (.cons (SemV.rows (nearLe hno 1)) (.cons .rfl .nil)),hend, [hnear],5,(serveS hend [hnear] 5).1,(serveS hend [hnear] 5).2.1,true,rfl,⟨⟨hsmall (by omega),by decide⟩,by rw [←hserve.1]⟩,
     Zbl (by decide) (Zbl (by decide) (Zbl (by decide) (Zbl rfl (Zbl ?_ ⟨prg,prg,true,rfl,⟨by rw [prg_len];omega,by simp⟩,Zbl rfl (Zbl rfl (Zbl ?_ (Zbl ?_ ?_)))⟩))))⟩))))⟩
 · show (!(hno.v==hno.v&&(hno.n==hno.n&&(hno.r==hno.r&&(hno.t==hno.t&&true)))))=false
   simp
 · rw [partsR_len,lay_st_len (k:=1) (by omega)];rfl
 · rw [hserve.2.1];rfl
 · rw [hserve.2.2.1];rfl
 · rw [digR_len,hserve.2.2.2];rfl
def cSHead (args:List AV) (K:AV→Prop):Prop:=args= []∧K (.d (bo true))
theorem cSHead_ok:∀args K,cSHead args K→∃x,PCall prog 13 args x∧K x:=by
 rintro _ K ⟨rfl,h⟩;exact ⟨_,pcSHead,h⟩
end Go.Proofs.YtibhflogmbfpcaaGreatDoor.Am
namespace Go.Proofs.YtibhflogmbfpcaaGreatDoor.Am
open Go Go.RowKit Go.Proofs Go.ChangeShapes Go.WideShapes Go.ChangeAt Tryz
open AV renaming agg → Zbp, bad → Zav, d → Zae, ptr → Zaz
open BIf renaming f → Zct, of → Zan, t → Zbl
open BitVec renaming ofInt → Zao
open Bool renaming and_eq_true → Zak
open CallsOk renaming cons → Zag, nil → Zah
open Go.Code renaming loop → Zbd
open Dv renaming sl → Zam
open Int renaming toNat → Zap, toNat_natCast → Zax
open Go.IntKind renaming wrap → Zaa
open List renaming length → Zab, mem_cons_of_mem → Zau, mem_cons_self → Zaw, mem_map → Zbh, mem_of_getElem? → Zbg, mem_range → Zcn, range → Zbe, replicate → Zaf
open NotT renaming n → Zed, r → Zel, t → Zem, v → Zdy
open PCall renaming ofFn → Zba
open SCallsOk renaming nil → Zad
open StT renaming no → Zcd, ps → Zeu, tr → Zez
open Go.Value renaming slice → Zbo
variable {β:Type} (b:β)
open AV (bad)
set_option linter.unusedVariables false
set_option maxRecDepth 20000
theorem Try_own:ownKnob Tryz.prog.godebug=none:=by kernel_rfl
theorem Try_laidOut:laidOutB prog=true:=by kernel_rfl
def laid5:List (String×DataW Unit):= [("math/bits.deBruijn32tab",Rows.laid_math_bits_deBruijn32tab),("math/bits.deBruijn64tab",Rows.laid_math_bits_deBruijn64tab),("unicode/utf8.acceptRanges",Rows.laid_unicode_utf8_acceptRanges),("slotmesh/random.steps",Rows.laid_slotmesh_random_steps),("unicode/utf8.first",Rows.laid_unicode_utf8_first)]
theorem gn0:Tryz.prog.globalNamed "math/bits.deBruijn32tab" =some 0:=by kernel_rfl
theorem gn1:Tryz.prog.globalNamed "math/bits.deBruijn64tab" =some 1:=by kernel_rfl
theorem gn2:Tryz.prog.globalNamed "slotmesh/random.steps" =some 2:=by kernel_rfl
theorem gn5:Tryz.prog.globalNamed "unicode/utf8.acceptRanges" =some 5:=by kernel_rfl
theorem flat_of {P:Program} {g n t:Nat} (h:(P.globals[g]?).map (·.type)=some t) (k:(((P.globals[g]?).map (·.type)).bind (flat P n)).isSome=true):∃tys,flat P n t=some tys:=by
 rw [h] at k;exact Option.isSome_iff_exists.1 k
theorem fl0:(((Tryz.prog.globals[0]?).map (·.type)).bind (flat prog 9)).isSome=true:=by kernel_rfl
theorem fl1:(((Tryz.prog.globals[1]?).map (·.type)).bind (flat prog 9)).isSome=true:=by kernel_rfl
theorem fl2:(((Tryz.prog.globals[2]?).map (·.type)).bind (flat prog 9)).isSome=true:=by kernel_rfl
theorem fl5:(((Tryz.prog.globals[5]?).map (·.type)).bind (flat prog 9)).isSome=true:=by kernel_rfl
theorem glob_met {W:World} (h:laidMetH prog laid5 W):Glob (AllOf W) W:=by
 rw [MakeChecks.laidMetH_plain _ _ _ (by kernel_rfl)] at h
 obtain ⟨ps,⟨g0,t0,cs0,f0,p0,q0,hg0,ht0,hv0,hd0,⟨g1,t1,cs1,f1,p1,q1,hg1,ht1,hv1,hd1,⟨g5,t5,cs5,f5,p5,q5,hg5,ht5,hv5,hd5,⟨g2,t2,cs2,f2,p2,q2,hg2,ht2,hv2,hd2,_⟩,_⟩,_⟩,_⟩,_,_⟩:=h
 obtain rfl:=Option.some.inj (gn0.symm.trans hg0)
 obtain rfl:=Option.some.inj (gn1.symm.trans hg1)
 obtain rfl:=Option.some.inj (gn2.symm.trans hg2)
 obtain rfl:=Option.some.inj (gn5.symm.trans hg5)
 have e0:=flat_of ht0 fl0
 have e1:=flat_of ht1 fl1
 have e2:=flat_of ht2 fl2
 have e5:=flat_of ht5 fl5
 obtain ⟨tys0,e0⟩:=e0
 obtain ⟨tys1,e1⟩:=e1
 obtain ⟨tys2,e2⟩:=e2
 obtain ⟨tys5,e5⟩:=e5
 have v0:=var_at gn0 hv0 hd0 e0 (k:=9) (vs:=laidTable 0) (by kernel_rfl)
 have v1:=var_at gn1 hv1 hd1 e1 (k:=9) (vs:=laidTable 1) (by kernel_rfl)
 have v2:=var_at gn2 hv2 hd2 e2 (k:=9) (vs:=laidTable 2) (by kernel_rfl)
 have v5:=var_at gn5 hv5 hd5 e5 (k:=9) (vs:=laidTable 5) (by kernel_rfl)
 have one:∀g,g<6→∀v∈laidTable g,v.oneCell'=true:=by
   have:(Zbe 6).all (fun g=>(laidTable g).all fun v=>v.oneCell')=true:=by kernel_rfl
   intro g hg v hv
   exact List.all_eq_true.1 (List.all_eq_true.1 this g (Zcn.2 hg)) v hv
 refine glob_of fun g hg j v hj=> ?_
 match g,hg with
 |0,_=>exact ⟨v0 j v hj,one 0 (by omega) v (Zbg hj)⟩
 |1,_=>exact ⟨v1 j v hj,one 1 (by omega) v (Zbg hj)⟩
 |2,_=>exact ⟨v2 j v hj,one 2 (by omega) v (Zbg hj)⟩
 |3,hg=>exact absurd rfl hg
 |4,hg=>exact absurd rfl hg
 |5,_=>exact ⟨v5 j v hj,one 5 (by omega) v (Zbg hj)⟩
 |n+6,hg=>exact absurd rfl hg
def goodRow (r:Row):Prop:=r.2.length≤maxLen∧(∀x∈r.2,0≤x∧x<256)
theorem digs_of {x:Dv} (h:HasTy (.sl [.int .u64]) x):∃p:List Int,x= .sl 1 (digR p)∧p.length≤maxLen∧True:=by
 cases h with
 | sl _ xs hl h=>
   have key:∀(xs:List (List Dv)),(∀row∈xs,HasTys [.int .u64] row)→∃p:List Int,xs=digR p:=by
     intro xs
     induction xs with
     |nil=>exact fun _=>⟨[],rfl⟩
     | cons row xs ih=>
       intro h
       obtain ⟨p,rfl⟩:=ih fun r hr=>h r (Zau _ hr)
       have h0:=h row (Zaw ..)
       cases h0 with
       | cons h1 h2=>cases h2 with
         | nil=>cases h1 with
           |int _ n hw=>exact ⟨n::p,rfl⟩
   obtain ⟨p,rfl⟩:=key xs h
   exact ⟨p,rfl,by simpa [digR] using hl,trivial⟩
theorem parts_of {x:Dv} (h:HasTy (.sl [.sl [.int .u8]]) x):∃ps:List (List Int),x= .sl 1 (partsR ps)∧ps.length≤maxLen∧True:=by
 cases h with
 | sl _ xs hl h=>
   have key:∀(xs:List (List Dv)),(∀row∈xs,HasTys [.sl [.int .u8]] row)→∃p:List (List Int),xs=partsR p:=by
     intro xs
     induction xs with
     |nil=>exact fun _=>⟨[],rfl⟩
     | cons row xs ih=>
       intro h
       obtain ⟨p,rfl⟩:=ih fun r hr=>h r (Zau _ hr)
       have h0:=h row (Zaw ..)
       cases h0 with
       | cons h1 h2=>cases h2 with
         | nil=>
           obtain ⟨b,rfl,_⟩:=bytes_of h1
           exact ⟨b::p,rfl⟩
   obtain ⟨p,rfl⟩:=key xs h
   exact ⟨p,rfl,by simpa [partsR] using hl,trivial⟩
theorem proofs_of {x:Dv} (h:HasTy (.sl [.sl [.int .u64]]) x):∃ps:List (List Int),x= .sl 1 (proofsR ps):=by
 cases h with
 | sl _ xs hl h=>
   have key:∀(xs:List (List Dv)),(∀row∈xs,HasTys [.sl [.int .u64]] row)→∃p:List (List Int),xs=proofsR p:=by
     intro xs
     induction xs with
     |nil=>exact fun _=>⟨[],rfl⟩
     | cons row xs ih=>
       intro h
       obtain ⟨p,rfl⟩:=ih fun r hr=>h r (Zau _ hr)
       have h0:=h row (Zaw ..)
       cases h0 with
       | cons h1 h2=>cases h2 with
         | nil=>
           obtain ⟨b,rfl,_⟩:=digs_of h1
           exact ⟨b::p,rfl⟩
   obtain ⟨p,rfl⟩:=key xs h
   exact ⟨p,rfl⟩
theorem rows_of {x:Dv} (h:HasTy (.sl [.int .i64, .sl [.int .u8]]) x):∃l:List Row,x= .sl 2 (rowsR l)∧l.length≤maxLen∧∀r∈l,goodRow r:=by
 cases h with
 | sl _ xs hl h=>
   have key:∀(xs:List (List Dv)),(∀row∈xs,HasTys [.int .i64, .sl [.int .u8]] row)→∃l:List Row,xs=rowsR l∧∀r∈l,goodRow r:=by
     intro xs
     induction xs with
     |nil=>exact fun _=>⟨[],rfl,fun a h=>by cases h⟩
     | cons row xs ih=>
       intro h
       obtain ⟨l,rfl,hp⟩:=ih fun r hr=>h r (Zau _ hr)
       have h0:=h row (Zaw ..)
       cases h0 with
       | cons h1 h2=>cases h2 with
         | cons h2 h3=>cases h3 with
           | nil=>cases h1 with
             | int _ n hw=>
               obtain ⟨p,rfl,h4,h5⟩:=bytes_of h2
               refine ⟨(n,p)::l,rfl,fun r hr=> ?_⟩
               rcases List.mem_cons.1 hr with rfl|hr
               · exact ⟨h4,h5⟩
               · exact hp r hr
   obtain ⟨l,rfl,hp⟩:=key xs h
   exact ⟨l,rfl,by simpa [rowsR] using hl,hp⟩
def OkSt (s:StT):Prop:=∀r∈s.rows,goodRow r
theorem row_state {row:List Dv} (h:HasTys [.int .i64, .int .i64, .int .u64, .int .i64, .sl [.sl [.int .u8]], .sl [.sl [.int .u64]], .sl [.int .i64, .sl [.int .u8]], .sl [.int .u64], .int .i64, .int .i64, .int .i64, .int .i64, .int .i64] row):∃s:StT,Zbp (row.map .d)=stV s∧OkSt s:=by
 obtain _|⟨h1,h⟩:=h
 obtain _|⟨h2,h⟩:=h
 obtain _|⟨h3,h⟩:=h
 obtain _|⟨h4,h⟩:=h
 obtain _|⟨h5,h⟩:=h
 obtain _|⟨h6,h⟩:=h
 obtain _|⟨h7,h⟩:=h
 obtain _|⟨h8,h⟩:=h
 obtain _|⟨h9,h⟩:=h
 obtain _|⟨ha,h⟩:=h
 obtain _|⟨hb,h⟩:=h
 obtain _|⟨hc,h⟩:=h
 obtain _|⟨hd,h⟩:=h
 cases h
 obtain ⟨ps,rfl,_⟩:=parts_of h5
 obtain ⟨qs,rfl⟩:=proofs_of h6
 obtain ⟨rw,rfl,_,hrw⟩:=rows_of h7
 obtain ⟨pf,rfl,_⟩:=digs_of h8
 cases h1;cases h2;cases h3;cases h4;cases h9;cases ha;cases hb;cases hc;cases hd
 exact ⟨⟨⟨_,_,_,_⟩,ps,qs,rw,pf,⟨_,_,_,_,_⟩⟩,rfl,hrw⟩
theorem row_notice {row:List Dv} (h:HasTys [.int .i64, .int .i64, .int .u64, .int .i64] row):∃n:NotT,Zbp (row.map .d)=noV n∧True:=by
 obtain _|⟨h1,h⟩:=h
 obtain _|⟨h2,h⟩:=h
 obtain _|⟨h3,h⟩:=h
 obtain _|⟨h4,h⟩:=h
 cases h
 cases h1;cases h2;cases h3;cases h4
 exact ⟨⟨_,_,_,_⟩,rfl,trivial⟩
theorem row_block {row:List Dv} (h:HasTys [.int .i64, .int .i64, .sl [.int .u8], .sl [.int .u64]] row):∃x:BlkT,Zbp (row.map .d)=bkV x∧∀a∈x.d,0≤a∧a<256:=by
 obtain _|⟨h1,h⟩:=h
 obtain _|⟨h2,h⟩:=h
 obtain _|⟨h3,h⟩:=h
 obtain _|⟨h4,h⟩:=h
 cases h
 obtain ⟨d,rfl,_,hd⟩:=bytes_of h3
 obtain ⟨pf,rfl,_⟩:=digs_of h4
 cases h1;cases h2
 exact ⟨⟨_,_,d,pf⟩,rfl,hd⟩
def nearTys:List Ty:= [.int .i64, .int .i64, .int .i64, .int .i64, .int .i64, .int .i64, .int .i64, .int .i64, .int .i64, .int .i64, .int .i64, .int .i64, .sl [.int .i64, .int .i64, .int .i64, .int .i64], .sl [.int .i64, .int .i64, .int .i64, .int .i64, .int .i64], .sl [.int .i64, .int .i64, .int .i64], .sl [.int .i64, .int .i64, .int .i64, .int .i64], .bool, .sl [.int .i64, .int .i64, .int .i64, .int .i64, .int .i64, .int .i64, .int .i64, .int .i64], .sl [.int .i64, .int .i64, .int .i64, .int .i64, .int .i64, .int .i64, .int .i64, .int .i64], .sl [.int .i64], .int .i64, .int .i64, .int .u64, .int .i64, .int .i64, .int .i64, .int .i64, .int .i64, .sl [.int .u8], .sl [.int .u64], .bool]
theorem near_row {row:List Dv} (h:HasTys nearTys row):∃x:NearT,row=nearD x:=by
 unfold nearTys at h
 obtain _|⟨h0,h⟩:=h
 obtain _|⟨h1,h⟩:=h
 obtain _|⟨h2,h⟩:=h
 obtain _|⟨h3,h⟩:=h
 obtain _|⟨h4,h⟩:=h
 obtain _|⟨h5,h⟩:=h
 obtain _|⟨h6,h⟩:=h
 obtain _|⟨h7,h⟩:=h
 obtain _|⟨h8,h⟩:=h
 obtain _|⟨h9,h⟩:=h
 obtain _|⟨h10,h⟩:=h
 obtain _|⟨h11,h⟩:=h
 obtain _|⟨h12,h⟩:=h
 obtain _|⟨h13,h⟩:=h
 obtain _|⟨h14,h⟩:=h
 obtain _|⟨h15,h⟩:=h
 obtain _|⟨h16,h⟩:=h
 obtain _|⟨h17,h⟩:=h
 obtain _|⟨h18,h⟩:=h
 obtain _|⟨h19,h⟩:=h
 obtain _|⟨h20,h⟩:=h
 obtain _|⟨h21,h⟩:=h
 obtain _|⟨h22,h⟩:=h
 obtain _|⟨h23,h⟩:=h
 obtain _|⟨h24,h⟩:=h
 obtain _|⟨h25,h⟩:=h
 obtain _|⟨h26,h⟩:=h
 obtain _|⟨h27,h⟩:=h
 obtain _|⟨h28,h⟩:=h
 obtain _|⟨h29,h⟩:=h
 obtain _|⟨h30,h⟩:=h
 cases h
 cases h0
 cases h1
 cases h2
 cases h3
 cases h4
 cases h5
 cases h6
 cases h7
 cases h8
 cases h9
 cases h10
 cases h11
 cases h20
 cases h21
 cases h22
 cases h23
 cases h24
 cases h25
 cases h26
 cases h27
 cases h12
 cases h13
 cases h14
 cases h15
 cases h17
 cases h18
 cases h19
 cases h28
 cases h29
 cases h16
 cases h30
 exact ⟨⟨_,_,_,_,_,_,_,_,_,_,_,_,_,_,_,_,_,_,_,_,⟨_,_,_,_⟩,_,_,_,_,_,_,_⟩,rfl⟩
theorem near_of {x:Dv} (h:HasTy (.sl nearTys) x):∃l:List NearT,x= .sl 31 (nearR l)∧l.length≤maxLen∧True:=by
 cases h with
 | sl _ xs hl h=>
   have key:∀(xs:List (List Dv)),(∀row∈xs,HasTys nearTys row)→∃l:List NearT,xs=nearR l:=by
     intro xs
     induction xs with
     |nil=>exact fun _=>⟨[],rfl⟩
     | cons row xs ih=>
       intro h
       obtain ⟨p,rfl⟩:=ih fun r hr=>h r (Zau _ hr)
       obtain ⟨x,rfl⟩:=near_row (h row (Zaw ..))
       exact ⟨x::p,rfl⟩
   obtain ⟨p,rfl⟩:=key xs h
   exact ⟨p,rfl,by simpa [nearR] using hl,trivial⟩
theorem flatSt:flat prog 20 32=some [.int .i64, .int .i64, .int .u64, .int .i64, .sl [.sl [.int .u8]], .sl [.sl [.int .u64]], .sl [.int .i64, .sl [.int .u8]], .sl [.int .u64], .int .i64, .int .i64, .int .i64, .int .i64, .int .i64]:=by kernel_rfl
theorem flatNo:flat prog 20 24=some [.int .i64, .int .i64, .int .u64, .int .i64]:=by kernel_rfl
theorem flatBk:flat prog 20 35=some [.int .i64, .int .i64, .sl [.int .u8], .sl [.int .u64]]:=by kernel_rfl
theorem flatNe:flat prog 20 36=some [.sl nearTys]:=by kernel_rfl
set_option maxRecDepth 100000
theorem jf4_0:(Rows.spreadValidRow.wf (OpenSpec.ofChange Rows.spreadValidSpec))=true:=by kernel_rfl
theorem jf4_1:(laidOutB Tryz.pinned.checked.prog)=true:=by kernel_rfl
theorem jf4_2:(mapsRowed Tryz.pinned.checked.prog)=true:=by kernel_rfl
theorem jf4_3:(Tryz.f4.params.all (Tryz.pinned.checked.prog.readableRec ·))=true:=by kernel_rfl
theorem jf4_4:(namedTie Tryz.pinned.checked.prog Rows.spreadValidRow.named Rows.spreadValidSpec.vars)=true:=by kernel_rfl
theorem jf4_5:((Rows.spreadValidRow.stops== []))=true:=by kernel_rfl
theorem jf4_6:((Tryz.pinned.checked.prog.stops== []))=true:=by kernel_rfl
theorem jf4_7:((Rows.spreadValidRow.knobs== []))=true:=by kernel_rfl
theorem jf4_8:((Tryz.pinned.checked.prog.stopKnobs== []))=true:=by kernel_rfl
theorem jf4_9:((Rows.spreadValidRow.inPlace==Tryz.pinned.checked.prog.inPlace 4))=true:=by kernel_rfl
theorem jf4_10:((Rows.spreadValidRow.unfollowed==Tryz.pinned.checked.prog.unfollowed 4))=true:=by kernel_rfl
theorem jf4_11:((Rows.spreadValidRow.recurses==Tryz.pinned.checked.prog.recurses 4))=true:=by kernel_rfl
theorem jf4_12:((Rows.spreadValidRow.named==Tryz.pinned.checked.prog.varsNamed 4))=true:=by kernel_rfl
theorem jf4_13:((Rows.spreadValidRow.maps==(Tryz.f4.params.toList++Rows.spreadValidSpec.plain.varTypes Tryz.pinned.checked.prog).any (Tryz.pinned.checked.prog.mapsRec ·)))=true:=by kernel_rfl
theorem jf4_14:((Rows.spreadValidRow.ifaces==(Tryz.f4.params.toList++Rows.spreadValidSpec.plain.varTypes Tryz.pinned.checked.prog).any (Tryz.pinned.checked.prog.ifacesRec ·)))=true:=by kernel_rfl
theorem jf4_15:((Rows.spreadValidRow.mapsOut==Tryz.pinned.checked.prog.mapsAmong Tryz.f4.resultTypes.toList))=true:=by kernel_rfl
theorem jf4_16:((Rows.spreadValidRow.loops==(Tryz.f4.params.toList++Rows.spreadValidSpec.plain.varTypes Tryz.pinned.checked.prog).any (Tryz.pinned.checked.prog.loopsFrom ·)))=true:=by kernel_rfl
theorem jf4_17:((Rows.spreadValidRow.wideKeys==(Tryz.f4.params.toList++Rows.spreadValidSpec.plain.varTypes Tryz.pinned.checked.prog++Tryz.f4.resultTypes.toList).any (Tryz.pinned.checked.prog.wideKeysFrom ·)))=true:=by kernel_rfl
theorem jf4_18:(Rows.spreadValidSpec.vars.all (Tryz.pinned.checked.prog.varReadable ·))=true:=by kernel_rfl
theorem jf4_19:(Tryz.f4.resultTypes.all (fun t=>Tryz.pinned.checked.prog.readableRec t&&decide (t<Tryz.pinned.checked.prog.types.size)))=true:=by kernel_rfl
theorem jf4_20:((Rows.spreadValidRow.ifacesOut==Tryz.f4.resultTypes.toList.any (Tryz.pinned.checked.prog.ifacesRec ·)))=true:=by kernel_rfl
theorem jf4_21:((Rows.spreadValidRow.loopsOut==Tryz.f4.resultTypes.toList.any (Tryz.pinned.checked.prog.loopsFrom ·)))=true:=by kernel_rfl
theorem jf4_22:((Rows.spreadValidRow.plainKeys==Tryz.pinned.checked.prog.plainKeys))=true:=by kernel_rfl
theorem jf4_23:(Rows.spreadValidRow.shortTexts.isNone)=true:=by kernel_rfl
theorem jf4_24:(Tryz.pinned.checked.prog.stopsHeard)=true:=by kernel_rfl
theorem jf4_25:(Tryz.pinned.checked.prog.mayEnter)=true:=by kernel_rfl
theorem jf4_26:((Rows.spreadValidRow.lifted==Tryz.pinned.checked.prog.liftsFinal))=true:=by kernel_rfl
theorem jf4_27:((Tryz.pinned.checked.prog.make==some Rows.spreadValidRow.make))=true:=by kernel_rfl
theorem jf4_28:((Rows.spreadValidRow.kinds==(if Rows.spreadValidRow.domain.isEmpty then [] else Tryz.f4.params.toList.map fun t=>match Tryz.pinned.checked.prog.underlying t with|some (.int k)=>some k|_=>none)))=true:=by kernel_rfl
theorem jf4_29:((Rows.spreadValidRow.pinned==Rows.spreadValidRow.pinnedBy))=true:=by kernel_rfl
theorem jf4_30:((Rows.spreadValidRow.veiled==(Tryz.f4.params.toList++Rows.spreadValidSpec.plain.varTypes Tryz.pinned.checked.prog++Tryz.f4.resultTypes.toList).any (Tryz.pinned.checked.prog.veiledRec ·)))=true:=by kernel_rfl
theorem jf4_31:(Rows.spreadValidRow.veiledFits Tryz.pinned.checked.prog Tryz.f4.params.toList (Tryz.f4.params.toList++Rows.spreadValidSpec.plain.varTypes Tryz.pinned.checked.prog++Tryz.f4.resultTypes.toList))=true:=by kernel_rfl
theorem and_t {a b:Bool} (h:a=true) (h1:b=true):(a&&b)=true:=by rw [h,h1];rfl
theorem closed4:joinedFacts Tryz.pinned.checked.prog 4 Tryz.f4 Rows.spreadValidSpec Rows.spreadValidRow=true:=(and_t (and_t (and_t (and_t (and_t (and_t (and_t (and_t (and_t (and_t (and_t (and_t (and_t (and_t (and_t (and_t (and_t (and_t (and_t (and_t (and_t (and_t (and_t (and_t (and_t (and_t (and_t (and_t (and_t (and_t (and_t jf4_0 jf4_1) jf4_2) jf4_3) jf4_4) jf4_5) jf4_6) jf4_7) jf4_8) jf4_9) jf4_10) jf4_11) jf4_12) jf4_13) jf4_14) jf4_15) jf4_16) jf4_17) jf4_18) jf4_19) jf4_20) jf4_21) jf4_22) jf4_23) jf4_24) jf4_25) jf4_26) jf4_27) jf4_28) jf4_29) jf4_30) jf4_31)
end Go.Proofs.YtibhflogmbfpcaaGreatDoor.Am
namespace Go.Proofs.YtibhflogmbfpcaaGreatDoor.Am
open Go Go.RowKit Go.Proofs Tryz
open AV renaming agg → Zbp, bad → Zav, d → Zae, ptr → Zaz
open BIf renaming f → Zct, of → Zan, t → Zbl
open BitVec renaming ofInt → Zao
open Bool renaming and_eq_true → Zak
open CallsOk renaming cons → Zag, nil → Zah
open Go.Code renaming loop → Zbd
open Dv renaming sl → Zam
open Int renaming toNat → Zap, toNat_natCast → Zax
open Go.IntKind renaming wrap → Zaa
open List renaming length → Zab, mem_cons_of_mem → Zau, mem_cons_self → Zaw, mem_map → Zbh, mem_of_getElem? → Zbg, mem_range → Zcn, range → Zbe, replicate → Zaf
open NotT renaming n → Zed, r → Zel, t → Zem, v → Zdy
open PCall renaming ofFn → Zba
open SCallsOk renaming nil → Zad
open StT renaming no → Zcd, ps → Zeu, tr → Zez
open Go.Value renaming slice → Zbo
variable {β:Type} (wl:WLT β) (y:YieldT β) (b:β) (R:AV→β→Prop) (K:Exit→List AV→List Blk→β→Prop) (Q:β→Prop)
open AV (bad)
set_option linter.unusedVariables false
set_option maxRecDepth 20000
set_option maxHeartbeats 2000000
theorem hear_small {s:StT} (h:smallS s) (n:NotT) (p f:Int):smallS (hearS s n p f):=by
 unfold hearS
 split
 · exact h
 split
 · exact ⟨⟨by simp,by simp⟩,⟨by simp,by simp⟩,⟨by simp,by simp⟩,by simp⟩
 split
 · exact h
 split
 · split
   · exact h
   · exact h
 · exact h
theorem serve_small {s:StT} (h:smallS s) (l:List NearT) (f:Int):smallS (serveS s l f).1:=by
 unfold serveS
 split
 · exact h
 split
 · exact h
 · exact h
theorem refused_ok {s:StT} {x:BlkT} (h:refusedS s x=0):validP s=true∧badB x=false∧emptyS s=false∧fullP s=false∧x.n=s.ps.length∧(s.rows≠ []→x.pf=s.pf):=by
 unfold refusedS at h
 split at h
 · omega
 rename_i h1
 split at h
 · omega
 rename_i h2
 split at h
 · omega
 rename_i h3
 split at h
 · omega
 rename_i h4
 split at h
 · omega
 rename_i h5
 split at h
 · omega
 rename_i h6
 simp only [Bool.or_eq_true,Bool.not_eq_true',not_or,Bool.not_eq_true] at h1
 refine ⟨by simpa using h1.1,h1.2,by simpa using h2,by simpa using h3,by omega,fun hr=> ?_⟩
 cases hs:s.rows with
 |nil=>exact absurd hs hr
 |cons r l=>simp [hs] at h6;exact h6
theorem bad_facts {x:BlkT} (h:badB x=false):pageS x.n=true∧seedS x.s=true∧x.d.length=16:=by
 simp only [badB,Bool.or_eq_false_iff,decide_eq_false_iff_not,bne_eq_false_iff_eq] at h
 obtain ⟨h1,h2,h3,h4,h5⟩:=h
 exact ⟨by simp [pageS];omega,seedS_iff.2 ⟨by omega,by omega⟩,by omega⟩
theorem first_new_any {m:Int} {b:List Int} (h0:1≤m) (h1:m<65536) (hl:b.length=16):(addS [] m b).2.1=true:=by
 have hf:fine m b=true:=by simp [fine,hl];omega
 have hm:(m==0)=false:=by simp;omega
 unfold addS
 rw [hf,show validS []=true by decide]
 simp [hm]
theorem recv_cases (s:StT) (x:BlkT) (hb:∀a∈x.d,0≤a∧a<256):
   (refusedS s x≠0∧recvT s x=(s,refusedS s x))∨
   (refusedS s x=0∧(∃e,recvT s x=(anewS s,e)))∨
   (refusedS s x=0∧∃l,Good l∧l.length<16∧l≠ []∧(s.rows= []→l.length=1)∧recvT s x=(⟨s.no,s.ps,s.qs,l,x.pf,s.tr⟩,0))∨
   (refusedS s x=0∧∃p,p.length=256∧provedS s.sp s.ps.length p x.pf=true∧(s.ps.length:Int)≠countS s.no.n∧recvT s x=(⟨s.no,s.ps++ [p],s.qs++ [x.pf], [], [],s.tr⟩,0)):=by
 by_cases h0:refusedS s x≠0
 · exact .inl ⟨h0,by rw [recvT,if_pos h0]⟩
 have h0:refusedS s x=0:=by omega
 right
 obtain ⟨hv,hbad,he,hf,hn,hpf⟩:=refused_ok h0
 obtain ⟨b1,b2,b3⟩:=bad_facts hbad
 obtain ⟨v1,v2,v3,v4,v5,v6⟩:=valid_sound hv he
 have hg:Good s.rows:=(validS_good _).1 v2
 obtain ⟨s0,s1⟩:=setS_range b2
 have hr:recS s.rows x.n x.s x.d=addS s.rows (setS x.s) x.d:=by rw [recS,if_pos (by rw [recOk,b1,b2,b3];decide)]
 have e0:¬refusedS s x≠0:=by rw [h0];simp
 have next:∀(l:List Row) (nw:Bool),recS s.rows x.n x.s x.d=(l,nw,0)→Good l→l≠ []→(s.rows= []→l.length=1)→
     ((refusedS s x=0∧(∃e,recvT s x=(anewS s,e)))∨
     (refusedS s x=0∧∃l,Good l∧l.length<16∧l≠ []∧(s.rows= []→l.length=1)∧recvT s x=(⟨s.no,s.ps,s.qs,l,x.pf,s.tr⟩,0))∨
     (refusedS s x=0∧∃p,p.length=256∧provedS s.sp s.ps.length p x.pf=true∧(s.ps.length:Int)≠countS s.no.n∧recvT s x=(⟨s.no,s.ps++ [p],s.qs++ [x.pf], [], [],s.tr⟩,0))):=by
   intro l nw hl hG hne h1
   have hns:nextSt s x=⟨s.no,s.ps,s.qs,l,x.pf,s.tr⟩:=by rw [nextSt,hl]
   by_cases h16:l.length≠16
   · refine .inr (.inl ⟨h0,l,hG,by have:=hG.len;omega,hne,h1, ?_⟩)
     rw [recvT,if_neg e0,hl,if_neg (by simp),if_pos (by rw [pages_not fun h=>h16 h.2]),hns]
   · have h16:l.length=16:=by omega
     have hp:=pages_rows hG h16
     have hpl:(l.reverse.flatMap (·.2)).length=256:=by
       have key:∀(l:List Row),(∀r∈l,r.2.length=16)→(l.flatMap (·.2)).length=16*l.length:=by
         intro l
         induction l with
         |nil=>intro _;rfl
         | cons r l ih=>
           intro h
           rw [List.flatMap_cons,List.length_append,ih fun r hr=>h r (Zau _ hr),h r (Zaw ..),List.length_cons];omega
       rw [key _ fun r hr=>hG.len16 r (List.mem_reverse.1 hr),List.length_reverse,h16]
     have e1:recvT s x=if (putT (nextSt s x) (l.reverse.flatMap (·.2)) x.pf).2≠0 then (anewS s,12) else ((putT (nextSt s x) (l.reverse.flatMap (·.2)) x.pf).1,0):=by
       rw [recvT,if_neg e0,hl,if_neg (by simp),hp,if_neg (by simp)]
     by_cases hput:(putT (nextSt s x) (l.reverse.flatMap (·.2)) x.pf).2≠0
     · exact .inl ⟨h0,12,by rw [e1,if_pos hput]⟩
     · rw [if_neg hput] at e1
       refine .inr (.inr ⟨h0,l.reverse.flatMap (·.2),hpl, ?_⟩)
       rw [hns] at e1 hput
       unfold putT at hput e1
       split at hput
       · simp at hput
       rename_i g1
       split at hput
       · simp at hput
       rename_i g2
       split at hput
       · simp at hput
       rename_i g3
       rw [if_neg g1,if_neg g2,if_neg g3] at e1
       exact ⟨(Bool.not_eq_false _).mp g3,g2,e1⟩
 rcases add_law hg ⟨s0,by omega⟩ b3 hb with ⟨h1,h2,h3⟩|⟨h1,h3⟩|⟨h1,y,hy,h3,hG,_,hyv,hyc,_⟩
 · refine .inl ⟨h0,12, ?_⟩
   rw [recvT,if_neg e0,hr,h3,if_pos (by simp)]
 · have hne:s.rows≠ []:=by
     intro hnil
     rw [hnil] at h3
     have:=first_new_any (b:=x.d) s0 (show setS x.s<65536 by omega) b3
     rw [h3] at this;cases this
   exact next s.rows false (by rw [hr,h3]) hg hne fun h=>absurd h hne
 · have hlen:=ins_len y s.rows
   exact next (insS y s.rows) true (by rw [hr,h3]) hG (fun h=>by rw [h] at hlen;simp at hlen) fun h=>by rw [hlen,h];rfl
theorem good_small {l:List Row} (h:Good l):smallRows l:=⟨by have:=h.len;omega,fun r hr=>by rw [h.len16 r hr];omega⟩
theorem recv_small {s:StT} {x:BlkT} (hb:∀a∈x.d,0≤a∧a<256) (h:smallS s) (hp:x.pf.length≤1000000):smallS (recvT s x).1:=by
 rcases recv_cases s x hb with ⟨_,h1⟩|⟨_,e,h1⟩|⟨_,l,hg,_,_,_,h1⟩|⟨h0,p,hl,_,_,h1⟩
 · rw [h1];exact h
 · rw [h1];exact ⟨h.1,h.2.1,⟨by simp [anewS],by simp [anewS]⟩,by simp [anewS]⟩
 · rw [h1];exact ⟨h.1,h.2.1,good_small hg,hp⟩
 · rw [h1]
   obtain ⟨hv,_,he,_⟩:=refused_ok h0
   obtain ⟨a1,a2,a3,a4,a5,a6⟩:=sound_16 (valid_sound hv he).1
   refine ⟨⟨?_,fun q hq=> ?_⟩,⟨?_,fun q hq=> ?_⟩,⟨by simp,by simp⟩,by simp⟩
   · simp;omega
   · rcases List.mem_append.1 hq with hq|hq
     · exact h.1.2 q hq
     · rw [List.mem_singleton.1 hq,hl];omega
   · simp;omega
   · rcases List.mem_append.1 hq with hq|hq
     · exact h.2.1.2 q hq
     · rw [List.mem_singleton.1 hq];exact hp
theorem valid_mk {s:StT} (h1:soundT s=true) (h2:Good s.rows) (h3:s.rows.length<16) (h4:s.rows= []∨fullP s=false) (h5:s.rows≠ []∨s.pf= []) (h6:validT s.tr=true):validP s=true:=by
 have e4:(s.rows.isEmpty|| !fullP s)=true:=by
   rcases h4 with h|h
   · rw [h];rfl
   · rw [h];simp
 have e5:(!s.rows.isEmpty||s.pf.isEmpty)=true:=by
   rcases h5 with h|h
   · cases hr:s.rows with
     |nil=>exact absurd hr h
     |cons _ _=>rfl
   · rw [h];simp
 rw [validP,h1,(validS_good _).2 h2,e4,e5,h6,decide_eq_true (p:=(s.rows.length:Int)<16) (by omega)]
 simp
theorem recv_valid {s:StT} {x:BlkT} (hb:∀a∈x.d,0≤a∧a<256) (h:validP s=true):validP (recvT s x).1=true:=by
 rcases recv_cases s x hb with ⟨_,h1⟩|⟨h0,e,h1⟩|⟨h0,l,hg,hl,hne,_,h1⟩|⟨h0,p,hl,hpr,hc,h1⟩
 · rw [h1];exact h
 all_goals
   obtain ⟨hv,_,he,hf,_⟩:=refused_ok h0
   obtain ⟨v1,v2,v3,v4,v5,v6⟩:=valid_sound hv he
   rw [h1]
 · exact valid_mk (s:=anewS s) ((soundS_congr (s:=(anewS s).sp) (s':=s.sp) rfl rfl rfl).trans v1) (Tru.nil []).good (by simp [anewS]) (.inl rfl) (.inr rfl) v6
 · exact valid_mk (s:=⟨s.no,s.ps,s.qs,l,x.pf,s.tr⟩) ((soundS_congr (s:=(StT.mk s.no s.ps s.qs l x.pf s.tr).sp) (s':=s.sp) rfl rfl rfl).trans v1) hg hl (.inr hf) (.inl hne) v6
 · exact valid_mk (s:=⟨s.no,s.ps++ [p],s.qs++ [x.pf], [], [],s.tr⟩) (sound_put (s:=s.sp) v1 hl hc hpr _ rfl rfl rfl) (Tru.nil []).good (by simp) (.inl rfl) (.inr rfl) v6
theorem empty_tr {s:StT} (h:emptyS s=true):validT s.tr=false∧s.no.v=0∧tseedS s.tr.sd=true:=by
 simp only [emptyS,Zak,beq_iff_eq] at h
 refine ⟨Bool.eq_false_iff.2 fun hv=> ?_, ?_,h.2⟩
 · have:=(validT_iff.1 hv).1
   have:=h.1.2.1;omega
 · have:=h.1.1.1
   simp only [zeroN,Zak,beq_iff_eq] at this
   exact this.1
theorem valid_tr {s:StT} (h:validP s=true) {t:TrT} (h1:validT s.tr=true→validT t=true) (h2:validT s.tr=false→t=s.tr):validP (withTr s t)=true:=by
 cases he:emptyS s with
 | true=>
   have:=h2 (empty_tr he).1
   subst this
   exact h
 | false=>
   obtain ⟨v1,v2,v3,v4,v5,v6⟩:=valid_sound h he
   refine valid_mk (s:=withTr s t) ((soundS_congr (s:=(withTr s t).sp) (s':=s.sp) rfl rfl rfl).trans v1) ((validS_good _).1 v2) (by have:(s.rows.length:Int)<16:=v3;show s.rows.length<16;omega) ?_ ?_ (h1 v6)
   · show s.rows= []∨fullP s=false
     simpa using v4
   · show s.rows≠ []∨s.pf= []
     simpa using v5
theorem later_valid {t:TrT} (h:validT t=true) {f:Int} (hf:frameS f=true):validT (laterT t f)=true:=by
 obtain ⟨h1,h2,h3,_⟩:=validT_iff.1 h
 unfold laterT
 split
 · exact begin_valid (by unfold lenS;omega) hf (inS_iff.2 h3)
 · exact h
theorem tick_valid {t:TrT} (h:validT t=true) (f:Int):validT (tickT t f).1=true:=by
 unfold tickT
 split
 · rename_i g
   simp only [Zak] at g
   exact later_valid h g.1.2
 · exact h
theorem tick_bad {t:TrT} (h:validT t=false) (f:Int):(tickT t f).1=t:=by rw [tickT,h];rfl
theorem reset_valid {t:TrT} (h:validT t=true) (f:Int):validT (resetT t f)=true:=by
 unfold resetT
 split
 · rename_i g
   simp only [Zak] at g
   exact begin_valid (.inl rfl) g.1.2 (inS_iff.2 (validT_iff.1 h).2.2.1)
 · exact h
theorem reset_bad {t:TrT} (h:validT t=false) (f:Int):resetT t f=t:=by rw [resetT,h];rfl
theorem hear_tvalid {t:TrT} (h:validT t=true):validT (hearT t)=true:=by
 obtain ⟨h1,h2,h3,h4,h5,h6⟩:=validT_iff.1 h
 rw [hearT,if_pos h,validT_iff]
 exact ⟨h1,h2,h3,h4,by show 0≤min 100 (t.ct+1);omega,by show min 100 (t.ct+1)≤100;omega⟩
theorem hear_tbad {t:TrT} (h:validT t=false):hearT t=t:=by rw [hearT,h];rfl
theorem serve_st (s:StT) (l:List NearT) (f:Int):(serveS s l f).1=s∨(serveS s l f).1=withTr s (tickT s.tr f).1:=by
 unfold serveS
 split
 · exact .inl rfl
 split
 · exact .inr rfl
 · exact .inr rfl
theorem serve_valid {s:StT} (h:validP s=true) (l:List NearT) (f:Int):validP (serveS s l f).1=true:=by
 rcases serve_st s l f with h1|h1<;>rw [h1]
 · exact h
 · exact valid_tr h (fun h=>tick_valid h f) fun h=>tick_bad h f
theorem hear_cases (s:StT) (n:NotT) (p f:Int) (hv:validP s=true):
   (∃t,hearS s n p f=withTr s t∧validP (withTr s t)=true)∨(n.v>s.no.v∧announcedS n.v n.n n.t=true∧validT (newT s.tr.sd f).1=true∧hearS s n p f=⟨n, [], [], [], [],(newT s.tr.sd f).1⟩):=by
 have hself:withTr s s.tr=s:=rfl
 unfold hearS
 split
 · exact .inl ⟨s.tr,rfl,hv⟩
 rename_i g
 have g:okHear s n p f=true:=by simpa using g
 simp only [okHear,Zak,Bool.or_eq_true,decide_eq_true_eq] at g
 obtain ⟨⟨⟨⟨g1,g2⟩,g3⟩,g4⟩,g5⟩:=g
 split
 · rename_i hgt
   have hsv:0≤s.no.v∧tseedS s.tr.sd=true:=by
     cases he:emptyS s with
     |true=>exact ⟨by have:=(empty_tr he).2.1;omega,(empty_tr he).2.2⟩
     | false=>
       obtain ⟨v1,v2,v3,v4,v5,v6⟩:=valid_sound hv he
       have ha:=(sound_16 v1).2.2.2.2.2
       simp only [announcedS,Zak,decide_eq_true_eq] at ha
       exact ⟨by omega,inS_iff.2 (validT_iff.1 v6).2.2.1⟩
   refine .inr ⟨hgt, ?_, ?_,rfl⟩
   · rcases g2 with h|h
     · simp only [zeroN,Zak,beq_iff_eq] at h;omega
     · exact h
   · rw [newT,if_pos (by rw [hsv.2,g5];rfl)]
     exact begin_valid (.inl rfl) g5 hsv.2
 split
 · exact .inl ⟨_,rfl,valid_tr hv (fun h=>reset_valid h f) fun h=>reset_bad h f⟩
 split
 · split
   · exact .inl ⟨_,rfl,valid_tr hv (fun h=>reset_valid h f) fun h=>reset_bad h f⟩
   · exact .inl ⟨_,rfl,valid_tr hv hear_tvalid hear_tbad⟩
 · exact .inl ⟨s.tr,rfl,hv⟩
theorem hear_valid {s:StT} (hv:validP s=true) (n:NotT) (p f:Int):validP (hearS s n p f)=true:=by
 rcases hear_cases s n p f hv with ⟨t,h1,h2⟩|⟨h1,h2,h3,h4⟩
 · rw [h1];exact h2
 · rw [h4]
   have hc:1≤n.n∧n.n≤4096:=by simp only [announcedS,sizedS,Zak,decide_eq_true_eq] at h2;omega
   obtain ⟨k,hk⟩:∃k:Nat,n.n=k:=⟨n.n.toNat,by omega⟩
   have hcs:countS n.n=((k+255) / 256:Nat):=by rw [hk];exact countS_eq (by omega)
   refine valid_mk ?_ (Tru.nil []).good (by simp) (.inl rfl) (.inr rfl) h3
   show (announcedS n.v n.n n.t&&(!decide (((0:Nat):Int)>countS n.n)&&(!(((0:Nat):Int) !=((0:Nat):Int))&&(!anyOther []&&true))))=true
   rw [h2,hcs,decide_eq_false (by omega)];rfl
def Keeps (s t:StT):Prop:=s.ps.length≤t.ps.length∧t.ps.take s.ps.length=s.ps
theorem Keeps.of {s t:StT} (h:t.ps=s.ps):Keeps s t:=by rw [Keeps,h];simp
theorem hear_keeps {s:StT} (hv:validP s=true) (n:NotT) (p f:Int):((hearS s n p f).no=s.no∧Keeps s (hearS s n p f))∨((hearS s n p f).no=n∧n.v>s.no.v∧(hearS s n p f).ps= []):=by
 rcases hear_cases s n p f hv with ⟨t,h,_⟩|⟨h1,h2,h3,h4⟩
 · rw [h];exact .inl ⟨rfl, .of rfl⟩
 · rw [h4];exact .inr ⟨rfl,h1,rfl⟩
theorem recv_keeps (s:StT) {x:BlkT} (hb:∀a∈x.d,0≤a∧a<256):(recvT s x).1.no=s.no∧Keeps s (recvT s x).1:=by
 rcases recv_cases s x hb with ⟨_,h1⟩|⟨_,e,h1⟩|⟨_,l,_,_,_,_,h1⟩|⟨_,p,_,_,_,h1⟩<;>rw [h1]
 · exact ⟨rfl, .of rfl⟩
 · exact ⟨rfl, .of rfl⟩
 · exact ⟨rfl, .of rfl⟩
 · exact ⟨rfl,by simp,by simp⟩
theorem serve_keeps (s:StT) (l:List NearT) (f:Int):(serveS s l f).1.no=s.no∧Keeps s (serveS s l f).1:=by
 rcases serve_st s l f with h|h<;>rw [h]
 · exact ⟨rfl, .of rfl⟩
 · exact ⟨rfl, .of rfl⟩
set_option maxRecDepth 100000
set_option maxHeartbeats 4000000
noncomputable def lpV4:Code:=sub [1,1,1,1,1,1,0,1,2,3] (code Tryz.f4)
def tmV4 (xs:List (List Dv)) (n i:Int):List AV:= [.bad, .bad, .bad, .bad, .bad, .bad, .ptr 0 0, .ptr 1 0, .bad, .bad, .bad, .bad, .d (bo false), .d (bo true), .ptr 3 0, .ptr 4 0, .bad, .ptr 5 0]++Zaf 49 .bad++ [.full 13 xs, .d (i64 n), .d (i64 i)]++Zaf 73 .bad
def hpV4 (s:StT) (n:NotT) (x:BlkT) (h z w:StT) (c:BlkT):List Blk:= [stB s,noB n,bkB x,stB h,stB z,stB w,bkB c]
def TV4:List (Nat×(List AV→(AV→Prop)→Prop)):= [(23,cRSValid),(24,cLists)]
theorem TV4_ok:CallsOk prog TV4:=Zag cRSValid_ok (Zag cLists_ok Zah)
abbrev Qz5 (v0:BlkT):List AV:= [Zae (i64 (BlkT.n v0)),Zae (i64 (BlkT.s v0)),Zae (Zam 1 (bytesR (BlkT.d v0))),Zae (Zam 1 (digR (BlkT.pf v0)))]
abbrev Qz14 (v0:List (List Dv)) (v1:Int) (v2:Int):List AV:=bds 6 (Zaz 0 0::Zaz 1 0::bds 4 (Zae (bo false)::Zae (bo true)::Zaz 3 0::Zaz 4 0::Zav::Zaz 5 0::bds 49 (AV.full 13 v0::Zae (i64 v1)::Zae (i64 v2)::bds 73 [])))
theorem rV4 (s:StT) (no:NotT) (x:BlkT) (h z w:StT) (c:BlkT) (xs:List (List Dv)) (n i:Int):wpc prog ⟨TV4, [],wl,y,false⟩ 200 lpV4 (tmV4 xs n i) (hpV4 s no x h z w c) b (maskK 7 [6,7,12,13,14,15,17,67,68,69] K)=(BIf (decide (i<n)) (BIf (true&&decide (0≤i)) (∃(x0:Int) (x1:Int) (x2:Int) (x3:Int) (xs4:List (List Dv)) (xs5:List (List Dv)) (xs6:List (List Dv)) (xs7:List (List Dv)) (x8:Int) (x9:Int) (x10:Int) (x11:Int) (x12:Int),xs[Zap i]? =some [i64 x0,i64 x1,u64 x2,i64 x3,Zam 1 xs4,Zam 1 xs5,Zam 2 xs6,Zam 1 xs7,i64 x8,i64 x9,i64 x10,i64 x11,i64 x12]∧∃(s15:StT) (z16:Bool), [Zbp [Zae (i64 x0),Zae (i64 x1),Zae (u64 x2),Zae (i64 x3),Zae (Zam 1 xs4),Zae (Zam 1 xs5),Zae (Zam 2 xs6),Zae (Zam 1 xs7),Zae (i64 x8),Zae (i64 x9),Zae (i64 x10),Zae (i64 x11),Zae (i64 x12)]]= [stV s15]∧((smallS s15)∧z16=validP s15)∧BIf (!z16) (K .ret (Qz14 xs n i) [stB s,Blk.mk (noL no) false false 0,Blk.mk (Qz5 x) false false 0,stB h,stB z,stB w,Blk.mk (Qz5 c) false false 0] b) (BIf (!(x0==Zdy (Zcd s)&&(x1==Zed (Zcd s)&&(x2==Zel (Zcd s)&&(x3==Zem (Zcd s)&&true))))) (K .normal (bds 6 (Zaz 0 0::Zaz 1 0::bds 4 (Zae (bo false)::Zae (bo true)::Zaz 3 0::Zaz 4 0::Zav::Zaz 5 0::bds 49 (AV.full 13 xs::Zae (i64 n)::Zae (i64 (Zaa .i64 (i+1)))::bds 73 [])))) [stB s,Blk.mk (noL no) false false 0,Blk.mk (Qz5 x) false false 0,stB h,stB z,stB w,Blk.mk (Qz5 c) false false 0] b) (BIf (decide (((Zab xs4:Nat):Int)<((Zab (partsR (Zeu s)):Nat):Int))) (K .ret (Qz14 xs n i) [stB s,Blk.mk (noL no) false false 0,Blk.mk (Qz5 x) false false 0,stB h,stB z,stB w,Blk.mk (Qz5 c) false false 0] b) (BIf (true&&decide ((0:Int)≤(0:Int)∧(0:Int)≤((Zab (partsR (Zeu s)):Nat):Int)∧((Zab (partsR (Zeu s)):Nat):Int)≤((Zab xs4:Nat):Int)∧((Zab xs4:Nat):Int)≤((Zab xs4:Nat):Int))) (∃(a17:List (List Int)) (c18:List (List Int)) (z19:Bool), [Zae (Zam 1 (List.take (Zap ((Zab (partsR (Zeu s)):Nat):Int) - Zap (0:Int)) (List.drop (Zap (0:Int)) xs4))),Zae (Zam 1 (partsR (Zeu s)))]= [Zae (Zam 1 (partsR a17)),Zae (Zam 1 (partsR c18))]∧((Zab a17≤9223372036854775807∧∀(p:List Int),p∈a17→Zab p≤9223372036854775807)∧z19=decide (a17=c18))∧BIf (!z19) (K .ret (Qz14 xs n i) [stB s,Blk.mk (noL no) false false 0,Blk.mk (Qz5 x) false false 0,stB h,stB z,stB w,Blk.mk (Qz5 c) false false 0] b) (K .normal (bds 6 (Zaz 0 0::Zaz 1 0::bds 4 (Zae (bo false)::Zae (bo true)::Zaz 3 0::Zaz 4 0::Zav::Zaz 5 0::bds 49 (AV.full 13 xs::Zae (i64 n)::Zae (i64 (Zaa .i64 (i+1)))::bds 73 [])))) [stB s,Blk.mk (noL no) false false 0,Blk.mk (Qz5 x) false false 0,stB h,stB z,stB w,Blk.mk (Qz5 c) false false 0] b)) False)))) False) (K (Exit.exit 0) (Qz14 xs n i) [stB s,Blk.mk (noL no) false false 0,Blk.mk (Qz5 x) false false 0,stB h,stB z,stB w,Blk.mk (Qz5 c) false false 0] b)):=by kernel_rfl
def Fine4 (s t:StT):Prop:=smallS t∧validP t=true∧(t.no=s.no→Keeps s t)
theorem stD_at {ts rest:List StT} {t:StT} {k:Nat} (hd:ts.drop k=t::rest):(ts.map stD)[k]? =some (stD t):=by
 obtain ⟨h1,h2,_⟩:=drop_cons hd
 simp [h2]
theorem wrV4 {Ev:Env prog} {b:Ev.β} {Q:Exit→St Ev.β→Prop} (s:StT) (no:NotT) (x:BlkT) (h z w:StT) (c:BlkT) (hs:smallS s) (ts:List StT) (hl:ts.length≤1000):∀(rest:List StT) (k:Nat),ts.drop k=rest→(∀t∈rest,Fine4 s t)→
   (∀i:Int,Q (.exit 0) ⟨tmV4 (ts.map stD) ts.length i,hpV4 s no x h z w c,b⟩)→
   WR Ev lpV4 (rest.length+1) ⟨tmV4 (ts.map stD) ts.length k,hpV4 s no x h z w c,b⟩ Q
 | [],k,hd,hf,h1=>by
   have hk:=drop_nil hd
   refine WR.ofMask [6,7,12,13,14,15,17,67,68,69] mixed (CX.Ok.of (u:=false) TV4_ok Zad) (k:=200) ?_
   refine Eq.mpr (rV4 _ _ _ _ s no x h z w c (ts.map stD) ts.length k) ?_
   exact Zct (by simp;omega) (h1 k)
 | t::rest,k,hd,hf,h1=>by
   obtain ⟨hk,hr2,hd'⟩:=drop_cons hd
   refine WR.ofMask [6,7,12,13,14,15,17,67,68,69] mixed (CX.Ok.of (u:=false) TV4_ok Zad) (k:=200) ?_
   refine Eq.mpr (rV4 _ _ _ _ s no x h z w c (ts.map stD) ts.length k) ?_
   have e1:Zaa IntKind.i64 ((k:Int)+1)=((k+1:Nat):Int):=wrapN (by omega)
   rw [e1,Zax]
   obtain ⟨f1,f2,f3⟩:=hf t (Zaw ..)
   have nx:=wrV4 (Q:=Q) (b:=b) s no x h z w c hs ts hl rest (k+1) hd' (fun t ht=>hf t (Zau _ ht)) h1
   refine Zbl (by simp;omega) (Zbl (by simp) ⟨_,_,_,_,_,_,_,_,_,_,_,_,_,stD_at hd,t,_,rfl,⟨f1,rfl⟩,Zct (by rw [f2];rfl) (Zan (fun _=>nx) fun g=> ?_)⟩)
   have he:(t.no.v==s.no.v&&(t.no.n==s.no.n&&(t.no.r==s.no.r&&(t.no.t==s.no.t&&true))))=eqN t.no s.no:=by simp only [eqN,Bool.and_true]
   rw [he] at g
   obtain ⟨k1,k2⟩:=f3 (eqN_iff.1 (nbf g))
   have hlen:=hs.1.1
   rw [partsR_len,partsR_len]
   have e2:List.take (Zap (s.ps.length:Int) - Zap 0) (List.drop (Zap 0) (partsR t.ps))=partsR s.ps:=by
     rw [←k2];simp [partsR,List.map_take]
   rw [e2]
   exact Zct (by simp;omega) (Zbl (by simp;omega) ⟨s.ps,s.ps,true,rfl,⟨⟨by omega,fun p hp=>by have:=hs.1.2 p hp;omega⟩,by simp⟩,Zct rfl nx⟩)
def wlV4 {β:Type}:WLT β:=fun c tm hp b K=>∃(s:StT) (no:NotT) (x:BlkT) (h z w:StT) (c':BlkT),c= .loop lpV4∧maskTm [6,7,12,13,14,15,17,67,68,69] 0 tm=tmV4 [stD h,stD z,stD w] 3 0∧hp=hpV4 s no x h z w c'∧(smallS s∧∀t∈ [h,z,w],Fine4 s t)∧
 ∀i:Int,K (.exit 0) (tmV4 [stD h,stD z,stD w] 3 i) (hpV4 s no x h z w c') b
theorem wlV4_ok {Ev:Env prog} (c:Code) (tm:List AV) (hp:List Blk) (b:Ev.β) (K:Exit→List AV→List Blk→Ev.β→Prop) (h:wlV4 c tm hp b K):W Ev c ⟨tm,hp,b⟩ (fun e s=>K e s.tm s.hp s.b):=by
 obtain ⟨s,no,x,h,z,w,c',rfl,htm,rfl,⟨hs,hf⟩,hK⟩:=h
 refine W.cast (htm▸maskTm_le _ tm 0) (LeH.refl _) ?_
 exact W.rounds (wrV4 (Q:=fun e s=>K e s.tm s.hp s.b) s no x h z w c' hs [h,z,w] (by simp) [h,z,w] 0 rfl hf hK)
def TL4:List (Nat×(List AV→(AV→Prop)→Prop)):= [(13,cSHead),(14,lessC cFewL),(23,cRSValid),(21,cSHear),(15,cSReceive),(17,cSServe)]
theorem TL4_ok:CallsOk prog TL4:=Zag cSHead_ok (Zag (lessC_ok cFewL_ok) (Zag cRSValid_ok (Zag cSHear_ok (Zag cSReceive_ok (Zag cSServe_ok Zah)))))
abbrev Qz19 (v0:StT) (v1:StT) (v2:StT):List AV:=bds 6 (Zaz 0 0::Zaz 1 0::bds 4 (Zae (bo false)::Zae (bo true)::Zaz 3 0::Zaz 4 0::Zav::Zaz 5 0::bds 49 (AV.full 13 [(stD v0),(stD v1),(stD v2)]::Zae (i64 3)::Zae (i64 0)::bds 73 [])))
theorem f4_nf (s:StT) (n:NotT) (p f:Int) (x:BlkT) (l:List NearT):wpFn prog ⟨TL4, [],wlV4,y,false⟩ 200 Tryz.f4 [stV s,noV n, .d (i64 p), .d (i64 f),bkV x, .d (.sl 31 (nearR l))] b R=(([]:List AV)= []∧∃(args0:List AV),LeVs [stV s,Zae (Zam 31 (nearR l))] args0∧∃(s1:StT) (near2:List (List Dv)) (z3:Bool),args0= [stV s1,Zae (Zam 31 near2)]∧z3=(fewT s1&&decide (((Zab near2:Nat):Int)≤(100:Int)))∧BIf (!z3) (R (.d (bo true)) b) (BIf (decide (((Zab (bytesR (BlkT.d x)):Nat):Int)>(100:Int))) (R (.d (bo true)) b) (BIf (decide (((Zab (digR (BlkT.pf x)):Nat):Int)>(40:Int))) (R (.d (bo true)) b) (∃(s4:StT) (z5:Bool), [stV s]= [stV s4]∧((smallS s4)∧z5=validP s4)∧BIf (!z5) (R (.d (bo true)) b) (∃(s6:StT) (n7:NotT) (p8:Int) (f9:Int) (z10:StT), [stV s,noV n,Zae (i64 p),Zae (i64 f)]= [stV s6,noV n7,Zae (i64 p8),Zae (i64 f9)]∧((smallS s6)∧z10=hearS s6 n7 p8 f9)∧∃(s11:StT) (x12:BlkT) (z13:StT) (e14:Int), [stV s,Zbp (Qz5 x)]= [stV s11,Zbp (Qz5 x12)]∧(((smallS s11)∧Zab (BlkT.pf x12)≤1000000)∧(z13,e14)=recvT s11 x12)∧∃(s15:StT) (l16:List NearT) (f17:Int) (z18:StT) (x19:BlkT) (e20:Bool), [stV s,Zae (Zam 31 (nearR l)),Zae (i64 f)]= [stV s15,Zae (Zam 31 (nearR l16)),Zae (i64 f17)]∧(((smallS s15)∧Zab l16≤1000000)∧(z18,x19,e20)=serveS s15 l16 f17)∧∃(s21:StT) (no22:NotT) (x23:BlkT) (h24:StT) (z25:StT) (w26:StT) (c27:BlkT),Zbd lpV4=Zbd lpV4∧(Qz19 z10 z13 z18)=(Qz19 h24 z25 w26)∧ [stB s,Blk.mk (noL n) false false 0,Blk.mk (Qz5 x) false false 0,stB z10,stB z13,stB z18,Blk.mk (Qz5 x19) false false 0]= [stB s21,Blk.mk (noL no22) false false 0,Blk.mk (Qz5 x23) false false 0,stB h24,stB z25,stB w26,Blk.mk (Qz5 c27) false false 0]∧((smallS s21)∧∀(t:StT),t∈ [h24,z25,w26]→(smallS t)∧validP t=true∧(Zcd t=Zcd s21→Zab (Zeu s21)≤Zab (Zeu t)∧List.take (Zab (Zeu s21)) (Zeu t)=Zeu s21))∧∀(i:Int),BIf (Zdy (Zcd z25)==Zdy (Zcd s21)&&(Zed (Zcd z25)==Zed (Zcd s21)&&(Zel (Zcd z25)==Zel (Zcd s21)&&(Zem (Zcd z25)==Zem (Zcd s21)&&true)))) (BIf (Zdy (Zcd w26)==Zdy (Zcd s21)&&(Zed (Zcd w26)==Zed (Zcd s21)&&(Zel (Zcd w26)==Zel (Zcd s21)&&(Zem (Zcd w26)==Zem (Zcd s21)&&true)))) (BIf (Zdy (Zcd h24)==Zdy (Zcd s21)&&(Zed (Zcd h24)==Zed (Zcd s21)&&(Zel (Zcd h24)==Zel (Zcd s21)&&(Zem (Zcd h24)==Zem (Zcd s21)&&true)))) (R (.d (bo true)) b) (BIf (Zdy (Zcd h24)==Zdy no22&&(Zed (Zcd h24)==Zed no22&&(Zel (Zcd h24)==Zel no22&&(Zem (Zcd h24)==Zem no22&&true)))) (BIf (decide (Zdy no22>Zdy (Zcd s21))) (R (.d (bo (((Zab (partsR (Zeu h24)):Nat):Int)==(0:Int)))) b) (R (.d (bo false)) b)) (R (.d (bo false)) b))) (R (.d (bo false)) b)) (R (.d (bo false)) b)))))):=by kernel_rfl
set_option maxHeartbeats 0
set_option maxHeartbeats 4000000
theorem few_two {s:StT} {l:List (List Dv)} (h:(!(fewT s&&decide ((l.length:Int)≤100)))=false):fewT s=true∧l.length≤100:=by
 have:=nbf h
 simp only [Zak,decide_eq_true_eq] at this
 exact ⟨this.1,by omega⟩
theorem eq4_self (a c:NotT) (h:a=c):(a.v==c.v&&(a.n==c.n&&(a.r==c.r&&(a.t==c.t&&true))))=true:=by subst h;simp
theorem pcLaw4 (s:StT) (n:NotT) (p f:Int) (x:BlkT) (l:List NearT) (hb:∀a∈x.d,0≤a∧a<256):
   PCall prog 4 [stV s,noV n, .d (i64 p), .d (i64 f),bkV x, .d (.sl 31 (nearR l))] (.d (bo true)):=by
 refine PCall.ofFnW (n:=200) (u:=false) (fun _=>wlV4) mixed TL4_ok Zad (fun Ev=>wlV4_ok) func4 (by rfl) (by rfl) fun Ev bb=> ?_
 rw [f4_nf]
 refine ⟨rfl,_,LeVs.refl _,s,nearR l,_,rfl,rfl,Zan (fun _=>rfl) fun g1=>Zan (fun _=>rfl) fun g2=>Zan (fun _=>rfl) fun g3=> ?_⟩
 obtain ⟨hf,hl⟩:=few_two g1
 rw [nearR_len] at hl
 rw [digR_len] at g3
 have g3:=of_decide_eq_false g3
 have hs:=few_small hf
 have hpf:x.pf.length≤1000000:=by omega
 have hl':l.length≤1000000:=by omega
 refine ⟨s,_,rfl,⟨hs,rfl⟩,Zan (fun _=>rfl) fun g4=> ?_⟩
 have hv:=nbf g4
 obtain ⟨r1,r2⟩:=recv_keeps s hb
 obtain ⟨v1,v2⟩:=serve_keeps s l f
 have hk:=hear_keeps hv n p f
 refine ⟨s,n,p,f,hearS s n p f,rfl,⟨hs,rfl⟩,s,x,(recvT s x).1,(recvT s x).2,rfl,⟨⟨hs,hpf⟩,rfl⟩,s,l,f,(serveS s l f).1,(serveS s l f).2.1,(serveS s l f).2.2,rfl,⟨⟨hs,hl'⟩,rfl⟩,
   s,n,x,hearS s n p f,(recvT s x).1,(serveS s l f).1,(serveS s l f).2.1,rfl,rfl,rfl,⟨hs,fun t ht=> ?_⟩,fun i=> ?_⟩
 · simp only [List.mem_cons,List.not_mem_nil,or_false] at ht
   rcases ht with rfl|rfl|rfl
   · refine ⟨hear_small hs n p f,hear_valid hv n p f,fun h=> ?_⟩
     rcases hk with ⟨_,h2⟩|⟨h1,h2,_⟩
     · exact h2
     · rw [h1] at h;rw [h] at h2;omega
   · exact ⟨recv_small hb hs hpf,recv_valid hb hv,fun _=>r2⟩
   · exact ⟨serve_small hs l f,serve_valid hv l f,fun _=>v2⟩
 · refine Zbl (eq4_self _ _ r1) (Zbl (eq4_self _ _ v1) ?_)
   rcases hk with ⟨h1,h2⟩|⟨h1,h2,h3⟩
   · exact Zbl (eq4_self _ _ h1) rfl
   · refine Zan (fun _=>rfl) fun _=>Zbl (eq4_self _ _ h1) (Zbl (by simpa using h2) ?_)
     rw [partsR_len,h3];rfl
end Go.Proofs.YtibhflogmbfpcaaGreatDoor.Am
