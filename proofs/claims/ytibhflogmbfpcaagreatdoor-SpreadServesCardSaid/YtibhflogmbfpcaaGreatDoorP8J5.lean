import Derived.Test.YtibhflogmbfpcaaGreatDoorP8J4
import Derived.Test.YtibhflogmbfpcaaGreatDoorP8J3
import Derived.Test.YtibhflogmbfpcaaGreatDoorP8J2
import Derived.Test.YtibhflogmbfpcaaGreatDoorTie
import Derived.Test.YtibhflogmbfpcaaGreatDoorCards
import Derived.ProofKit
import Derived.LaidMore
import Derived.OpenShut
import Derived.Stop.Joined
import Derived.Lay
import Derived.LaidOnce
import Derived.SevenTiedAt
import Derived.JoinedOf
set_option linter.unusedSimpArgs false
set_option linter.unusedVariables false
namespace Go.Proofs.YtibhflogmbfpcaaGreatDoor.Am
open Go Go.RowKit Go.Proofs Tryz
open AV renaming agg → Zbo, bad → Zat, d → Zae, ptr → Zaw
open BIf renaming f → Zcq, of → Zan, t → Zbk
open BitVec renaming ofInt → Zap
open BlkT renaming n → Zdk, pf → Zda
open Bool renaming and_eq_true → Zal
open CallsOk renaming cons → Zag, nil → Zah
open Go.Code renaming loop → Zbd
open Dv renaming sl → Zam
open Int renaming toNat → Zao, toNat_natCast → Zay
open Go.IntKind renaming wrap → Zaa
open List renaming length → Zab, mem_cons_of_mem → Zav, mem_cons_self → Zax, mem_map → Zbf, mem_of_getElem? → Zbg, mem_range → Zcp, range → Zbe, replicate → Zaf
open SCallsOk renaming nil → Zad
open Go.Value renaming slice → Zbp
variable {β:Type} (wl:WLT β) (y:YieldT β) (b:β) (R:AV→β→Prop) (K:Exit→List AV→List Blk→β→Prop) (Q:β→Prop)
open AV (bad)
set_option linter.unusedVariables false
set_option maxRecDepth 20000
def hp0:List Int:=padS (smp.take 256)
def hp1:List Int:=padS (smp.drop 256)
def hR:Int:=(rootS [hp0,hp1]).1
def hN:NotT:=⟨3,300,hR,50⟩
def hs0:SprT:=⟨hN, [], [], [], [],0,0,0,0,0⟩
def hs1:SprT:=⟨hN, [hp0], [[leafS hp1]], [], [],0,0,0,0,0⟩
def hs2:SprT:=⟨hN, [hp0,hp1], [[leafS hp1], [leafS hp0]], [], [],0,0,0,0,0⟩
def hX:Int:=Zaa IntKind.u64 ((BitVec.toNat (Zap 64 (leafS hp0) ^^^ Zap 64 (1:Int)):Nat):Int)
set_option maxHeartbeats 0
set_option maxRecDepth 100000
set_option maxRecDepth 20000
theorem split_flat:∀(n:Nat) (p:List Int),p.length≤n→∃z,((chunkD 256 n p).map padS).flatten=p++Zaf z 0
 | 0,p,h=>by
   have:p= []:=List.length_eq_zero_iff.1 (by omega)
   subst this;exact ⟨0,rfl⟩
 | n+1,p,h=>by
   rw [chunkD]
   cases hp:p with
   |nil=>exact ⟨0,rfl⟩
   | cons a l=>
     rw [if_neg (by simp),←hp,List.map_cons,List.flatten_cons]
     have hl:1≤p.length:=by rw [hp];simp
     obtain ⟨z,hz⟩:=split_flat n (p.drop 256) (by simp;omega)
     rw [hz]
     by_cases h256:256≤p.length
     · refine ⟨z, ?_⟩
       have:padS (p.take 256)=p.take 256:=by
         have e:(p.take 256).length=256:=by simp;omega
         rw [padS,e];simp
       rw [this,←List.append_assoc,List.take_append_drop]
     · refine ⟨(256 - p.length)+z, ?_⟩
       rw [List.take_of_length_le (by omega),List.drop_of_length_le (by omega),List.nil_append,padS,List.append_assoc,List.replicate_append_replicate]
theorem all_zeros (z:Nat):(Zaf z (0:Int)).all (· ==0)=true:=List.all_eq_true.2 fun x hx=>by rw [(List.mem_replicate.1 hx).2];rfl
theorem split_all {p:List Int}:anyOther (splitS p)=false:=by
 rw [anyOther,List.any_eq_false]
 intro q hq
 rw [split_pieces] at hq
 obtain ⟨i,_,rfl⟩:=Zbf.1 hq
 have:=padS_len (piece_len p i)
 simp;omega
theorem split_len (p:List Int):(splitS p).length=(p.length+255) / 256:=by rw [split_pieces];simp
theorem join_split {p:List Int} {n:Nat} (hn:sizedS (n:Int)=true) (hc:(n+255) / 256=(p.length+255) / 256):
   joinS (splitS p) n=if (p.drop n).all (· ==0) then ((p++Zaf (n - p.length) 0).take n,0) else ([],12):=by
 obtain ⟨k,hk,h1,h2⟩:=sized_nat hn
 have hk:n=k:=by omega
 subst hk
 obtain ⟨z,hz⟩:=split_flat p.length p (Nat.le_refl _)
 have hz:(splitS p).flatten=p++Zaf z 0:=hz
 have hg:((!sizedS (n:Int))||((((splitS p).length:Int) !=countS n)||anyOther (splitS p)))=false:=by
   rw [hn,split_all,split_len,countS_eq (by omega),hc];simp
 have hs:=sum_pages (ps:=splitS p) split_all
 rw [hz,split_len] at hs
 rw [joinS,if_neg (by rw [hg];simp),Zay,hz]
 simp only [List.length_append,List.length_replicate] at hs
 have hd:(p++Zaf z 0).drop n=p.drop n++Zaf (z - (n - p.length)) 0:=by
   rw [List.drop_append,List.drop_replicate]
 have hall:((p++Zaf z 0).drop n).all (· ==0)=(p.drop n).all (· ==0):=by
   rw [hd,List.all_append,all_zeros,Bool.and_true]
 have ht:(p++Zaf z 0).take n=(p++Zaf (n - p.length) 0).take n:=by
   rw [List.take_append,List.take_append,List.take_replicate,List.take_replicate]
   congr 2;omega
 by_cases h:(p.drop n).all (· ==0)=true
 · rw [if_neg (by rw [trimS_all,hall,h];simp),if_pos h,ht]
 · rw [if_pos (by rw [trimS_all,hall];simpa using h),if_neg h]
set_option maxRecDepth 100000
set_option maxRecDepth 20000
def rootF:Nat→List Int→Int
 |0,now=>nth now 0
 |n+1,now=>if 1<now.length then rootF n (nextL now) else nth now 0
theorem last_root:∀(n:Nat) (now:List Int) (v:Int),lastS (levelsF n now) v=rootF n now
 |0,now,v=>rfl
 | n+1,now,v=>by
   rw [levelsF,rootF]
   split
   · exact last_root n (nextL now) _
   · rfl
theorem nth_cons (a:Int) (l:List Int) (i:Nat):nth (a::l) (i+1)=nth l i:=by simp [nth]
theorem next_len:∀l:List Int,(nextL l).length=(l.length+1) / 2
 | []=>rfl
 | [a]=>by simp [nextL]
 | a::c::l=>by
   have:=next_len l
   simp only [nextL,List.length_cons];omega
theorem next_nth:∀(l:List Int) (k:Nat),k<l.length→nth (nextL l) (k / 2)=if sibN k<l.length then (if k % 2=1 then pairS (nth l (sibN k)) (nth l k) else pairS (nth l k) (nth l (sibN k))) else nth l k
 | [],k,h=>by simp at h
 | [a],k,h=>by
   have:k=0:=by simp at h;omega
   subst this
   rfl
 | a::c::l,0,h=>by
   rw [show sibN 0=1 from rfl,if_pos (by simp),if_neg (by decide)];rfl
 | a::c::l,1,h=>by
   rw [show sibN 1=0 from rfl,if_pos (by simp),if_pos (by decide)];rfl
 | a::c::l,k+2,h=>by
   have ih:=next_nth l k (by simp at h;omega)
   have e1:(k+2) / 2=k / 2+1:=by omega
   have e2:sibN (k+2)=sibN k+2:=by unfold sibN;split<;>split<;>omega
   have e3:(k+2) % 2=k % 2:=by omega
   rw [e1,e2,e3,nextL,nth_cons,ih]
   have e4:nth (a::c::l) (sibN k+2)=nth l (sibN k):=by rw [show sibN k+2=(sibN k+1)+1 from rfl,nth_cons,nth_cons]
   have e5:nth (a::c::l) (k+2)=nth l k:=by rw [show k+2=(k+1)+1 from rfl,nth_cons,nth_cons]
   rw [e4,e5]
   by_cases hs:sibN k<l.length
   · rw [if_pos hs,if_pos (show sibN k+2<(a::c::l).length by simp only [List.length_cons];omega)]
   · rw [if_neg hs,if_neg (show ¬sibN k+2<(a::c::l).length by simp only [List.length_cons];omega)]
theorem check_right:∀(n w k:Nat) (now:List Int),now.length=w→k<w→w≤n+1→checkF (walkP n w k) (proofF (levelsF n now) k) (nth now k)=some ([],rootF n now)
 | 0,w,k,now,hw,hk,hn=>by
   have:k=0:=by omega
   subst this
   rw [walkP,levelsF,proofF,show sibN 0=1 from rfl,if_neg (by omega),proofF];rfl
 | n+1,w,k,now,hw,hk,hn=>by
   rw [walkP,levelsF,rootF,hw]
   by_cases h1:1<w
   · rw [if_pos h1,if_pos h1,if_pos h1,proofF,hw]
     have hnx:=next_nth now k (by omega)
     have hln:=next_len now
     have ih:=check_right n ((w+1) / 2) (k / 2) (nextL now) (by rw [hln,hw]) (by omega) (by omega)
     rw [hw] at hnx
     by_cases hs:sibN k<w
     · rw [if_pos hs] at hnx ⊢
       rw [decide_eq_true hs,List.singleton_append]
       by_cases hodd:k % 2=1
       · rw [if_pos hodd] at hnx
         rw [show (k % 2==1)=true by simp [hodd],checkF_t,←hnx];exact ih
       · rw [if_neg hodd] at hnx
         rw [show (k % 2==1)=false by simp;omega,checkF_g,←hnx];exact ih
     · rw [if_neg hs] at hnx ⊢
       rw [decide_eq_false hs,List.nil_append,checkF_f,←hnx];exact ih
   · rw [if_neg h1,if_neg h1,if_neg h1,proofF,proofF,List.append_nil]
     have:k=0:=by omega
     subst this
     rw [hw,show sibN 0=1 from rfl,if_neg (by omega)];rfl
theorem map_nth {l:List (List Int)} {i:Nat} (h:i<l.length):nth (l.map leafS) i=leafS (nthL l i):=by simp [nth,nthL,h]
theorem check_page {ps:List (List Int)} (h:areS ps=true) {i:Nat} (hi:i<ps.length):checkF (walkS ps.length i) (proofF (levelsS ps) i) (leafS (nthL ps i))=some ([],(rootS ps).1):=by
 rw [rootS,if_pos h,levelsS,last_root,walkS,List.length_map,←map_nth hi]
 exact check_right ps.length ps.length i (ps.map leafS) (by simp) hi (by omega)
theorem check_form {r:Int} {w i:Nat} {p q:List Int} (h1:1≤w) (h2:w≤16) (h3:i<w) (h4:p.length≤256):checkS r w i p q=topS r (checkF (walkS w i) q (leafS p)):=by
 rw [checkS,Zay,Zay,decide_eq_false (by omega),decide_eq_false (by omega),decide_eq_false (by omega),decide_eq_false (by omega),decide_eq_false (by omega)];rfl
theorem page_len {ps:List (List Int)} {i:Nat} (h:areS ps=true) (hi:i<ps.length):(proofF (levelsS ps) i).length≤16:=by
 have hl:ps.length≤16:=(areS_ok h).1
 have hF:=checkF_len ps.length ps.length i (proofF (levelsS ps) i) (leafS (nthL ps i))
 have hc:=check_page h hi
 rw [walkS] at hc
 have:=lenW_le ps.length ps.length i
 rcases Nat.lt_or_ge (proofF (levelsS ps) i).length (lenW ps.length ps.length i) with h1|h1
 · omega
 · obtain ⟨z,hz⟩:=hF.2 h1
   rw [hz] at hc
   simp only [Option.some.injEq,Prod.mk.injEq,List.drop_eq_nil_iff] at hc
   omega
def IsB (x:Int):Prop:=0≤x∧x<256
theorem split_range {p:List Int} (h:∀x∈p,IsB x):∀q∈splitS p,∀x∈q,IsB x:=by
 intro q hq x hx
 rw [split_pieces] at hq
 obtain ⟨i,_,rfl⟩:=Zbf.1 hq
 rw [padS] at hx
 rcases List.mem_append.1 hx with hx|hx
 · exact h x (List.mem_of_mem_drop (List.mem_of_mem_take hx))
 · rw [(List.mem_replicate.1 hx).2];exact ⟨by decide,by decide⟩
section
set_option maxRecDepth 100000
end
set_option maxRecDepth 20000
section
set_option maxRecDepth 100000
end
set_option maxRecDepth 20000
theorem allP_no (s z:SprT) (h:z.no=s.no):∀(ps qs:List (List Int)) (k:Nat),allP z k ps qs=allP s k ps qs
 | [],qs,k=>by rw [allP,allP]<;>(intros;simp_all)
 |p::ps, [],k=>by rw [allP,allP]<;>(intros;simp_all)
 |p::ps,q::qs,k=>by rw [allP,allP,allP_no s z h ps qs,provedS,provedS,h]
theorem allP_app (s:SprT) (p q:List Int):∀(ps qs:List (List Int)) (k:Nat),ps.length=qs.length→allP s k (ps++ [p]) (qs++ [q])=(allP s k ps qs&&provedS s ((k+ps.length:Nat):Int) p q)
 | [], [],k,h=>by
   show (provedS s k p q&&allP s (k+1) [] [])=_
   rw [show allP s (k+1) [] []=true from rfl,show allP s k [] []=true from rfl,Bool.and_true,Bool.true_and];rfl
 | [],q::qs,k,h=>by simp at h
 |p::ps, [],k,h=>by simp at h
 | a::ps,c::qs,k,h=>by
   show (provedS s k a c&&allP s (k+1) (ps++ [p]) (qs++ [q]))=((provedS s k a c&&allP s (k+1) ps qs)&&_)
   rw [allP_app s p q ps qs (k+1) (by simpa using h),Bool.and_assoc]
   congr 3
   rw [List.length_cons];congr 1;omega
theorem sound_put {s:SprT} {p q:List Int} (h:soundS s=true) (hp:p.length=256) (hc:(s.ps.length:Int)≠countS s.no.n) (hq:provedS s s.ps.length p q=true) (z:SprT) (hn:z.no=s.no) (h1:z.ps=s.ps++ [p]) (h2:z.qs=s.qs++ [q]):soundS z=true:=by
 obtain ⟨f1,f2,f3,f4,f5⟩:=sound_facts h
 simp only [soundS,Zal] at h
 obtain ⟨g1,g2,g3,g4,g5⟩:=h
 have g2:¬((s.ps.length:Int)>countS s.no.n):=by simpa using g2
 have g4:anyOther s.ps=false:=by simpa using g4
 have a1:anyOther (s.ps++ [p])=false:=by
   rw [anyOther] at g4 ⊢
   rw [List.any_append,g4]
   simp [hp]
 have a2:allP z 0 (s.ps++ [p]) (s.qs++ [q])=true:=by
   rw [allP_no s z hn,allP_app s p q _ _ _ f2.symm,g5,Nat.zero_add,hq];rfl
 rw [soundS,hn,h1,h2,g1,a1,a2]
 simp [f2];omega
section
set_option maxRecDepth 100000
end
set_option maxRecDepth 20000
structure Lays (no:NotT) (ps:List (List Int)):Prop where
 are:areS ps=true
 two:∀p∈ps,p.length=256
 ann:announcedS no.v no.n no.t=true
 cnt:countS no.n=ps.length
 rt:no.r=(rootS ps).1
def proofL (ps:List (List Int)) (i:Nat):List Int:=proofF (levelsS ps) i
def layS (no:NotT) (ps:List (List Int)) (k:Nat):SprT:=⟨no,ps.take k,(Zbe k).map (proofL ps), [], [],0,0,0,0,0⟩
theorem lay_len {no:NotT} {ps:List (List Int)} {k:Nat} (hk:k≤ps.length):(layS no ps k).ps.length=k:=by simp [layS];omega
theorem lay_at {ps:List (List Int)} {i:Nat} (h:i<ps.length):ps.take (i+1)=ps.take i++ [nthL ps i]:=by
 rw [nthL,List.getD_eq_getElem?_getD,List.getElem?_eq_getElem h,List.take_add_one,List.getElem?_eq_getElem h];rfl
theorem lay_proved {no:NotT} {ps:List (List Int)} (h:Lays no ps) {k i:Nat} (hi:i<ps.length):provedS (layS no ps k) i (nthL ps i) (proofL ps i)=true:=by
 obtain ⟨a1,a2,a3⟩:=areS_ok h.are
 show checkS no.r (countS no.n) i _ _=true
 rw [h.cnt,check_form (by omega) a1 hi (a3 _ (nthL_mem hi)),proofL,check_page h.are hi,h.rt]
 simp [topS]
theorem lay_qs {no:NotT} {ps:List (List Int)} (h:Lays no ps) {k:Nat} (hk:k≤ps.length):∀x∈(layS no ps k).qs,x.length≤1000000:=by
 intro x hx
 simp only [layS,Zbf,Zcp] at hx
 obtain ⟨i,hi,rfl⟩:=hx
 have:=page_len (i:=i) h.are (by omega)
 rw [proofL];omega
theorem lay_sound {no:NotT} {ps:List (List Int)} (h:Lays no ps):∀k:Nat,k≤ps.length→soundS (layS no ps k)=true
 | 0,_=>by
   have e:layS no ps 0=⟨no, [], [], [], [],0,0,0,0,0⟩:=by simp [layS]
   obtain ⟨a1,a2,a3⟩:=areS_ok h.are
   rw [e,soundS,h.ann,h.cnt]
   simp [anyOther,allP]
 | k+1,hk=>by
   refine sound_put (s:=layS no ps k) (p:=nthL ps k) (q:=proofL ps k) (lay_sound h k (by omega)) (h.two _ (nthL_mem (by omega))) ?_ (by rw [lay_len (by omega)];exact lay_proved h (by omega)) _ rfl (lay_at (by omega)) ?_
   · rw [lay_len (by omega)]
     show (k:Int)≠countS no.n
     rw [h.cnt];omega
   · show (Zbe (k+1)).map _=(Zbe k).map _++_
     rw [List.range_succ,List.map_append];rfl
theorem lay_proof {ps:List (List Int)} (h:areS ps=true) {k:Nat} (hk:k<ps.length):proofS ps k=(proofL ps k,0):=by
 rw [proofS,h,if_pos (by simp;omega),Zay];rfl
theorem lays_page {v t:Int} {p:List Int} (h:sizedS p.length=true) (ha:announcedS v p.length t=true):annS v p t=(⟨v,p.length,(rootS (splitS p)).1,t⟩,0)∧Lays ⟨v,p.length,(rootS (splitS p)).1,t⟩ (splitS p):=by
 have ar:=split_are h
 obtain ⟨k,hk,k1,k2⟩:=sized_nat h
 refine ⟨?_,ar,fun x hx=> ?_,ha, ?_,rfl⟩
 · rw [annS,if_pos (by rw [h,ha];rfl),show (rootS (splitS p)).2=0 by rw [rootS,if_pos ar]]
 · rw [split_pieces] at hx
   obtain ⟨i,_,rfl⟩:=Zbf.1 hx
   exact padS_len (piece_len p i)
 · show countS p.length=_
   rw [countS_eq (by omega),split_len]
set_option maxHeartbeats 1000000
def laySt (no:NotT) (ps:List (List Int)) (k:Nat) (l:List Row) (q:List Int) (t:TrT):StT:=⟨no,ps.take k,(Zbe k).map (proofL ps),l,q,t⟩
theorem allP_congr {s s':SprT} (h1:s.no=s'.no):∀(l q:List (List Int)) (i:Nat),allP s i l q=allP s' i l q
 | [],_,_=>rfl
 |_::_, [],_=>rfl
 | p::l,q::qs,i=>by
   show (provedS s i p q&&allP s (i+1) l qs)=(provedS s' i p q&&allP s' (i+1) l qs)
   rw [allP_congr h1 l qs (i+1),show provedS s i p q=provedS s' i p q by unfold provedS;rw [h1]]
theorem soundS_congr {s s':SprT} (h1:s.no=s'.no) (h2:s.ps=s'.ps) (h3:s.qs=s'.qs):soundS s=soundS s':=by
 unfold soundS
 rw [h1,h2,h3,allP_congr h1]
theorem lay_st_sound {no:NotT} {ps:List (List Int)} (h:Lays no ps) {k:Nat} (hk:k≤ps.length) (l:List Row) (q:List Int) (t:TrT):soundT (laySt no ps k l q t)=true:=by
 have e:soundS (laySt no ps k l q t).sp=soundS (layS no ps k):=soundS_congr rfl rfl rfl
 rw [soundT,e];exact lay_sound h k hk
theorem lay_st_len {no:NotT} {ps:List (List Int)} {k:Nat} (hk:k≤ps.length) (l:List Row) (q:List Int) (t:TrT):(laySt no ps k l q t).ps.length=k:=by simp [laySt];omega
theorem lays_16 {no:NotT} {ps:List (List Int)} (h:Lays no ps):ps.length≤16∧1≤ps.length:=by
 have:=sound_16 (lay_st_sound h (Nat.zero_le _) [] [] zeroT)
 have hc:=h.cnt
 have h2:countS no.n≤16:=this.2.1
 have h3:1≤countS no.n:=this.2.2.1
 omega
theorem ann_zero {no:NotT} (h:announcedS no.v no.n no.t=true):zeroN no=false:=by
 simp only [announcedS,Zal,decide_eq_true_eq] at h
 rw [Bool.eq_false_iff]
 intro hz
 simp only [zeroN,Zal,beq_iff_eq] at hz
 omega
theorem lay_st_valid {no:NotT} {ps:List (List Int)} (h:Lays no ps) {k:Nat} (hk:k≤ps.length) {l:List Row} {q:List Int} {t:TrT} (hg:Good l) (hl:l.length<16) (hf:l= []∨k<ps.length) (hq:l≠ []∨q= []) (ht:validT t=true):
   emptyS (laySt no ps k l q t)=false∧validP (laySt no ps k l q t)=true:=by
 have he:emptyS (laySt no ps k l q t)=false:=by
   rw [emptyS,show zeroN (laySt no ps k l q t).no=false from ann_zero h.ann];rfl
 refine ⟨he, ?_⟩
 rw [validP,he,lay_st_sound h hk,show validS (laySt no ps k l q t).rows=true by rw [←validR_eq];exact (validR_good l).2 hg]
 rw [show (laySt no ps k l q t).rows=l from rfl,show (laySt no ps k l q t).pf=q from rfl,show (laySt no ps k l q t).tr=t from rfl,ht,decide_eq_true (p:=(l.length:Int)<16) (by omega)]
 have hfull:(l.isEmpty|| !fullP (laySt no ps k l q t))=true:=by
   rcases hf with rfl|hf
   · rfl
   · rw [fullP,lay_st_len hk,show (laySt no ps k l q t).no=no from rfl,h.cnt]
     rw [Bool.or_eq_true];right
     simp;omega
 have hqe:(!l.isEmpty||q.isEmpty)=true:=by
   rcases hq with hq|rfl
   · cases l with
     |nil=>exact absurd rfl hq
     |cons _ _=>rfl
   · simp
 rw [hfull,hqe];rfl
theorem rec_sumN {p:List Int} {s n:Int} (hn:pageS n=true) (hs:seedS s=true) (l:List Row):recS l n s (encS p s)=addS l (setS s) (sumB p (setS s)):=by
 rw [enc_sum hs,recS,if_pos]
 simp [recOk,hs,sumB_len,hn]
theorem page_of {ps:List (List Int)} {k:Nat} (h:ps.length≤16) (hk:k<ps.length):pageS (k:Int)=true:=by simp [pageS];omega
theorem first_new {p:List Int} {m:Int} (h0:1≤m) (h1:m<65536):(addS [] m (sumB p m)).2.1=true:=by
 rcases fresh_law (p:=p) (ss:= []) (fun s h=>by cases h) h0 h1 with h|h
 · exfalso
   have e:or64 m (thereS [])=m:=by
     obtain ⟨k,rfl⟩:∃k:Nat,m=k:=⟨m.toNat,by omega⟩
     have:k<65536:=by omega
     unfold or64 thereS
     simp only [List.foldl_nil]
     rw [show (Zap 64 (k:Int)|||Zap 64 0)=Zap 64 (k:Int) by simp]
     rw [wrap_i64]
     · simp [BitVec.toNat_ofInt];omega
     · simp [BitVec.toNat_ofInt];omega
     · simp [BitVec.toNat_ofInt];omega
   rw [e] at h
   simp only [thereS,List.foldl_nil] at h
   omega
 · exact h
def blkOf (ps:List (List Int)) (k:Nat) (m:Int):BlkT:=⟨k,m,encS (nthL ps k) m,proofL ps k⟩
theorem lay_refused {no:NotT} {ps:List (List Int)} (h:Lays no ps) {k:Nat} (hk:k<ps.length) {l:List Row} {q:List Int} {t:TrT} (hg:Good l) (hl:l.length<16) (hq:l≠ []→q=proofL ps k) (hq0:l≠ []∨q= []) (ht:validT t=true) {m:Int} (hm:seedS m=true):
   refusedS (laySt no ps k l q t) (blkOf ps k m)=0:=by
 obtain ⟨a1,a2⟩:=lay_st_valid h (by omega) hg hl (.inr hk) hq0 ht
 obtain ⟨b1,b2⟩:=lays_16 h
 obtain ⟨c1,c2⟩:=seedS_iff.1 hm
 have hbad:badB (blkOf ps k m)=false:=by
   have hd:(encS (nthL ps k) m).length=16:=by rw [enc_sum hm];exact sumB_len _ _
   have e:badB (blkOf ps k m)=(decide ((k:Int)<0)||(decide ((k:Int)≥16)||(decide (m<0)||(decide (m>1000000000)||(((encS (nthL ps k) m).length:Int) !=16))))):=rfl
   rw [e,hd,decide_eq_false (p:=(k:Int)<0) (by omega),decide_eq_false (p:=(k:Int)≥16) (by omega),decide_eq_false (p:=m<0) (by omega),decide_eq_false (p:=m>1000000000) (by omega)]
   rfl
 have hfull:fullP (laySt no ps k l q t)=false:=by
   rw [fullP,lay_st_len (by omega),show (laySt no ps k l q t).no=no from rfl,h.cnt]
   simp;omega
 rw [refusedS,if_neg (by rw [a2,hbad];decide),if_neg (by rw [a1];decide),if_neg (by rw [hfull];decide),lay_st_len (by omega),if_neg (by simp [blkOf]),if_neg (by simp [blkOf]),if_neg]
 show ¬(!l.isEmpty&& !decide (proofL ps k=q))=true
 cases l with
 |nil=>simp
 |cons r l=>rw [hq (by simp)];simp
theorem putT_lay {no:NotT} {ps:List (List Int)} (h:Lays no ps) {k:Nat} (hk:k<ps.length) (l:List Row) (q:List Int) (t:TrT):putT (laySt no ps k l q t) (nthL ps k) (proofL ps k)=(laySt no ps (k+1) [] [] t,0):=by
 have h1:=lay_st_sound h (k:=k) (by omega) l q t
 have h2:=h.two _ (nthL_mem hk)
 have h3:provedS (laySt no ps k l q t).sp (laySt no ps k l q t).ps.length (nthL ps k) (proofL ps k)=true:=by
   rw [lay_st_len (by omega)];exact lay_proved (k:=k) h hk
 rw [putT,if_neg (by rw [h1,h2];simp),if_neg,if_neg (by rw [h3];simp)]
 · show (StT.mk no (ps.take k++ [nthL ps k]) ((Zbe k).map (proofL ps)++ [proofL ps k]) [] [] t,(0:Int))=_
   rw [←lay_at hk,laySt,List.range_succ,List.map_append];rfl
 · rw [lay_st_len (by omega)]
   show ¬(k:Int)=countS no.n
   rw [h.cnt];omega
theorem lay_recv {no:NotT} {ps:List (List Int)} (h:Lays no ps) {k:Nat} (hk:k<ps.length) {l:List Row} {q:List Int} {t:TrT} (hb:∀x∈nthL ps k,0≤x∧x<256) (hT:Tru (nthL ps k) l) (hl:l.length<16) (hq:l≠ []→q=proofL ps k) (hq0:l≠ []∨q= []) (ht:validT t=true) {m:Int} (hm:seedS m=true):
   recvT (laySt no ps k l q t) (blkOf ps k m)=if (addS l (setS m) (sumB (nthL ps k) (setS m))).1.length=16 then (laySt no ps (k+1) [] [] t,0) else (laySt no ps k (addS l (setS m) (sumB (nthL ps k) (setS m))).1 (proofL ps k) t,0):=by
 have hr:=lay_refused h hk hT.good hl hq hq0 ht hm
 obtain ⟨s0,s1⟩:=setS_range hm
 obtain ⟨g1,g2,g3,g4⟩:=add_count hT s0 (show setS m<65536 by omega)
 have er:recS (laySt no ps k l q t).rows (blkOf ps k m).n (blkOf ps k m).s (blkOf ps k m).d=addS l (setS m) (sumB (nthL ps k) (setS m)):=rec_sumN (page_of (lays_16 h).1 hk) hm l
 have hp:=h.two _ (nthL_mem hk)
 have en:nextSt (laySt no ps k l q t) (blkOf ps k m)=laySt no ps k (addS l (setS m) (sumB (nthL ps k) (setS m))).1 (proofL ps k) t:=by
   rw [nextSt,er];rfl
 rw [recvT,if_neg (by rw [hr];simp),er,if_neg (by rw [g1];simp)]
 by_cases h16:(addS l (setS m) (sumB (nthL ps k) (setS m))).1.length=16
 · have hpg:(pagesS (addS l (setS m) (sumB (nthL ps k) (setS m))).1).2=true:=by rw [pages_iff g2,h16];rfl
   rw [if_pos h16,if_neg (by rw [hpg];simp),pages_data g2 hp hb hpg,en,show (blkOf ps k m).pf=proofL ps k from rfl,putT_lay h hk,if_neg (by simp)]
 · have hpg:(pagesS (addS l (setS m) (sumB (nthL ps k) (setS m))).1).2=false:=by rw [pages_iff g2];simp [h16]
   rw [if_neg h16,if_pos hpg,en]
def FedA (no:NotT) (ps:List (List Int)) (k:Nat) (t:TrT) (st:StT):Prop:=
 ∃l q,st=laySt no ps k l q t∧Tru (nthL ps k) l∧l.length<16∧(l≠ []→q=proofL ps k)∧(l≠ []∨q= [])
def Fed (no:NotT) (ps:List (List Int)) (k:Nat) (t:TrT) (st:StT):Prop:=st=laySt no ps (k+1) [] [] t∨FedA no ps k t st
def bytesOk (p:List Int):Prop:=∀x∈p,0≤x∧x<256
theorem done_refused {no:NotT} {ps:List (List Int)} (h:Lays no ps) {k:Nat} (hk:k<ps.length) {t:TrT} (ht:validT t=true) {m:Int} (hm:seedS m=true):
   recvT (laySt no ps (k+1) [] [] t) (blkOf ps k m)=(laySt no ps (k+1) [] [] t,if k+1=ps.length then 10 else 14):=by
 obtain ⟨a1,a2⟩:=lay_st_valid h (k:=k+1) (by omega) (l:= []) (q:= []) (Tru.nil []).good (by simp) (.inl rfl) (.inr rfl) ht
 obtain ⟨b1,b2⟩:=lays_16 h
 obtain ⟨c1,c2⟩:=seedS_iff.1 hm
 have hd:(encS (nthL ps k) m).length=16:=by rw [enc_sum hm];exact sumB_len _ _
 have hbad:badB (blkOf ps k m)=false:=by
   have e:badB (blkOf ps k m)=(decide ((k:Int)<0)||(decide ((k:Int)≥16)||(decide (m<0)||(decide (m>1000000000)||(((encS (nthL ps k) m).length:Int) !=16))))):=rfl
   rw [e,hd,decide_eq_false (p:=(k:Int)<0) (by omega),decide_eq_false (p:=(k:Int)≥16) (by omega),decide_eq_false (p:=m<0) (by omega),decide_eq_false (p:=m>1000000000) (by omega)]
   rfl
 have hr:refusedS (laySt no ps (k+1) [] [] t) (blkOf ps k m)=if k+1=ps.length then 10 else 14:=by
   rw [refusedS,if_neg (by rw [a2,hbad];decide),if_neg (by rw [a1];decide),fullP,lay_st_len (by omega),show (laySt no ps (k+1) [] [] t).no=no from rfl,h.cnt]
   by_cases hf:k+1=ps.length
   · rw [if_pos (by rw [hf];simp),if_pos hf]
   · rw [if_neg (by simp;omega),if_neg hf,if_pos (by show (k:Int)<_;omega)]
 rw [recvT,hr,if_pos (by split<;>decide)]
theorem Fed.step {no:NotT} {ps:List (List Int)} {k:Nat} {t:TrT} {st:StT} (h:Lays no ps) (hk:k<ps.length) (hb:bytesOk (nthL ps k)) (ht:validT t=true) (hf:Fed no ps k t st) {m:Int} (hm:seedS m=true):
   Fed no ps k t (recvT st (blkOf ps k m)).1∧((recvT st (blkOf ps k m)).2=0∨(recvT st (blkOf ps k m)).2=10∨(recvT st (blkOf ps k m)).2=14):=by
 rcases hf with rfl|⟨l,q,rfl,hT,hl,hq,hq0⟩
 · rw [done_refused h hk ht hm]
   exact ⟨.inl rfl,by by_cases h':k+1=ps.length<;>simp [h']⟩
 · obtain ⟨s0,s1⟩:=setS_range hm
   obtain ⟨g1,g2,g3,g4⟩:=add_count hT s0 (show setS m<65536 by omega)
   rw [lay_recv h hk hb hT hl hq hq0 ht hm]
   by_cases h16:(addS l (setS m) (sumB (nthL ps k) (setS m))).1.length=16
   · rw [if_pos h16];exact ⟨.inl rfl, .inl rfl⟩
   · rw [if_neg h16]
     refine ⟨.inr ⟨_,_,rfl,g2,by have:=g2.good.len;omega,fun _=>rfl, .inl ?_⟩, .inl rfl⟩
     intro he
     have h0:l= []:=by
       have:(addS l (setS m) (sumB (nthL ps k) (setS m))).1.length=0:=by rw [he];rfl
       exact List.length_eq_zero_iff.1 (by omega)
     subst h0
     have:=first_new (p:=nthL ps k) s0 (show setS m<65536 by omega)
     rw [he,this] at g4
     simp at g4
theorem Fed.small {no:NotT} {ps:List (List Int)} {k:Nat} {t:TrT} {st:StT} (h:Lays no ps) (hk:k<ps.length) (hf:Fed no ps k t st):smallS st:=by
 obtain ⟨b1,b2⟩:=lays_16 h
 have key:∀(j:Nat) (l:List Row) (q:List Int),j≤ps.length→smallRows l→q.length≤1000000→smallS (laySt no ps j l q t):=by
   intro j l q hj h1 h2
   refine ⟨⟨by rw [lay_st_len hj];omega,fun p hp=> ?_⟩,⟨by simp [laySt];omega,lay_qs h hj⟩,h1,h2⟩
   rw [h.two p (List.mem_of_mem_take hp)];omega
 rcases hf with rfl|⟨l,q,rfl,hT,hl,hq,hq0⟩
 · exact key _ _ _ (by omega) ⟨by simp,fun r hr=>by cases hr⟩ (by simp)
 · refine key _ _ _ (by omega) ⟨by omega,fun r hr=>by rw [hT.good.len16 r hr];omega⟩ ?_
   by_cases hn:l= []
   · rcases hq0 with h0|h0
     · exact absurd hn h0
     · rw [h0];simp
   · rw [hq hn,proofL]
     have:=page_len (i:=k) h.are (by omega);omega
def feedT (ps:List (List Int)) (k:Nat) (st:StT) (ss:List Int):StT:=ss.foldl (fun s m=>(recvT s (blkOf ps k m)).1) st
theorem recvS_grows {p:List Int}:∀ {ss:List Int} {l:List Row},(∀s∈ss,seedS s=true)→Tru p l→l.length≤(allS p (masks ss) l).1.length
 | [],l,_,_=>Nat.le_refl _
 | m::ss,l,hs,ht=>by
   have hm:=hs m (Zax ..)
   obtain ⟨s0,s1⟩:=setS_range hm
   obtain ⟨g1,g2,g3,g4⟩:=add_count ht s0 (show setS m<65536 by omega)
   have e2:allS p (masks (m::ss)) l=allS p (masks ss) (addS l (setS m) (sumB p (setS m))).1:=by
     show allS p (setS m::masks ss) l=_
     rw [allS,if_neg (by simp;omega)]
     dsimp only
     rw [if_neg (by rw [g1];simp)]
   rw [e2]
   have:=recvS_grows (fun s hs'=>hs s (Zav _ hs')) g2
   omega
theorem feed_rows {no:NotT} {ps:List (List Int)} {k:Nat} {t:TrT} (h:Lays no ps) (hk:k<ps.length) (hb:bytesOk (nthL ps k)) (ht:validT t=true):∀(ss:List Int) (l:List Row) (q:List Int),(∀s∈ss,seedS s=true)→Tru (nthL ps k) l→l.length<16→(l≠ []→q=proofL ps k)→(l≠ []∨q= [])→
   feedT ps k (laySt no ps k l q t) ss=laySt no ps (k+1) [] [] t∧16≤(allS (nthL ps k) (masks ss) l).1.length∨∃q',feedT ps k (laySt no ps k l q t) ss=laySt no ps k (allS (nthL ps k) (masks ss) l).1 q' t∧(allS (nthL ps k) (masks ss) l).1.length<16
 | [],l,q,hs,hT,hl,hq,hq0=> .inr ⟨q,rfl,hl⟩
 | m::ss,l,q,hs,hT,hl,hq,hq0=>by
   have hm:=hs m (Zax ..)
   have hs':=fun s hs'=>hs s (Zav _ hs')
   obtain ⟨s0,s1⟩:=setS_range hm
   obtain ⟨g1,g2,g3,g4⟩:=add_count hT s0 (show setS m<65536 by omega)
   have e2:allS (nthL ps k) (masks (m::ss)) l=allS (nthL ps k) (masks ss) (addS l (setS m) (sumB (nthL ps k) (setS m))).1:=by
     show allS (nthL ps k) (setS m::masks ss) l=_
     rw [allS,if_neg (by simp;omega)]
     dsimp only
     rw [if_neg (by rw [g1];simp)]
   have e1:feedT ps k (laySt no ps k l q t) (m::ss)=feedT ps k (recvT (laySt no ps k l q t) (blkOf ps k m)).1 ss:=rfl
   rw [e2,e1,lay_recv h hk hb hT hl hq hq0 ht hm]
   by_cases h16:(addS l (setS m) (sumB (nthL ps k) (setS m))).1.length=16
   · rw [if_pos h16]
     left
     constructor
     · have:∀ss:List Int,(∀s∈ss,seedS s=true)→feedT ps k (laySt no ps (k+1) [] [] t) ss=laySt no ps (k+1) [] [] t:=by
         intro ss
         induction ss with
         |nil=>intro _;rfl
         | cons x ss ih=>
           intro hx
           have e:feedT ps k (laySt no ps (k+1) [] [] t) (x::ss)=feedT ps k (recvT (laySt no ps (k+1) [] [] t) (blkOf ps k x)).1 ss:=rfl
           rw [e,done_refused h hk ht (hx x (Zax ..))]
           exact ih fun s hs=>hx s (Zav _ hs)
       exact this ss hs'
     · have:=recvS_grows (p:=nthL ps k) hs' g2
       omega
   · rw [if_neg h16]
     refine feed_rows h hk hb ht ss _ _ hs' g2 (by have:=g2.good.len;omega) (fun _=>rfl) (.inl ?_)
     intro he
     have h0:l= []:=by
       have:(addS l (setS m) (sumB (nthL ps k) (setS m))).1.length=0:=by rw [he];rfl
       exact List.length_eq_zero_iff.1 (by omega)
     subst h0
     have:=first_new (p:=nthL ps k) s0 (show setS m<65536 by omega)
     rw [he,this] at g4
     simp at g4
def TFe:List (Nat×(List AV→(AV→Prop)→Prop)):= [(87,cProof),(34,cEncB),(15,cSReceive)]
theorem TFe_ok:CallsOk prog TFe:=Zag cProof_ok (Zag cEncB_ok (Zag cSReceive_ok Zah))
noncomputable def lpFe:Code:=sub [1,1,1,0,1,2,3] (code f28)
def tmFe (ps:List (List Dv)) (k:Int) (q ss:List (List Dv)) (n i:Int):List AV:= [.bad, .d (.sl 1 ps), .d (i64 k), .bad, .ptr 0 0, .bad, .bad, .bad, .ptr 1 0, .bad, .d (.sl 1 q)]++Zaf 22 .bad++ [.d (.sl 1 ss), .d (i64 n), .d (i64 i)]++Zaf 38 .bad
theorem rFe (s:StT) (b1:List AV) (ps q ss:List (List Dv)) (k n i:Int):wpc prog ⟨TFe, [],wl,y,false⟩ 100 lpFe (tmFe ps k q ss n i) [stB s,zB13] b (maskK 2 [1,2,4,8,10,33,34,35] K)=(BIf (decide (i<n)) (BIf (true&&decide (0≤i)) (∃(x0:Int),ss[Zao i]? =some [i64 x0]∧BIf (true&&decide (0≤k)) (∃(xs3:List (List Dv)),ps[Zao k]? =some [Zam 1 xs3]∧∃(p6:List Int) (n7:Int) (s8:Int) (d9:List Int), [Zae (Zam 1 xs3),Zae (i64 k),Zae (i64 x0)]=(Qz40 p6 n7 s8)∧(encOk p6 n7 s8=true∧d9=encS p6 s8)∧∃(s10:StT) (x11:BlkT) (z12:StT) (e13:Int), [stV s,Zbo [Zae (i64 n7),Zae (i64 s8),Zae (Zam 1 (bytesR d9)),Zae (Zam 1 q)]]= [stV s10,bkV x11]∧(((smallS s10)∧Zab (Zda x11)≤1000000)∧(z12,e13)=recvT s10 x11)∧BIf (e13 !=(0:Int)) (BIf (e13 !=(14:Int)) (BIf (e13 !=(10:Int)) (K .ret (Zat::Zae (Zam 1 ps)::Zae (i64 k)::Zat::Zaw 0 0::bds 3 (Zaw 1 0::Zat::Zae (Zam 1 q)::bds 22 (Zae (Zam 1 ss)::Zae (i64 n)::Zae (i64 i)::bds 38 []))) [stB s,stB s] b) (K .normal (Zat::Zae (Zam 1 ps)::Zae (i64 k)::Zat::Zaw 0 0::bds 3 (Zaw 1 0::Zat::Zae (Zam 1 q)::bds 22 (Zae (Zam 1 ss)::Zae (i64 n)::Zae (i64 (Zaa .i64 (i+1)))::bds 38 []))) [stB z12,Blk.mk Qz4 false false 0] b)) (K .normal (Zat::Zae (Zam 1 ps)::Zae (i64 k)::Zat::Zaw 0 0::bds 3 (Zaw 1 0::Zat::Zae (Zam 1 q)::bds 22 (Zae (Zam 1 ss)::Zae (i64 n)::Zae (i64 (Zaa .i64 (i+1)))::bds 38 []))) [stB z12,Blk.mk Qz4 false false 0] b)) (K .normal (Zat::Zae (Zam 1 ps)::Zae (i64 k)::Zat::Zaw 0 0::bds 3 (Zaw 1 0::Zat::Zae (Zam 1 q)::bds 22 (Zae (Zam 1 ss)::Zae (i64 n)::Zae (i64 (Zaa .i64 (i+1)))::bds 38 []))) [stB z12,Blk.mk Qz4 false false 0] b)) False) False) (K (Exit.exit 0) (Zat::Zae (Zam 1 ps)::Zae (i64 k)::Zat::Zaw 0 0::bds 3 (Zaw 1 0::Zat::Zae (Zam 1 q)::bds 22 (Zae (Zam 1 ss)::Zae (i64 n)::Zae (i64 i)::bds 38 []))) [stB s,Blk.mk Qz4 false false 0] b)):=by kernel_rfl
theorem plain_nf:wpFn prog ⟨[], [],wl,y,true⟩ 100 f29 [] b R=(R (.d (Zam 1 [[i64 0], [i64 1], [i64 2], [i64 3], [i64 4], [i64 5], [i64 6], [i64 7], [i64 8], [i64 9], [i64 10], [i64 11], [i64 12], [i64 13], [i64 14], [i64 15]])) b):=by kernel_rfl
theorem pcPlainL:PCall prog 29 [] (.d (.sl 1 (intsR ss0))):=by
 refine PCall.ofFn (n:=100) (u:=true) mixed Zah Zad func29 (by rfl) (by rfl) fun Ev bb=> ?_
 rw [plain_nf];rfl
def cPlainL (args:List AV) (K:AV→Prop):Prop:=args= []∧∃z:List Int,z=ss0∧K (.d (.sl 1 (intsR z)))
theorem cPlainL_ok:∀args K,cPlainL args K→∃x,PCall prog 29 args x∧K x:=by
 rintro _ K ⟨rfl,_,rfl,h⟩;exact ⟨_,pcPlainL,h⟩
theorem lays_enc {no:NotT} {ps:List (List Int)} (h:Lays no ps) {k:Nat} (hk:k<ps.length) {m:Int} (hm:seedS m=true):encOk (nthL ps k) k m=true:=by
 rw [encOk,h.two _ (nthL_mem hk),page_of (lays_16 h).1 hk,hm];rfl
theorem drop_nth {ss rest:List Int} {m:Int} {j:Nat} (hd:ss.drop j=m::rest):(intsR ss)[j]? =some [i64 m]:=by
 obtain ⟨h1,h2,_⟩:=drop_cons hd
 simp [intsR,h2]
theorem wrFe {Ev:Env prog} {b:Ev.β} {Q:Exit→St Ev.β→Prop} {no:NotT} {ps:List (List Int)} {k:Nat} {t:TrT} (h:Lays no ps) (hk:k<ps.length) (hb:bytesOk (nthL ps k)) (ht:validT t=true) (ss:List Int) (hs:∀s∈ss,seedS s=true) (hl:ss.length≤1000):
   ∀(rest:List Int) (j:Nat) (st:StT),ss.drop j=rest→Fed no ps k t st→(∀i:Int,Q (.exit 0) ⟨tmFe (partsR ps) k (digR (proofL ps k)) (intsR ss) ss.length i, [stB (feedT ps k st rest),zB13],b⟩)→WR Ev lpFe (rest.length+1) ⟨tmFe (partsR ps) k (digR (proofL ps k)) (intsR ss) ss.length j, [stB st,zB13],b⟩ Q
 | [],j,st,hd,hf,hQ=>by
   have hj:=drop_nil hd
   refine WR.ofMask [1,2,4,8,10,33,34,35] mixed (CX.Ok.of (u:=false) TFe_ok Zad) (k:=100) ?_
   refine Eq.mpr (rFe _ _ _ _ st [] (partsR ps) (digR (proofL ps k)) (intsR ss) k ss.length j) ?_
   exact Zcq (by simp;omega) (hQ j)
 | m::rest,j,st,hd,hf,hQ=>by
   obtain ⟨hj,h2,hd'⟩:=drop_cons hd
   have hm:seedS m=true:=hs m (Zbg h2)
   obtain ⟨f1,f2⟩:=hf.step h hk hb ht hm
   refine WR.ofMask [1,2,4,8,10,33,34,35] mixed (CX.Ok.of (u:=false) TFe_ok Zad) (k:=100) ?_
   refine Eq.mpr (rFe _ _ _ _ st [] (partsR ps) (digR (proofL ps k)) (intsR ss) k ss.length j) ?_
   rw [wrapN (by omega),Zay,Zay]
   have hn:=page_len (i:=k) h.are (by omega)
   refine Zbk (by simp;omega) (Zbk (by simp) ⟨m,drop_nth hd,Zbk (by simp) ⟨bytesR (nthL ps k),parts_at hk,nthL ps k,k,m,_,rfl,⟨lays_enc h hk hm,rfl⟩,st,blkOf ps k m,(recvT st (blkOf ps k m)).1,(recvT st (blkOf ps k m)).2,rfl,⟨⟨hf.small h hk,by show (proofL ps k).length≤_;rw [proofL];omega⟩,rfl⟩, ?_⟩⟩)
   have nx:=wrFe (Q:=Q) h hk hb ht ss hs hl rest (j+1) (recvT st (blkOf ps k m)).1 hd' f1 hQ
   rcases f2 with f2|f2|f2<;>rw [f2]
   · exact Zcq rfl nx
   · exact Zbk rfl (Zbk rfl (Zcq rfl nx))
   · exact Zbk rfl (Zcq rfl nx)
def wlFe {β:Type}:WLT β:=fun c tm hp b K=>∃(no:NotT) (ps:List (List Int)) (k:Nat) (t:TrT) (st:StT) (ss:List Int) (z:StT),c= .loop lpFe∧maskTm [1,2,4,8,10,33,34,35] 0 tm=tmFe (partsR ps) k (digR (proofL ps k)) (intsR ss) (intsR ss).length 0∧hp= [stB st,zB13]∧
 ((Lays no ps∧k<ps.length∧bytesOk (nthL ps k)∧validT t=true∧(∀s∈ss,seedS s=true)∧ss.length≤1000∧Fed no ps k t st)∧z=feedT ps k st ss)∧∀i:Int,K (.exit 0) (tmFe (partsR ps) k (digR (proofL ps k)) (intsR ss) ss.length i) [stB z,zB13] b
theorem wlFe_ok {Ev:Env prog} (c:Code) (tm:List AV) (hp:List Blk) (b:Ev.β) (K:Exit→List AV→List Blk→Ev.β→Prop) (h:wlFe c tm hp b K):W Ev c ⟨tm,hp,b⟩ (fun e s=>K e s.tm s.hp s.b):=by
 obtain ⟨no,ps,k,t,st,ss,z,rfl,htm,rfl,⟨⟨h1,h2,h3,h4,h5,h6,h7⟩,rfl⟩,hK⟩:=h
 rw [intsR_len] at htm
 refine W.cast (htm▸maskTm_le _ tm 0) (LeH.refl _) ?_
 exact W.rounds (wrFe (Q:=fun e s=>K e s.tm s.hp s.b) h1 h2 h3 h4 ss h5 h6 ss 0 st rfl h7 hK)
theorem feed_nf (s:StT) (ps ss:List (List Dv)) (k:Int):wpFn prog ⟨TFe, [],wlFe,y,false⟩ 100 f28 [stV s, .d (.sl 1 ps), .d (i64 k), .d (.sl 1 ss)] b R=(∃(ps0:List (List Int)) (i1:Int) (z2:List Int×Int), [Zae (Zam 1 ps),Zae (i64 k)]= [Zae (Zam 1 (partsR ps0)),Zae (i64 i1)]∧z2=proofS ps0 i1∧BIf (Prod.snd z2 !=(0:Int)) (R (.tup [stV s,Zae (bo false)]) b) (BIf (decide (k≥((Zab ps:Nat):Int))) (R (.tup [stV s,Zae (bo false)]) b) (∃(no3:NotT) (ps4:List (List Int)) (k5:Nat) (t6:TrT) (st7:StT) (ss8:List Int) (z9:StT),Zbd lpFe=Zbd lpFe∧(Zat::Zae (Zam 1 ps)::Zae (i64 k)::Zat::Zaw 0 0::bds 3 (Zaw 1 0::Zat::Zae (Zam 1 (digR (Prod.fst z2)))::bds 22 (Zae (Zam 1 ss)::Zae (i64 ((Zab ss:Nat):Int))::Zae (i64 0)::bds 38 [])))=(Zat::Zae (Zam 1 (partsR ps4))::Zae (i64 (k5:Int))::Zat::Zaw 0 0::bds 3 (Zaw 1 0::Zat::Zae (Zam 1 (digR (proofL ps4 k5)))::bds 22 (Zae (Zam 1 (intsR ss8))::Zae (i64 ((Zab (intsR ss8):Nat):Int))::Zae (i64 0)::bds 38 [])))∧ [stB s,Blk.mk Qz4 false false 0]= [stB st7,Blk.mk Qz4 false false 0]∧((Lays no3 ps4∧k5<Zab ps4∧(∀(x:Int),x∈nthL ps4 k5→(0:Int)≤x∧x<(256:Int))∧validT t6=true∧(∀(s:Int),s∈ss8→seedS s=true)∧Zab ss8≤1000∧(st7=laySt no3 ps4 (k5+1) [] [] t6∨∃(l10:List Row) (q11:List Int),st7=laySt no3 ps4 k5 l10 q11 t6∧Tru (nthL ps4 k5) l10∧Zab l10<16∧(l10≠ []→q11=proofL ps4 k5)∧(l10≠ []∨q11= [])))∧z9=feedT ps4 k5 st7 ss8)∧∀(i:Int),R (.tup [stV z9,Zae (bo true)]) b))):=by kernel_rfl
def OkFeed (no:NotT) (ps:List (List Int)) (k:Nat) (t:TrT) (st:StT) (ss:List Int):Prop:=Lays no ps∧k<ps.length∧bytesOk (nthL ps k)∧validT t=true∧(∀s∈ss,seedS s=true)∧ss.length≤1000∧Fed no ps k t st
theorem pcFeed {no:NotT} {ps:List (List Int)} {k:Nat} {t:TrT} {st:StT} {ss:List Int} (h:OkFeed no ps k t st ss):PCall prog 28 [stV st, .d (.sl 1 (partsR ps)), .d (i64 k), .d (.sl 1 (intsR ss))] (.tup [stV (feedT ps k st ss), .d (bo true)]):=by
 refine PCall.ofFnW (n:=100) (u:=false) (fun _=>wlFe) mixed TFe_ok Zad (fun Ev=>wlFe_ok) func28 (by rfl) (by rfl) fun Ev bb=> ?_
 rw [feed_nf]
 have hp:=lay_proof h.1.are h.2.1
 refine ⟨ps,k,_,rfl,rfl,Zcq (by rw [hp];rfl) (Zcq (by rw [partsR_len];have:=h.2.1;simp;omega) ⟨no,ps,k,t,st,ss,_,rfl,by rw [hp],rfl,⟨h,rfl⟩,fun i=>rfl⟩)⟩
def cFeed (args:List AV) (K:AV→Prop):Prop:=∃(no:NotT) (ps:List (List Int)) (k:Nat) (t:TrT) (st:StT) (ss:List Int) (z:StT),args= [stV st, .d (.sl 1 (partsR ps)), .d (i64 k), .d (.sl 1 (intsR ss))]∧(OkFeed no ps k t st ss∧z=feedT ps k st ss)∧K (.tup [stV z, .d (bo true)])
theorem cFeed_ok:∀args K,cFeed args K→∃x,PCall prog 28 args x∧K x:=by
 rintro _ K ⟨no,ps,k,t,st,ss,_,rfl,⟨h1,rfl⟩,h⟩;exact ⟨_,pcFeed h1,h⟩
theorem few_nf2 (s:StT) (near:List (List Dv)):wpFn prog ⟨[(46,cFew)], [],wl,y,false⟩ 100 f14 [stV s, .d (.sl 31 near)] b R=(∃(s0:SprT) (z1:Bool), [stV s]= [Zbo (spL s0)]∧((∀(r:List Dv),r∈SprT.rows s0→∃(m2:Int) (xs3:List (List Dv)),r= [i64 m2,Zam 1 xs3])∧z1=fewSI s0)∧BIf z1 (R (.d (bo (decide (((Zab near:Nat):Int)≤(100:Int))))) b) (R (.d (bo false)) b)):=by kernel_rfl
def fewT (s:StT):Bool:=fewSI s.sp
theorem few_small {s:StT} (h:fewT s=true):smallS s:=by
 simp only [fewT,fewSI,Zal,Bool.not_eq_true',decide_eq_false_iff_not] at h
 obtain ⟨h1,h2,h3,h4,h5,h6,h7⟩:=h
 have h1:¬(s.ps.length:Int)>20:=h1
 have h2:¬(s.qs.length:Int)>20:=h2
 have h3:¬((rowsR s.rows).length:Int)>40:=h3
 have h4:¬(s.pf.length:Int)>40:=h4
 rw [rowsR_len] at h3
 refine ⟨⟨by omega,fun p hp=> ?_⟩,⟨by omega,fun q hq=> ?_⟩,⟨by omega,fun r hr=> ?_⟩,by omega⟩
 · have h5:anyP s.ps=false:=h5
   rw [anyP,List.any_eq_false] at h5
   obtain ⟨i,hi⟩:=List.mem_iff_getElem?.1 hp
   have hi':=(List.getElem?_eq_some_iff.1 hi).1
   have:=h5 i (Zcp.2 hi')
   rw [nthL,List.getD_eq_getElem?_getD,hi] at this
   simp at this;omega
 · have h6:anyQ s.qs=false:=h6
   rw [anyQ,List.any_eq_false] at h6
   obtain ⟨i,hi⟩:=List.mem_iff_getElem?.1 hq
   have hi':=(List.getElem?_eq_some_iff.1 hi).1
   have:=h6 i (Zcp.2 hi')
   rw [nthL,List.getD_eq_getElem?_getD,hi] at this
   simp at this;omega
 · have h7:anyR (rowsR s.rows)=false:=h7
   rw [anyR,List.any_eq_false] at h7
   obtain ⟨i,hi⟩:=List.mem_iff_getElem?.1 hr
   have hi':=(List.getElem?_eq_some_iff.1 hi).1
   have:=h7 i (Zcp.2 (by rw [rowsR_len];exact hi'))
   have e:nthR (rowsR s.rows) i= [i64 r.1, .sl 1 (bytesR r.2)]:=by simp [nthR,rowsR,rowD,hi]
   rw [e,rowLen,bytesR_len] at this
   simp at this;omega
theorem pcFewL (s:StT) (near:List (List Dv)):PCall prog 14 [stV s, .d (.sl 31 near)] (.d (bo (fewT s&&decide ((near.length:Int)≤100)))):=by
 refine PCall.ofFn (n:=100) (u:=false) mixed (Zag cFew_ok Zah) Zad func14 (by rfl) (by rfl) fun Ev bb=> ?_
 rw [few_nf2]
 refine ⟨s.sp,_,rfl,⟨fun r hr=> ?_,rfl⟩, ?_⟩
 · have hr:r∈rowsR s.rows:=hr
   simp only [rowsR,Zbf] at hr
   obtain ⟨x,_,rfl⟩:=hr
   exact ⟨_,_,rfl⟩
 · show BIf (fewT s) _ _
   exact Zan (fun h=>by rw [h];rfl) fun h=>by rw [h];rfl
def cFewL (args:List AV) (K:AV→Prop):Prop:=∃(s:StT) (near:List (List Dv)) (z:Bool),args= [stV s, .d (.sl 31 near)]∧z=(fewT s&&decide ((near.length:Int)≤100))∧K (.d (bo z))
theorem cFewL_ok:∀args K,cFewL args K→∃x,PCall prog 14 args x∧K x:=by
 rintro _ K ⟨s,n,_,rfl,rfl,h⟩;exact ⟨_,pcFewL s n,h⟩
noncomputable def lpSb:Code:=sub [1,1,0,1,2,3] (code f20)
def bkB (x:BlkT):Blk:=⟨bkL x,false,false,0⟩
def tmSb (n i:Int):List AV:= [.bad, .bad, .ptr 0 0, .ptr 1 0]++Zaf 33 .bad++ [.d (i64 n), .d (i64 i)]++Zaf 14 .bad
abbrev Qz22 (v0:BlkT) (v1:BlkT):= [Blk.mk (bkL v0) false false 0,Blk.mk (bkL v1) false false 0]
theorem rSb (s c:BlkT) (n i:Int):wpc prog ⟨[], [],wl,y,false⟩ 100 lpSb (tmSb n i) [bkB s,bkB c] b (maskT [2,3,4,37,38] K)=(BIf (decide (i<n)) (BIf (true&&decide (0≤i)) (∃(x0:Int),(digR (Zda s))[Zao i]? =some [u64 x0]∧BIf (true&&decide (0≤i)) (∃(x3:Int),(digR (Zda c))[Zao i]? =some [u64 x3]∧BIf (x0 !=x3) (K .ret (Zat::Zat::Zaw 0 0::Zaw 1 0::Zae (bo false)::bds 32 (Zae (i64 n)::Zae (i64 i)::bds 14 [])) (Qz22 s c) b) (K .normal (Zat::Zat::Zaw 0 0::Zaw 1 0::bds 33 (Zae (i64 n)::Zae (i64 (Zaa .i64 (i+1)))::bds 14 [])) (Qz22 s c) b)) False) False) (K (Exit.exit 0) (Zat::Zat::Zaw 0 0::Zaw 1 0::bds 33 (Zae (i64 n)::Zae (i64 i)::bds 14 [])) (Qz22 s c) b)):=by kernel_rfl
theorem wrSb {Ev:Env prog} {b:Ev.β} {Q:Exit→St Ev.β→Prop} (s c:BlkT) (hl:s.pf.length=c.pf.length) (hb:s.pf.length≤1000000) (h1:s.pf=c.pf→∀i:Int,Q (.exit 0) ⟨tmSb s.pf.length i, [bkB s,bkB c],b⟩) (h2:s.pf≠c.pf→∀i:Int,Q .ret ⟨(tmSb s.pf.length i).set 4 (.d (bo false)), [bkB s,bkB c],b⟩):
   WR Ev lpSb (s.pf.length+1) ⟨tmSb s.pf.length (0:Nat), [bkB s,bkB c],b⟩ Q:=by
 refine WR.scan (X:=⟨[], [],wlW Ev,Ev.Y,false⟩) (k:=100) [2,3,4,37,38] mixed (CX.Ok.of Zah Zad) s.pf.length (fun i=>nth s.pf i !=nth c.pf i) (fun i=>tmSb s.pf.length (i:Nat)) (fun i=>(tmSb s.pf.length (i:Nat)).set 4 (.d (bo false))) [bkB s,bkB c] 0 (fun i hi K k1 k2=> ?_) (fun K k1=> ?_) (fun h=>h1 ?_ _) fun h i=>h2 ?_ _
 · rw [rSb,wrapN (by omega),Zay]
   exact Zbk (by simp<;>omega) (Zbk (by simp) ⟨nth s.pf i,digs_at hi,Zbk (by simp) ⟨nth c.pf i,digs_at (by omega),Zan (fun g=>k1 g) fun g=>k2 g⟩⟩)
 · rw [rSb]
   exact Zcq (by simp) k1
 · rw [any_ne hl] at h;simpa using h
 · rw [any_ne hl] at h;simpa using h
def wlSb {β:Type}:WLT β:=fun t tm hp b K=>∃(s c:BlkT) (z:Bool),t= .loop lpSb∧maskTm [2,3,37,38] 0 tm=tmSb (digR s.pf).length 0∧hp= [bkB s,bkB c]∧((s.pf.length=c.pf.length∧s.pf.length≤1000000)∧z=decide (s.pf=c.pf))∧
 BIf z (∀i:Int,K (.exit 0) (tmSb s.pf.length i) [bkB s,bkB c] b) (∀i:Int,K .ret ((tmSb s.pf.length i).set 4 (.d (bo false))) [bkB s,bkB c] b)
theorem wlSb_ok {Ev:Env prog} (c:Code) (tm:List AV) (hp:List Blk) (b:Ev.β) (K:Exit→List AV→List Blk→Ev.β→Prop) (h:wlSb c tm hp b K):W Ev c ⟨tm,hp,b⟩ (fun e s=>K e s.tm s.hp s.b):=by
 obtain ⟨s,d,z,rfl,htm,rfl,⟨⟨hl,hs⟩,hz⟩,hK⟩:=h
 rw [digR_len] at htm
 refine W.cast (htm▸maskTm_le _ tm 0) (LeH.refl _) ?_
 exact W.rounds (wrSb (Q:=fun e s=>K e s.tm s.hp s.b) s d hl hs (fun h=>by rw [hz,decide_eq_true h] at hK;exact hK) fun h=>by rw [hz,decide_eq_false h] at hK;exact hK)
def TSb:List (Nat×(List AV→(AV→Prop)→Prop)):= [(31,cBytes)]
theorem TSb_ok:CallsOk prog TSb:=Zag cBytes_ok Zah
abbrev Qz27 (v0:BlkT):=Zat::Zat::Zaw 0 0::Zaw 1 0::bds 33 (Zae (i64 ((Zab (digR (Zda v0)):Nat):Int))::Zae (i64 0)::bds 14 [])
theorem sameK_nf (s c:BlkT):wpFn prog ⟨TSb, [],wlSb,y,false⟩ 100 f20 [bkV s,bkV c] b R=(BIf (Zdk s !=Zdk c) (R (.d (bo false)) b) (BIf (BlkT.s s !=BlkT.s c) (R (.d (bo false)) b) (∃(a0:List Int) (c1:List Int) (z2:Bool), [Zae (Zam 1 (bytesR (BlkT.d s))),Zae (Zam 1 (bytesR (BlkT.d c)))]= [Zae (Zam 1 (bytesR a0)),Zae (Zam 1 (bytesR c1))]∧(Zab a0≤9223372036854775807∧z2=decide (a0=c1))∧BIf (!z2) (R (.d (bo false)) b) (BIf (((Zab (digR (Zda s)):Nat):Int) !=((Zab (digR (Zda c)):Nat):Int)) (R (.d (bo false)) b) (∃(s3:BlkT) (c4:BlkT) (z5:Bool),Zbd lpSb=Zbd lpSb∧(Qz27 s)=(Qz27 s3)∧(Qz22 s c)=(Qz22 s3 c4)∧((Zab (Zda s3)=Zab (Zda c4)∧Zab (Zda s3)≤1000000)∧z5=decide (Zda s3=Zda c4))∧BIf z5 (∀(i:Int),R (.d (bo true)) b) (∀(i:Int),R (.d (bo false)) b)))))):=by kernel_rfl
def sameK (s c:BlkT):Bool:=s.n==c.n&&(s.s==c.s&&(decide (s.d=c.d)&&decide (s.pf=c.pf)))
theorem pcSameK (s c:BlkT) (h1:s.d.length≤1000000) (h2:s.pf.length≤1000000):PCall prog 20 [bkV s,bkV c] (.d (bo (sameK s c))):=by
 refine PCall.ofFnW (n:=100) (u:=false) (fun _=>wlSb) mixed TSb_ok Zad (fun Ev=>wlSb_ok) func20 (by rfl) (by rfl) fun Ev bb=> ?_
 rw [sameK_nf,digR_len,digR_len]
 have ne:∀x y:Int,(x !=y)= !(x==y):=fun x y=>rfl
 refine Zan (fun g=>by rw [sameK,show (s.n==c.n)=false by simpa using g];rfl) fun g1=>Zan (fun g=>by rw [sameK,show (s.s==c.s)=false by simpa using g];simp) fun g2=>⟨s.d,c.d,_,rfl,⟨by omega,rfl⟩,Zan (fun g=>by rw [sameK,nbt g];simp) fun g3=>Zan (fun g=> ?_) fun g4=>⟨s,c,_,rfl,by first|rfl|rw [digR_len],rfl,⟨⟨by simp at g4;omega,h2⟩,rfl⟩, ?_⟩⟩
 · rw [sameK,decide_eq_false (p:=s.pf=c.pf) (fun h=>by rw [h] at g;simp at g)];simp
 · have e:sameK s c=decide (s.pf=c.pf):=by
     rw [sameK,show (s.n==c.n)=true by simpa using g1,show (s.s==c.s)=true by simpa using g2,nbf g3];rfl
   rw [e]
   exact Zan (fun h i=>by rw [h]) fun h i=>by rw [h]
def cSameK (args:List AV) (K:AV→Prop):Prop:=∃(s c:BlkT) (z:Bool),args= [bkV s,bkV c]∧((s.d.length≤1000000∧s.pf.length≤1000000)∧z=sameK s c)∧K (.d (bo z))
theorem cSameK_ok:∀args K,cSameK args K→∃x,PCall prog 20 args x∧K x:=by
 rintro _ K ⟨s,c,_,rfl,⟨⟨h1,h2⟩,rfl⟩,h⟩;exact ⟨_,pcSameK s c h1 h2,h⟩
noncomputable def lpPg:Code:=sub [1,1,0,1,2,3] (code f45)
def prgF (i:Nat):Int:=Zaa .u8 (Zaa .i64 (1+Int.tmod (Zaa .i64 ((i:Int)*5)) 251))
def prgP (k:Nat):List Int:=(Zbe k).map prgF++Zaf (300 - k) 0
def prg:List Int:=(Zbe 300).map prgF
def tmPg (n i:Int):List AV:= [.bad, .bad, .bad, .gref 0 0 300 1, .bad, .bad, .bad, .bad, .d (i64 n), .d (i64 i)]++Zaf 12 .bad
theorem rPg (cs:List AV) (n i:Int):wpc prog ⟨[],GB5,wl,y,false⟩ 100 lpPg (tmPg n i) [blkG cs 0] b (maskT [3,8,9] K)=(BIf (decide (i<n)) (0=0∧BIf (decide (0≤i)&&decide (i<(300:Int))) (0=0∧BIf (decide (Zao i*1+1≤Zab cs)) (K .normal (bds 3 (AV.gref 0 0 300 1::bds 4 (Zae (i64 n)::Zae (i64 (Zaa .i64 (i+1)))::bds 12 []))) [Blk.mk (List.take (Zao i*1) cs++ [Zae (u8 (Zaa .u8 (Zaa .i64 ((1:Int)+Int.tmod (Zaa .i64 (i*(5:Int))) (251:Int)))))]++List.drop (Zao i*1+1) cs) false true 0] b) False) False) (K (Exit.exit 0) (bds 3 (AV.gref 0 0 300 1::bds 4 (Zae (i64 n)::Zae (i64 i)::bds 12 []))) [Blk.mk cs false true 0] b)):=by kernel_rfl
theorem prgP_step {k:Nat} (hk:k<300):(flatA (bytesR (prgP k))).take (k*1)++ [Zae (u8 (prgF k))]++(flatA (bytesR (prgP k))).drop (k*1+1)=flatA (bytesR (prgP (k+1))):=by
 have e0:((Zbe k).map prgF).length=k:=by simp
 have e1:prgP (k+1)=(Zbe k).map prgF++ [prgF k]++Zaf (300 - (k+1)) 0:=by
   rw [prgP,List.range_succ,List.map_append];rfl
 have e2:Zaf (300 - k) (0:Int)=0::Zaf (300 - (k+1)) 0:=by
   rw [show 300 - k=(300 - (k+1))+1 by omega,List.replicate_succ]
 rw [flatA_bytes,flatA_bytes,e1,Nat.mul_one,prgP,e2]
 rw [←List.map_take,←List.map_drop,List.take_left' e0,List.drop_append,List.drop_of_length_le (by omega),e0]
 simp
theorem prgP_len {k:Nat} (hk:k≤300):(prgP k).length=300:=by simp [prgP];omega
theorem wrPg {Ev:Env prog} {b:Ev.β} {Q:Exit→St Ev.β→Prop}:∀(n k:Nat),300 - k=n→k≤300→
   (∀i:Int,Q (.exit 0) ⟨tmPg 300 i, [blkG (flatA (bytesR prg)) 0],b⟩)→WR Ev lpPg (n+1) ⟨tmPg 300 k, [blkG (flatA (bytesR (prgP k))) 0],b⟩ Q
 | n,k,hn,hk,h=>by
   refine WR.ofMaskT [3,8,9] mixed (CX.Ok.of (u:=false) Zah GB5_ok) (k:=100) ?_
   rw [rPg]
   refine Zan (fun g=> ?_) fun g=> ?_
   · have hlt:k<300:=by have:=of_decide_eq_true g;omega
     refine ⟨rfl,Zbk (by simp<;>omega) ⟨rfl,Zbk (by rw [flatA_bytes,List.length_map,prgP_len hk];simp<;>omega) ?_⟩⟩
     rw [Zay,show Zaa .u8 (Zaa .i64 (1+Int.tmod (Zaa .i64 ((k:Int)*5)) 251))=prgF k from rfl,prgP_step hlt,wrap_succ (n:=300) hlt (by omega)]
     cases n with
     |zero=>omega
     |succ n=>exact wrPg n (k+1) (by omega) (by omega) h
   · have hk:k=300:=by have:=of_decide_eq_false g;omega
     subst hk
     have e:prgP 300=prg:=by rw [prgP,Nat.sub_self,List.replicate_zero,List.append_nil];rfl
     rw [e];exact h _
def wlPg {β:Type}:WLT β:=fun c tm hp b K=>c= .loop lpPg∧maskTm [3,8,9] 0 tm=tmPg 300 0∧hp= [blkG (flatA (Zaf 300 [u8 0])) 0]∧∃z:List Int,z=prg∧∀k:Int,K (.exit 0) (tmPg 300 k) [blkG (flatA (bytesR z)) 0] b
theorem wlPg_ok {Ev:Env prog} (c:Code) (tm:List AV) (hp:List Blk) (b:Ev.β) (K:Exit→List AV→List Blk→Ev.β→Prop) (h:wlPg c tm hp b K):W Ev c ⟨tm,hp,b⟩ (fun e s=>K e s.tm s.hp s.b):=by
 obtain ⟨rfl,htm,rfl,z,rfl,hK⟩:=h
 refine W.cast (htm▸maskTm_le _ tm 0) (LeH.refl _) ?_
 have e:Zaf 300 [u8 0]=bytesR (prgP 0):=by rw [prgP,List.range_zero,List.map_nil,List.nil_append,bytesR,List.map_replicate]
 rw [e]
 exact W.rounds (wrPg (Q:=fun e s=>K e s.tm s.hp s.b) 300 0 rfl (by omega) hK)
abbrev Qz36:List AV:=bds 3 (AV.gref 0 0 300 1::bds 4 (Zae (i64 300)::Zae (i64 0)::bds 12 []))
theorem program_nf:wpFn prog ⟨[],GB5,wlPg,y,false⟩ 100 f45 [.d (i64 300)] b R=(0=0∧Zbd lpPg=Zbd lpPg∧Qz36=Qz36∧ [Blk.mk (Zaf 300 (Zae (u8 0))) false true 0]= [Blk.mk (Zaf 300 (Zae (u8 0))) false true 0]∧∃(z0:List Int),z0=prg∧∀(k:Int),0=0∧∃(xs1:List (List Dv)),flatA (bytesR z0)=flatA xs1∧Zab xs1=300∧(∀(r:List Dv),r∈xs1→Zab r=1)∧R (.d (Zam 1 xs1)) b):=by kernel_rfl
theorem prg_len:prg.length=300:=by simp [prg]
theorem pcProgram:PCall prog 45 [.d (i64 300)] (.d (.sl 1 (bytesR prg))):=by
 refine PCall.ofFnW (n:=100) (u:=false) (fun _=>wlPg) mixed Zah GB5_ok (fun Ev=>wlPg_ok) func45 (by rfl) (by rfl) fun Ev bb=> ?_
 rw [program_nf]
 refine ⟨rfl,rfl,rfl,rfl,_,rfl,fun _=>⟨rfl,bytesR prg,rfl,by rw [bytesR_len,prg_len],bytes_row,rfl⟩⟩
def cProgram (args:List AV) (K:AV→Prop):Prop:=∃z:List Int,args= [.d (i64 300)]∧z=prg∧K (.d (.sl 1 (bytesR z)))
theorem cProgram_ok:∀args K,cProgram args K→∃x,PCall prog 45 args x∧K x:=by
 rintro _ K ⟨_,rfl,rfl,h⟩;exact ⟨_,pcProgram,h⟩
set_option maxRecDepth 100000
set_option maxHeartbeats 0
def cWholeT (args:List AV) (K:AV→Prop):Prop:=∃(s:StT) (z:List Int) (e:Bool),args= [stV s]∧(smallS s∧(z,e)=wholeS s.sp)∧K (.tup [.d (.sl 1 (bytesR z)), .d (bo e)])
theorem cWholeT_ok:∀args K,cWholeT args K→∃x,PCall prog 30 args x∧K x:=by
 rintro _ K ⟨s,z,e,rfl,⟨hs,he⟩,h⟩
 exact cWhole_ok _ K ⟨s.sp,z,e,rfl,⟨by have:=hs.1.1;show s.ps.length≤_;omega,he⟩,h⟩
def THe:List (Nat×(List AV→(AV→Prop)→Prop)):= [(45,cProgram),(27,cSplitE),(25,cAnnounce),(21,lessC cSHear),(34,cEncB),(15,lessC cSReceive),(29,cPlainL),(28,cFeed),(30,cWholeT),(17,semC cSServe),(31,cBytes)]
theorem THe_ok:CallsOk prog THe:=Zag cProgram_ok (Zag cSplitE_ok (Zag cAnnounce_ok (Zag (lessC_ok cSHear_ok) (Zag cEncB_ok (Zag (lessC_ok cSReceive_ok) (Zag cPlainL_ok (Zag cFeed_ok (Zag cWholeT_ok (Zag (semC_ok cSServe_ok) (Zag cBytes_ok Zah))))))))))
abbrev Qz33 (v0:Int) (v1:Int) (v2:List Int):List AV:= [Zae (i64 v0),Zae (i64 v1),Zae (Zam 1 (bytesR v2)),Zae (Dv.s (.slice none 0 0))]
theorem shead_nf:wpFn prog ⟨THe, [],wl,y,false⟩ 200 f13 [] b R=(∃(z0:List Int), [Zae (i64 300)]= [Zae (i64 300)]∧z0=prg∧∃(p1:List Int) (q2:List (List Int)) (e3:Int), [Zae (Zam 1 (bytesR z0))]= [Zae (Zam 1 (bytesR p1))]∧(Zab p1≤9223372036854775807∧(q2,e3)=splitE p1)∧∃(v4:Int) (t5:Int) (p6:List Int) (z7:NotT) (e8:Int), [Zae (i64 2),Zae (Zam 1 (bytesR z0)),Zae (i64 100)]= [Zae (i64 v4),Zae (Zam 1 (bytesR p6)),Zae (i64 t5)]∧(Zab p6≤9223372036854775807∧(z7,e8)=annS v4 p6 t5)∧∃(args9:List AV),LeVs [Zbo [Zae (i64 0),Zae (i64 0),Zae (u64 0),Zae (i64 0),Zae (Dv.s (.slice none 0 0)),Zae (Dv.s (.slice none 0 0)),Zae (Dv.s (.slice none 0 0)),Zae (Dv.s (.slice none 0 0)),Zae (i64 0),Zae (i64 0),Zae (i64 0),Zae (i64 0),Zae (i64 7)],noV z7,Zae (i64 1),Zae (i64 5)] args9∧∃(s10:StT) (n11:NotT) (p12:Int) (f13:Int) (z14:StT),args9= [stV s10,noV n11,Zae (i64 p12),Zae (i64 f13)]∧((smallS s10)∧z14=hearS s10 n11 p12 f13)∧BIf (e3 !=(0:Int)) (R (.d (bo false)) b) (BIf (e8 !=(0:Int)) (R (.d (bo false)) b) (BIf (!(NotT.v (StT.no z14)==NotT.v z7&&(NotT.n (StT.no z14)==NotT.n z7&&(NotT.r (StT.no z14)==NotT.r z7&&(NotT.t (StT.no z14)==NotT.t z7&&true))))) (R (.d (bo false)) b) (BIf (TrT.iv (StT.tr z14) !=(1:Int)) (R (.d (bo false)) b) (BIf (TrT.sd (StT.tr z14) !=(7:Int)) (R (.d (bo false)) b) (∃(xs15:List (List Dv)),(partsR q2)[1]? =some [Zam 1 xs15]∧∃(p18:List Int) (n19:Int) (s20:Int) (d21:List Int), [Zae (Zam 1 xs15),Zae (i64 1),Zae (i64 0)]=(Qz40 p18 n19 s20)∧(encOk p18 n19 s20=true∧d21=encS p18 s20)∧∃(args22:List AV),LeVs [stV z14,Zbo (Qz33 n19 s20 d21)] args22∧∃(s23:StT) (x24:BlkT) (z25:StT) (e26:Int),args22= [stV s23,bkV x24]∧(((smallS s23)∧Zab (Zda x24)≤1000000)∧(z25,e26)=recvT s23 x24)∧∃(args27:List AV),LeVs [Zbo Qz4,Zbo (Qz33 n19 s20 d21)] args27∧∃(s28:StT) (x29:BlkT) (z30:StT) (e31:Int),args27= [stV s28,bkV x29]∧(((smallS s28)∧Zab (Zda x29)≤1000000)∧(z30,e31)=recvT s28 x29)∧([]:List AV)= []∧∃(z32:List Int),z32=ss0∧∃(no33:NotT) (ps34:List (List Int)) (k35:Nat) (t36:TrT) (st37:StT) (ss38:List Int) (z39:StT), [stV z14,Zae (Zam 1 (partsR q2)),Zae (i64 0),Zae (Zam 1 (intsR z32))]= [stV st37,Zae (Zam 1 (partsR ps34)),Zae (i64 (k35:Int)),Zae (Zam 1 (intsR ss38))]∧((Lays no33 ps34∧k35<Zab ps34∧(∀(x:Int),x∈nthL ps34 k35→(0:Int)≤x∧x<(256:Int))∧validT t36=true∧(∀(s:Int),s∈ss38→seedS s=true)∧Zab ss38≤1000∧(st37=laySt no33 ps34 (k35+1) [] [] t36∨∃(l40:List Row) (q41:List Int),st37=laySt no33 ps34 k35 l40 q41 t36∧Tru (nthL ps34 k35) l40∧Zab l40<16∧(l40≠ []→q41=proofL ps34 k35)∧(l40≠ []∨q41= [])))∧z39=feedT ps34 k35 st37 ss38)∧([]:List AV)= []∧∃(z42:List Int),z42=ss0∧∃(no43:NotT) (ps44:List (List Int)) (k45:Nat) (t46:TrT) (st47:StT) (ss48:List Int) (z49:StT), [stV z39,Zae (Zam 1 (partsR q2)),Zae (i64 1),Zae (Zam 1 (intsR z42))]= [stV st47,Zae (Zam 1 (partsR ps44)),Zae (i64 (k45:Int)),Zae (Zam 1 (intsR ss48))]∧((Lays no43 ps44∧k45<Zab ps44∧(∀(x:Int),x∈nthL ps44 k45→(0:Int)≤x∧x<(256:Int))∧validT t46=true∧(∀(s:Int),s∈ss48→seedS s=true)∧Zab ss48≤1000∧(st47=laySt no43 ps44 (k45+1) [] [] t46∨∃(l50:List Row) (q51:List Int),st47=laySt no43 ps44 k45 l50 q51 t46∧Tru (nthL ps44 k45) l50∧Zab l50<16∧(l50≠ []→q51=proofL ps44 k45)∧(l50≠ []∨q51= [])))∧z49=feedT ps44 k45 st47 ss48)∧∃(s52:StT) (z53:List Int) (e54:Bool), [stV z49]= [stV s52]∧((smallS s52)∧(z53,e54)=wholeS (StT.sp s52))∧∃(args55:List AV),LeVs [stV z49,Zbo (Qz33 n19 s20 d21)] args55∧∃(s56:StT) (x57:BlkT) (z58:StT) (e59:Int),args55= [stV s56,bkV x57]∧(((smallS s56)∧Zab (Zda x57)≤1000000)∧(z58,e59)=recvT s56 x57)∧∃(args60:List AV),SemVs [stV z49,AV.full 31 [[i64 0,i64 0,i64 0,i64 0,i64 0,i64 0,i64 0,i64 0,i64 0,i64 0,i64 0,i64 0,Dv.s (.slice none 0 0),Dv.s (.slice none 0 0),Dv.s (.slice none 0 0),Dv.s (.slice none 0 0),bo false,Dv.s (.slice none 0 0),Dv.s (.slice none 0 0),Dv.s (.slice none 0 0),i64 (NotT.v z7),i64 (NotT.n z7),u64 (NotT.r z7),i64 (NotT.t z7),i64 1,i64 0,i64 0,i64 0,Dv.s (.slice none 0 0),Dv.s (.slice none 0 0),bo false]],Zae (i64 5)] args60∧∃(s61:StT) (l62:List NearT) (f63:Int) (z64:StT) (x65:BlkT) (e66:Bool),args60= [stV s61,Zae (Zam 31 (nearR l62)),Zae (i64 f63)]∧(((smallS s61)∧Zab l62≤1000000)∧(z64,x65,e66)=serveS s61 l62 f63)∧BIf (e26==(6:Int)) (BIf (e31==(4:Int)) (BIf (e59==(10:Int)) (BIf e54 (BIf (((Zab (partsR (StT.ps z39)):Nat):Int)==(1:Int)) (∃(a67:List Int) (c68:List Int) (z69:Bool), [Zae (Zam 1 (bytesR z53)),Zae (Zam 1 (bytesR z0))]= [Zae (Zam 1 (bytesR a67)),Zae (Zam 1 (bytesR c68))]∧(Zab a67≤9223372036854775807∧z69=decide (a67=c68))∧BIf z69 (BIf e66 (BIf (Zdk x65==(1:Int)) (BIf (BlkT.s x65==(327:Int)) (R (.d (bo (((Zab (digR (Zda x65)):Nat):Int)==(1:Int)))) b) (R (.d (bo false)) b)) (R (.d (bo false)) b)) (R (.d (bo false)) b)) (R (.d (bo false)) b)) (R (.d (bo false)) b)) (R (.d (bo false)) b)) (R (.d (bo false)) b)) (R (.d (bo false)) b)) (R (.d (bo false)) b))))))):=by kernel_rfl
set_option maxRecDepth 20000
set_option maxHeartbeats 2000000
def hps:List (List Int):=splitS prg
def hno:NotT:=(annS 2 prg 100).1
def ht:TrT:=beginS 7 1 5
theorem hsz:sizedS (prg.length:Int)=true:=by rw [prg_len];decide
theorem hann:announcedS 2 (prg.length:Int) 100=true:=by rw [prg_len];decide
theorem hno_eq:annS 2 prg 100=(hno,0):=by rw [hno,(lays_page hsz hann).1]
theorem hlays:Lays hno hps:=by
 have:=lays_page (v:=2) (t:=100) hsz hann
 rw [hno,this.1];exact this.2
theorem hps_len:hps.length=2:=by rw [hps,split_len,prg_len]
theorem prg_isB:∀x∈prg,IsB x:=by
 intro x hx
 obtain ⟨i,hi,rfl⟩:=Zbf.1 hx
 have hi:=Zcp.1 hi
 have key:∀i,i<300→IsB (prgF i):=by unfold IsB;decide+kernel
 exact key i hi
theorem hps_ok {k:Nat} (hk:k<2):bytesOk (nthL hps k):=fun x hx=>split_range prg_isB _ (nthL_mem (by show k<hps.length;rw [hps_len];exact hk)) x hx
theorem ht_valid:validT ht=true:=begin_valid (.inl rfl) (by decide) (by decide)
theorem ht_bel:belowS (1000003*7+5) (1 - 1 / 2)=0:=by
 have:=belowS_range (1000003*7+5) (n:=1 - 1 / 2) (by decide) (by decide)
 omega
theorem ht_fi:ht.fi=5:=by
 show (5:Int)+1 / 2+belowS (1000003*7+5) (1 - 1 / 2)=5
 rw [ht_bel];decide
theorem ht_tick:tickT ht 5=(ht,true):=by
 have e:laterT ht 5=ht:=by rw [laterT,if_neg (by decide)]
 rw [tickT,if_pos (by rw [ht_valid];decide),e,ht_fi];rfl
def zst (sd:Int):StT:=⟨⟨0,0,0,0⟩, [], [], [], [],⟨0,0,0,0,sd⟩⟩
def hst:StT:=laySt hno hps 0 [] [] ht
theorem hno_fields:hno.v=2∧hno.n=300∧hno.t=100:=by
 rw [hno,(lays_page hsz hann).1]
 exact ⟨rfl,by show (prg.length:Int)=300;rw [prg_len];rfl,rfl⟩
theorem hhear:hearS (zst 7) hno 1 5=hst:=by
 obtain ⟨f1,f2,f3⟩:=hno_fields
 have h1:okHear (zst 7) hno 1 5=true:=by
   rw [okHear,show validP (zst 7)=true by rw [validP,show emptyS (zst 7)=true by decide];rfl,hlays.ann,f2,show frameS 5=true by decide,show countS 300=2 by decide]
   simp
 have e:(newT 7 5).1=ht:=by rw [newT,if_pos (by decide)];rfl
 rw [hearS,if_neg (by rw [h1];decide),if_pos (by rw [f1];decide)]
 show StT.mk hno [] [] [] [] (newT 7 5).1=_
 rw [e];rfl
theorem hfeed {k:Nat} (hk:k<2):feedT hps k (laySt hno hps k [] [] ht) ss0=laySt hno hps (k+1) [] [] ht:=by
 have hk':k<hps.length:=by rw [hps_len];exact hk
 have hf:=all_full (p:=nthL hps k) (ms:=masks ss0) (hps_ok hk) (by decide+kernel) masks16_full
 rcases feed_rows hlays hk' (hps_ok hk) ht_valid ss0 [] [] (by decide) (Tru.nil _) (by simp) (by simp) (.inr rfl) with h|⟨q,h1,h2⟩
 · exact h.1
 · omega
theorem hbad (m:Int) (hm:seedS m=true):badB (blkOf hps 1 m)=false:=by
 obtain ⟨c1,c2⟩:=seedS_iff.1 hm
 have hd:(encS (nthL hps 1) m).length=16:=by rw [enc_sum hm];exact sumB_len _ _
 have e:badB (blkOf hps 1 m)=(decide ((1:Int)<0)||(decide ((1:Int)≥16)||(decide (m<0)||(decide (m>1000000000)||(((encS (nthL hps 1) m).length:Int) !=16))))):=rfl
 rw [e,hd,decide_eq_false (p:=m<0) (by omega),decide_eq_false (p:=m>1000000000) (by omega)]
 rfl
def hblk:BlkT:=⟨1,0,encS (nthL hps 1) 0, []⟩
theorem hbad0:badB hblk=false:=by
 have:=hbad 0 (by decide)
 exact this
theorem hlater:(recvT hst hblk).2=6:=by
 obtain ⟨a1,a2⟩:=lay_st_valid hlays (k:=0) (by omega) (l:= []) (q:= []) (Tru.nil []).good (by simp) (.inl rfl) (.inr rfl) ht_valid
 have hf:fullP hst=false:=by
   rw [hst,fullP,lay_st_len (by omega),show (laySt hno hps 0 [] [] ht).no=hno from rfl,hlays.cnt,hps_len];decide
 have hr:refusedS hst hblk=6:=by
   rw [refusedS,if_neg (by rw [hst,a2,hbad0];decide),if_neg (by rw [hst,a1];decide),if_neg (by rw [hf];decide)]
   rfl
 rw [recvT,if_pos (by rw [hr];decide),hr]
theorem hempty:(recvT (zst 0) hblk).2=4:=by
 have hv:validP (zst 0)=true:=by rw [validP,show emptyS (zst 0)=true by decide];rfl
 have hr:refusedS (zst 0) hblk=4:=by
   rw [refusedS,if_neg (by rw [hv,hbad0];decide),if_pos (by decide)]
 rw [recvT,if_pos (by rw [hr];decide),hr]
def hend:StT:=laySt hno hps 2 [] [] ht
theorem hvalid:emptyS hend=false∧validP hend=true:=lay_st_valid hlays (k:=2) (by rw [hps_len];omega) (l:= []) (q:= []) (Tru.nil []).good (by simp) (.inl rfl) (.inr rfl) ht_valid
theorem hfull:(recvT hend hblk).2=10:=by
 have hf:fullP hend=true:=by
   rw [hend,fullP,lay_st_len (by rw [hps_len];omega),show (laySt hno hps 2 [] [] ht).no=hno from rfl,hlays.cnt,hps_len];decide
 have hr:refusedS hend hblk=10:=by
   rw [refusedS,if_neg (by rw [hvalid.2,hbad0];decide),if_neg (by rw [hvalid.1];decide),if_pos hf]
 rw [recvT,if_pos (by rw [hr];decide),hr]
theorem hwhole:wholeS hend.sp=(prg,true):=by
 have h1:soundS hend.sp=true:=lay_st_sound hlays (by rw [hps_len];omega) [] [] ht
 have h2:hend.sp.ps=hps:=List.take_of_length_le (by rw [hps_len];omega)
 have h3:hend.sp.no.n=((prg.length:Nat):Int):=by rw [prg_len];exact hno_fields.2.1
 have h4:=join_split (p:=prg) (n:=prg.length) hsz rfl
 rw [List.drop_of_length_le (Nat.le_refl _),if_pos (by rfl),Nat.sub_self,List.replicate_zero,List.append_nil,List.take_of_length_le (Nat.le_refl _)] at h4
 rw [wholeS,if_pos h1,h2,h3,show joinS hps prg.length=joinS (splitS prg) prg.length from rfl,h4];rfl
def hnear:NearT:=⟨0,0,0,0,0,0,0,0,0,0,0,0, [], [], [], [],false, [], [], [],hno,1,0,0,0, [], [],false⟩
theorem hserve:(serveS hend [hnear] 5).2.2=true∧(serveS hend [hnear] 5).2.1.n=1∧(serveS hend [hnear] 5).2.1.s=327∧(serveS hend [hnear] 5).2.1.pf.length=1:=by
 have h1:okServe hend 5=true:=by rw [okServe,hvalid.1,hvalid.2];decide
 have hl:lackP hend [hnear]= [1]:=by
   rw [lackP,List.filter_cons,if_pos (show eqN hnear.no hend.no=true from eqN_iff.2 rfl)];rfl
 have hp:hend.ps.length=2:=lay_st_len (by rw [hps_len];omega) [] [] ht
 have hle:leastS [1] 2=1:=by decide
 have htk:tickT hend.tr 5=(ht,true):=ht_tick
 rw [serveS,if_neg (by rw [h1];decide),hl,hp,htk]
 rw [if_neg (by rw [show leastS [1] ((2:Nat):Int)=1 from hle];decide)]
 rw [show leastS [1] ((2:Nat):Int)=1 from hle]
 refine ⟨rfl,rfl,rfl, ?_⟩
 have e:nthL hend.qs (1:Int).toNat=proofL hps 1:=rfl
 show (nthL hend.qs (1:Int).toNat).length=1
 rw [e,proofL,levelsS]
 generalize hm:hps.map leafS=now
 have hn:now.length=2:=by rw [←hm,List.length_map,hps_len]
 rw [hn]
 have e2:(nextL now).length=1:=by
   match now,hn with
   | [a,c],_=>rfl
 rw [levelsF,if_pos (by omega),levelsF,if_neg (by omega),proofF,if_pos (by rw [hn];decide),proofF,if_neg (by rw [e2];decide),proofF]
 rfl
set_option maxRecDepth 100000
set_option maxHeartbeats 4000000
theorem zstLe (sd:Int):LeV (Zbo [Zae (i64 (0:Int)),Zae (i64 (0:Int)),Zae (u64 (0:Int)),Zae (i64 (0:Int)),Zae (Dv.s (Zbp none 0 0)),Zae (Dv.s (Zbp none 0 0)),Zae (Dv.s (Zbp none 0 0)),Zae (Dv.s (Zbp none 0 0)),Zae (i64 (0:Int)),Zae (i64 (0:Int)),Zae (i64 (0:Int)),Zae (i64 (0:Int)),Zae (i64 sd)]) (stV (zst sd)):=
 LeV.aggs (.cons .rfl (.cons .rfl (.cons .rfl (.cons .rfl (.cons (.nil rfl) (.cons (.nil rfl) (.cons (.nil rfl) (.cons (.nil rfl) (LeVs.refl _)))))))))
theorem blkLe0 (n s:Int) (d:List Int):LeV (Zbo [Zae (i64 n),Zae (i64 s),Zae (Zam 1 (bytesR d)),Zae (Dv.s (Zbp none 0 0))]) (bkV ⟨n,s,d, []⟩):=
 LeV.aggs (.cons .rfl (.cons .rfl (.cons .rfl (.cons (.nil rfl) .nil))))
theorem nearLe (n:NotT) (p:Int):RowLes [[i64 (0:Int),i64 (0:Int),i64 (0:Int),i64 (0:Int),i64 (0:Int),i64 (0:Int),i64 (0:Int),i64 (0:Int),i64 (0:Int),i64 (0:Int),i64 (0:Int),i64 (0:Int),Dv.s (Zbp none 0 0),Dv.s (Zbp none 0 0),Dv.s (Zbp none 0 0),Dv.s (Zbp none 0 0),bo false,Dv.s (Zbp none 0 0),Dv.s (Zbp none 0 0),Dv.s (Zbp none 0 0),i64 (NotT.v n),i64 (NotT.n n),u64 (NotT.r n),i64 (NotT.t n),i64 p,i64 (0:Int),i64 (0:Int),i64 (0:Int),Dv.s (Zbp none 0 0),Dv.s (Zbp none 0 0),bo false]]
   (nearR [⟨0,0,0,0,0,0,0,0,0,0,0,0, [], [], [], [],false, [], [], [],n,p,0,0,0, [], [],false⟩]):=by
 refine .cons ?_ .nil
 have r:∀ {c:Dv} {xs ys:List Dv},CellLes xs ys→CellLes (c::xs) (c::ys):=fun h=> .cons .rfl h
 have z:∀ {k:Nat} {xs ys:List Dv},CellLes xs ys→CellLes (.s (.slice none 0 0)::xs) (.sl k []::ys):=fun h=> .cons .nil h
 exact r<|r<|r<|r<|r<|r<|r<|r<|r<|r<|r<|r<|z<|z<|z<|z<|r<|z<|z<|z<|r<|r<|r<|r<|r<|r<|r<|r<|z<|z<|r .nil
theorem hsmall {k:Nat} (hk:k≤2):smallS (laySt hno hps k [] [] ht):=by
 by_cases h0:k=0
 · subst h0
   exact ⟨⟨by simp [laySt],by simp [laySt]⟩,⟨by simp [laySt],by simp [laySt]⟩,⟨by simp [laySt],by simp [laySt]⟩,by simp [laySt]⟩
 · obtain ⟨j,rfl⟩:∃j,k=j+1:=⟨k - 1,by omega⟩
   exact Fed.small (k:=j) hlays (by rw [hps_len];omega) (.inl rfl)
theorem zsmall (sd:Int):smallS (zst sd):=⟨⟨by simp [zst],by simp [zst]⟩,⟨by simp [zst],by simp [zst]⟩,⟨by simp [zst],by simp [zst]⟩,by simp [zst]⟩
theorem pcSHead:PCall prog 13 [] (.d (bo true)):=by
 refine PCall.ofFn (n:=200) (u:=false) mixed THe_ok Zad func13 (by rfl) (by rfl) fun Ev bb=> ?_
 rw [shead_nf]
 have hk1:(1:Nat)<hps.length:=by rw [hps_len];omega
 have hk0:(0:Nat)<hps.length:=by rw [hps_len];omega
 have hq1:(partsR hps)[1]? =some [Zam 1 (bytesR (nthL hps 1))]:=by
   match hh:hps,hps_len with
   | [a,c],_=>rfl
 have hl1:(nthL hps 1).length=256:=hlays.two _ (nthL_mem hk1)
 have hs0:∀s∈ss0,seedS s=true:=by decide
 refine ⟨prg,rfl,rfl,prg,hps,0,rfl,⟨by rw [prg_len];omega,by rw [splitE,if_pos hsz];rfl⟩,2,100,prg,hno,0,rfl,⟨by rw [prg_len];omega,hno_eq.symm⟩, [stV (zst 7),noV hno, .d (i64 1), .d (i64 5)], .cons (zstLe 7) (LeVs.refl _),zst 7,hno,1,5,hst,rfl,⟨zsmall 7,hhear.symm⟩,
   Zcq (by decide) (Zcq (by decide) (Zcq ?_ (Zcq (by decide) (Zcq (by decide) ⟨_,hq1,nthL hps 1,1,0,encS (nthL hps 1) 0,rfl,⟨by rw [encOk,hl1];decide,rfl⟩, [stV hst,bkV hblk], .cons .rfl (.cons (blkLe0 _ _ _) .nil),hst,hblk,_,6,rfl,⟨⟨hsmall (by omega),by decide⟩,by rw [←hlater]⟩,
     [stV (zst 0),bkV hblk], .cons (zstLe 0) (.cons (blkLe0 _ _ _) .nil),zst 0,hblk,_,4,rfl,⟨⟨zsmall 0,by decide⟩,by rw [←hempty]⟩,rfl,ss0,rfl,
     hno,hps,0,ht,hst,ss0,laySt hno hps 1 [] [] ht,rfl,⟨⟨hlays,hk0,hps_ok (by omega),ht_valid,hs0,by decide, .inr ⟨[], [],rfl,Tru.nil _,by simp,by simp, .inr rfl⟩⟩,(hfeed (k:=0) (by omega)).symm⟩,rfl,ss0,rfl,
     hno,hps,1,ht,laySt hno hps 1 [] [] ht,ss0,hend,rfl,⟨⟨hlays,hk1,hps_ok (by omega),ht_valid,hs0,by decide, .inr ⟨[], [],rfl,Tru.nil _,by simp,by simp, .inr rfl⟩⟩,(hfeed (k:=1) (by omega)).symm⟩,
     hend,prg,true,rfl,⟨hsmall (by omega),hwhole.symm⟩, [stV hend,bkV hblk], .cons .rfl (.cons (blkLe0 _ _ _) .nil),hend,hblk,_,10,rfl,⟨⟨hsmall (by omega),by decide⟩,by rw [←hfull]⟩,
     [stV hend, .d (.sl 31 (nearR [hnear])), .d (i64 5)], .cons .rfl (.cons (SemV.rows (nearLe hno 1)) (.cons .rfl .nil)),hend, [hnear],5,(serveS hend [hnear] 5).1,(serveS hend [hnear] 5).2.1,true,rfl,⟨⟨hsmall (by omega),by decide⟩,by rw [←hserve.1]⟩,
     Zbk (by decide) (Zbk (by decide) (Zbk (by decide) (Zbk rfl (Zbk ?_ ⟨prg,prg,true,rfl,⟨by rw [prg_len];omega,by simp⟩,Zbk rfl (Zbk rfl (Zbk ?_ (Zbk ?_ ?_)))⟩))))⟩))))⟩
 · show (!(hno.v==hno.v&&(hno.n==hno.n&&(hno.r==hno.r&&(hno.t==hno.t&&true)))))=false
   simp
 · rw [partsR_len,lay_st_len (k:=1) (by omega)];rfl
 · rw [hserve.2.1];rfl
 · rw [hserve.2.2.1];rfl
 · rw [digR_len,hserve.2.2.2];rfl
def cSHead (args:List AV) (K:AV→Prop):Prop:=args= []∧K (.d (bo true))
theorem cSHead_ok:∀args K,cSHead args K→∃x,PCall prog 13 args x∧K x:=by
 rintro _ K ⟨rfl,h⟩;exact ⟨_,pcSHead,h⟩
end Go.Proofs.YtibhflogmbfpcaaGreatDoor.Am
namespace Go.Proofs.YtibhflogmbfpcaaGreatDoor.Am
open Go Go.RowKit Go.Proofs Go.ChangeShapes Go.WideShapes Go.ChangeAt Tryz
open AV renaming agg → Zbo, bad → Zat, d → Zae, ptr → Zaw
open BIf renaming f → Zcq, of → Zan, t → Zbk
open BitVec renaming ofInt → Zap
open BlkT renaming n → Zdk, pf → Zda
open Bool renaming and_eq_true → Zal
open CallsOk renaming cons → Zag, nil → Zah
open Go.Code renaming loop → Zbd
open Dv renaming sl → Zam
open Int renaming toNat → Zao, toNat_natCast → Zay
open Go.IntKind renaming wrap → Zaa
open List renaming length → Zab, mem_cons_of_mem → Zav, mem_cons_self → Zax, mem_map → Zbf, mem_of_getElem? → Zbg, mem_range → Zcp, range → Zbe, replicate → Zaf
open SCallsOk renaming nil → Zad
open Go.Value renaming slice → Zbp
variable {β:Type} (b:β)
open AV (bad)
set_option linter.unusedVariables false
set_option maxRecDepth 20000
theorem Try_own:ownKnob Tryz.prog.godebug=none:=by kernel_rfl
theorem Try_laidOut:laidOutB prog=true:=by kernel_rfl
def laid5:List (String×DataW Unit):= [("math/bits.deBruijn32tab",Rows.laid_math_bits_deBruijn32tab),("math/bits.deBruijn64tab",Rows.laid_math_bits_deBruijn64tab),("unicode/utf8.acceptRanges",Rows.laid_unicode_utf8_acceptRanges),("slotmesh/random.steps",Rows.laid_slotmesh_random_steps),("unicode/utf8.first",Rows.laid_unicode_utf8_first)]
theorem gn0:Tryz.prog.globalNamed "math/bits.deBruijn32tab" =some 0:=by kernel_rfl
theorem gn1:Tryz.prog.globalNamed "math/bits.deBruijn64tab" =some 1:=by kernel_rfl
theorem gn2:Tryz.prog.globalNamed "slotmesh/random.steps" =some 2:=by kernel_rfl
theorem gn5:Tryz.prog.globalNamed "unicode/utf8.acceptRanges" =some 5:=by kernel_rfl
theorem flat_of {P:Program} {g n t:Nat} (h:(P.globals[g]?).map (·.type)=some t) (k:(((P.globals[g]?).map (·.type)).bind (flat P n)).isSome=true):∃tys,flat P n t=some tys:=by
 rw [h] at k;exact Option.isSome_iff_exists.1 k
theorem fl0:(((Tryz.prog.globals[0]?).map (·.type)).bind (flat prog 9)).isSome=true:=by kernel_rfl
theorem fl1:(((Tryz.prog.globals[1]?).map (·.type)).bind (flat prog 9)).isSome=true:=by kernel_rfl
theorem fl2:(((Tryz.prog.globals[2]?).map (·.type)).bind (flat prog 9)).isSome=true:=by kernel_rfl
theorem fl5:(((Tryz.prog.globals[5]?).map (·.type)).bind (flat prog 9)).isSome=true:=by kernel_rfl
theorem glob_met {W:World} (h:laidMetH prog laid5 W):Glob (AllOf W) W:=by
 rw [MakeChecks.laidMetH_plain _ _ _ (by kernel_rfl)] at h
 obtain ⟨ps,⟨g0,t0,cs0,f0,p0,q0,hg0,ht0,hv0,hd0,⟨g1,t1,cs1,f1,p1,q1,hg1,ht1,hv1,hd1,⟨g5,t5,cs5,f5,p5,q5,hg5,ht5,hv5,hd5,⟨g2,t2,cs2,f2,p2,q2,hg2,ht2,hv2,hd2,_⟩,_⟩,_⟩,_⟩,_,_⟩:=h
 obtain rfl:=Option.some.inj (gn0.symm.trans hg0)
 obtain rfl:=Option.some.inj (gn1.symm.trans hg1)
 obtain rfl:=Option.some.inj (gn2.symm.trans hg2)
 obtain rfl:=Option.some.inj (gn5.symm.trans hg5)
 have e0:=flat_of ht0 fl0
 have e1:=flat_of ht1 fl1
 have e2:=flat_of ht2 fl2
 have e5:=flat_of ht5 fl5
 obtain ⟨tys0,e0⟩:=e0
 obtain ⟨tys1,e1⟩:=e1
 obtain ⟨tys2,e2⟩:=e2
 obtain ⟨tys5,e5⟩:=e5
 have v0:=var_at gn0 hv0 hd0 e0 (k:=9) (vs:=laidTable 0) (by kernel_rfl)
 have v1:=var_at gn1 hv1 hd1 e1 (k:=9) (vs:=laidTable 1) (by kernel_rfl)
 have v2:=var_at gn2 hv2 hd2 e2 (k:=9) (vs:=laidTable 2) (by kernel_rfl)
 have v5:=var_at gn5 hv5 hd5 e5 (k:=9) (vs:=laidTable 5) (by kernel_rfl)
 have one:∀g,g<6→∀v∈laidTable g,v.oneCell'=true:=by
   have:(Zbe 6).all (fun g=>(laidTable g).all fun v=>v.oneCell')=true:=by kernel_rfl
   intro g hg v hv
   exact List.all_eq_true.1 (List.all_eq_true.1 this g (Zcp.2 hg)) v hv
 refine glob_of fun g hg j v hj=> ?_
 match g,hg with
 |0,_=>exact ⟨v0 j v hj,one 0 (by omega) v (Zbg hj)⟩
 |1,_=>exact ⟨v1 j v hj,one 1 (by omega) v (Zbg hj)⟩
 |2,_=>exact ⟨v2 j v hj,one 2 (by omega) v (Zbg hj)⟩
 |3,hg=>exact absurd rfl hg
 |4,hg=>exact absurd rfl hg
 |5,_=>exact ⟨v5 j v hj,one 5 (by omega) v (Zbg hj)⟩
 |n+6,hg=>exact absurd rfl hg
def goodRow (r:Row):Prop:=r.2.length≤maxLen∧(∀x∈r.2,0≤x∧x<256)
theorem digs_of {x:Dv} (h:HasTy (.sl [.int .u64]) x):∃p:List Int,x= .sl 1 (digR p)∧p.length≤maxLen∧True:=by
 cases h with
 | sl _ xs hl h=>
   have key:∀(xs:List (List Dv)),(∀row∈xs,HasTys [.int .u64] row)→∃p:List Int,xs=digR p:=by
     intro xs
     induction xs with
     |nil=>exact fun _=>⟨[],rfl⟩
     | cons row xs ih=>
       intro h
       obtain ⟨p,rfl⟩:=ih fun r hr=>h r (Zav _ hr)
       have h0:=h row (Zax ..)
       cases h0 with
       | cons h1 h2=>cases h2 with
         | nil=>cases h1 with
           |int _ n hw=>exact ⟨n::p,rfl⟩
   obtain ⟨p,rfl⟩:=key xs h
   exact ⟨p,rfl,by simpa [digR] using hl,trivial⟩
theorem parts_of {x:Dv} (h:HasTy (.sl [.sl [.int .u8]]) x):∃ps:List (List Int),x= .sl 1 (partsR ps)∧ps.length≤maxLen∧True:=by
 cases h with
 | sl _ xs hl h=>
   have key:∀(xs:List (List Dv)),(∀row∈xs,HasTys [.sl [.int .u8]] row)→∃p:List (List Int),xs=partsR p:=by
     intro xs
     induction xs with
     |nil=>exact fun _=>⟨[],rfl⟩
     | cons row xs ih=>
       intro h
       obtain ⟨p,rfl⟩:=ih fun r hr=>h r (Zav _ hr)
       have h0:=h row (Zax ..)
       cases h0 with
       | cons h1 h2=>cases h2 with
         | nil=>
           obtain ⟨b,rfl,_⟩:=bytes_of h1
           exact ⟨b::p,rfl⟩
   obtain ⟨p,rfl⟩:=key xs h
   exact ⟨p,rfl,by simpa [partsR] using hl,trivial⟩
theorem proofs_of {x:Dv} (h:HasTy (.sl [.sl [.int .u64]]) x):∃ps:List (List Int),x= .sl 1 (proofsR ps):=by
 cases h with
 | sl _ xs hl h=>
   have key:∀(xs:List (List Dv)),(∀row∈xs,HasTys [.sl [.int .u64]] row)→∃p:List (List Int),xs=proofsR p:=by
     intro xs
     induction xs with
     |nil=>exact fun _=>⟨[],rfl⟩
     | cons row xs ih=>
       intro h
       obtain ⟨p,rfl⟩:=ih fun r hr=>h r (Zav _ hr)
       have h0:=h row (Zax ..)
       cases h0 with
       | cons h1 h2=>cases h2 with
         | nil=>
           obtain ⟨b,rfl,_⟩:=digs_of h1
           exact ⟨b::p,rfl⟩
   obtain ⟨p,rfl⟩:=key xs h
   exact ⟨p,rfl⟩
theorem rows_of {x:Dv} (h:HasTy (.sl [.int .i64, .sl [.int .u8]]) x):∃l:List Row,x= .sl 2 (rowsR l)∧l.length≤maxLen∧∀r∈l,goodRow r:=by
 cases h with
 | sl _ xs hl h=>
   have key:∀(xs:List (List Dv)),(∀row∈xs,HasTys [.int .i64, .sl [.int .u8]] row)→∃l:List Row,xs=rowsR l∧∀r∈l,goodRow r:=by
     intro xs
     induction xs with
     |nil=>exact fun _=>⟨[],rfl,fun a h=>by cases h⟩
     | cons row xs ih=>
       intro h
       obtain ⟨l,rfl,hp⟩:=ih fun r hr=>h r (Zav _ hr)
       have h0:=h row (Zax ..)
       cases h0 with
       | cons h1 h2=>cases h2 with
         | cons h2 h3=>cases h3 with
           | nil=>cases h1 with
             | int _ n hw=>
               obtain ⟨p,rfl,h4,h5⟩:=bytes_of h2
               refine ⟨(n,p)::l,rfl,fun r hr=> ?_⟩
               rcases List.mem_cons.1 hr with rfl|hr
               · exact ⟨h4,h5⟩
               · exact hp r hr
   obtain ⟨l,rfl,hp⟩:=key xs h
   exact ⟨l,rfl,by simpa [rowsR] using hl,hp⟩
def OkSt (s:StT):Prop:=∀r∈s.rows,goodRow r
theorem row_state {row:List Dv} (h:HasTys [.int .i64, .int .i64, .int .u64, .int .i64, .sl [.sl [.int .u8]], .sl [.sl [.int .u64]], .sl [.int .i64, .sl [.int .u8]], .sl [.int .u64], .int .i64, .int .i64, .int .i64, .int .i64, .int .i64] row):∃s:StT,Zbo (row.map .d)=stV s∧OkSt s:=by
 obtain _|⟨h1,h⟩:=h
 obtain _|⟨h2,h⟩:=h
 obtain _|⟨h3,h⟩:=h
 obtain _|⟨h4,h⟩:=h
 obtain _|⟨h5,h⟩:=h
 obtain _|⟨h6,h⟩:=h
 obtain _|⟨h7,h⟩:=h
 obtain _|⟨h8,h⟩:=h
 obtain _|⟨h9,h⟩:=h
 obtain _|⟨ha,h⟩:=h
 obtain _|⟨hb,h⟩:=h
 obtain _|⟨hc,h⟩:=h
 obtain _|⟨hd,h⟩:=h
 cases h
 obtain ⟨ps,rfl,_⟩:=parts_of h5
 obtain ⟨qs,rfl⟩:=proofs_of h6
 obtain ⟨rw,rfl,_,hrw⟩:=rows_of h7
 obtain ⟨pf,rfl,_⟩:=digs_of h8
 cases h1;cases h2;cases h3;cases h4;cases h9;cases ha;cases hb;cases hc;cases hd
 exact ⟨⟨⟨_,_,_,_⟩,ps,qs,rw,pf,⟨_,_,_,_,_⟩⟩,rfl,hrw⟩
def nearTys:List Ty:= [.int .i64, .int .i64, .int .i64, .int .i64, .int .i64, .int .i64, .int .i64, .int .i64, .int .i64, .int .i64, .int .i64, .int .i64, .sl [.int .i64, .int .i64, .int .i64, .int .i64], .sl [.int .i64, .int .i64, .int .i64, .int .i64, .int .i64], .sl [.int .i64, .int .i64, .int .i64], .sl [.int .i64, .int .i64, .int .i64, .int .i64], .bool, .sl [.int .i64, .int .i64, .int .i64, .int .i64, .int .i64, .int .i64, .int .i64, .int .i64], .sl [.int .i64, .int .i64, .int .i64, .int .i64, .int .i64, .int .i64, .int .i64, .int .i64], .sl [.int .i64], .int .i64, .int .i64, .int .u64, .int .i64, .int .i64, .int .i64, .int .i64, .int .i64, .sl [.int .u8], .sl [.int .u64], .bool]
theorem near_row {row:List Dv} (h:HasTys nearTys row):∃x:NearT,row=nearD x:=by
 unfold nearTys at h
 obtain _|⟨h0,h⟩:=h
 obtain _|⟨h1,h⟩:=h
 obtain _|⟨h2,h⟩:=h
 obtain _|⟨h3,h⟩:=h
 obtain _|⟨h4,h⟩:=h
 obtain _|⟨h5,h⟩:=h
 obtain _|⟨h6,h⟩:=h
 obtain _|⟨h7,h⟩:=h
 obtain _|⟨h8,h⟩:=h
 obtain _|⟨h9,h⟩:=h
 obtain _|⟨h10,h⟩:=h
 obtain _|⟨h11,h⟩:=h
 obtain _|⟨h12,h⟩:=h
 obtain _|⟨h13,h⟩:=h
 obtain _|⟨h14,h⟩:=h
 obtain _|⟨h15,h⟩:=h
 obtain _|⟨h16,h⟩:=h
 obtain _|⟨h17,h⟩:=h
 obtain _|⟨h18,h⟩:=h
 obtain _|⟨h19,h⟩:=h
 obtain _|⟨h20,h⟩:=h
 obtain _|⟨h21,h⟩:=h
 obtain _|⟨h22,h⟩:=h
 obtain _|⟨h23,h⟩:=h
 obtain _|⟨h24,h⟩:=h
 obtain _|⟨h25,h⟩:=h
 obtain _|⟨h26,h⟩:=h
 obtain _|⟨h27,h⟩:=h
 obtain _|⟨h28,h⟩:=h
 obtain _|⟨h29,h⟩:=h
 obtain _|⟨h30,h⟩:=h
 cases h
 cases h0
 cases h1
 cases h2
 cases h3
 cases h4
 cases h5
 cases h6
 cases h7
 cases h8
 cases h9
 cases h10
 cases h11
 cases h20
 cases h21
 cases h22
 cases h23
 cases h24
 cases h25
 cases h26
 cases h27
 cases h12
 cases h13
 cases h14
 cases h15
 cases h17
 cases h18
 cases h19
 cases h28
 cases h29
 cases h16
 cases h30
 exact ⟨⟨_,_,_,_,_,_,_,_,_,_,_,_,_,_,_,_,_,_,_,_,⟨_,_,_,_⟩,_,_,_,_,_,_,_⟩,rfl⟩
theorem near_of {x:Dv} (h:HasTy (.sl nearTys) x):∃l:List NearT,x= .sl 31 (nearR l)∧l.length≤maxLen∧True:=by
 cases h with
 | sl _ xs hl h=>
   have key:∀(xs:List (List Dv)),(∀row∈xs,HasTys nearTys row)→∃l:List NearT,xs=nearR l:=by
     intro xs
     induction xs with
     |nil=>exact fun _=>⟨[],rfl⟩
     | cons row xs ih=>
       intro h
       obtain ⟨p,rfl⟩:=ih fun r hr=>h r (Zav _ hr)
       obtain ⟨x,rfl⟩:=near_row (h row (Zax ..))
       exact ⟨x::p,rfl⟩
   obtain ⟨p,rfl⟩:=key xs h
   exact ⟨p,rfl,by simpa [nearR] using hl,trivial⟩
theorem flatSt:flat prog 20 32=some [.int .i64, .int .i64, .int .u64, .int .i64, .sl [.sl [.int .u8]], .sl [.sl [.int .u64]], .sl [.int .i64, .sl [.int .u8]], .sl [.int .u64], .int .i64, .int .i64, .int .i64, .int .i64, .int .i64]:=by kernel_rfl
theorem flatNe:flat prog 20 36=some [.sl nearTys]:=by kernel_rfl
set_option maxRecDepth 100000
theorem jf8_0:(Rows.spreadServesRow.wf (OpenSpec.ofChange Rows.spreadServesSpec))=true:=by kernel_rfl
theorem jf8_1:(laidOutB Tryz.pinned.checked.prog)=true:=by kernel_rfl
theorem jf8_2:(mapsRowed Tryz.pinned.checked.prog)=true:=by kernel_rfl
theorem jf8_3:(Tryz.f8.params.all (Tryz.pinned.checked.prog.readableRec ·))=true:=by kernel_rfl
theorem jf8_4:(namedTie Tryz.pinned.checked.prog Rows.spreadServesRow.named Rows.spreadServesSpec.vars)=true:=by kernel_rfl
theorem jf8_5:((Rows.spreadServesRow.stops== []))=true:=by kernel_rfl
theorem jf8_6:((Tryz.pinned.checked.prog.stops== []))=true:=by kernel_rfl
theorem jf8_7:((Rows.spreadServesRow.knobs== []))=true:=by kernel_rfl
theorem jf8_8:((Tryz.pinned.checked.prog.stopKnobs== []))=true:=by kernel_rfl
theorem jf8_9:((Rows.spreadServesRow.inPlace==Tryz.pinned.checked.prog.inPlace 8))=true:=by kernel_rfl
theorem jf8_10:((Rows.spreadServesRow.unfollowed==Tryz.pinned.checked.prog.unfollowed 8))=true:=by kernel_rfl
theorem jf8_11:((Rows.spreadServesRow.recurses==Tryz.pinned.checked.prog.recurses 8))=true:=by kernel_rfl
theorem jf8_12:((Rows.spreadServesRow.named==Tryz.pinned.checked.prog.varsNamed 8))=true:=by kernel_rfl
theorem jf8_13:((Rows.spreadServesRow.maps==(Tryz.f8.params.toList++Rows.spreadServesSpec.plain.varTypes Tryz.pinned.checked.prog).any (Tryz.pinned.checked.prog.mapsRec ·)))=true:=by kernel_rfl
theorem jf8_14:((Rows.spreadServesRow.ifaces==(Tryz.f8.params.toList++Rows.spreadServesSpec.plain.varTypes Tryz.pinned.checked.prog).any (Tryz.pinned.checked.prog.ifacesRec ·)))=true:=by kernel_rfl
theorem jf8_15:((Rows.spreadServesRow.mapsOut==Tryz.pinned.checked.prog.mapsAmong Tryz.f8.resultTypes.toList))=true:=by kernel_rfl
theorem jf8_16:((Rows.spreadServesRow.loops==(Tryz.f8.params.toList++Rows.spreadServesSpec.plain.varTypes Tryz.pinned.checked.prog).any (Tryz.pinned.checked.prog.loopsFrom ·)))=true:=by kernel_rfl
theorem jf8_17:((Rows.spreadServesRow.wideKeys==(Tryz.f8.params.toList++Rows.spreadServesSpec.plain.varTypes Tryz.pinned.checked.prog++Tryz.f8.resultTypes.toList).any (Tryz.pinned.checked.prog.wideKeysFrom ·)))=true:=by kernel_rfl
theorem jf8_18:(Rows.spreadServesSpec.vars.all (Tryz.pinned.checked.prog.varReadable ·))=true:=by kernel_rfl
theorem jf8_19:(Tryz.f8.resultTypes.all (fun t=>Tryz.pinned.checked.prog.readableRec t&&decide (t<Tryz.pinned.checked.prog.types.size)))=true:=by kernel_rfl
theorem jf8_20:((Rows.spreadServesRow.ifacesOut==Tryz.f8.resultTypes.toList.any (Tryz.pinned.checked.prog.ifacesRec ·)))=true:=by kernel_rfl
theorem jf8_21:((Rows.spreadServesRow.loopsOut==Tryz.f8.resultTypes.toList.any (Tryz.pinned.checked.prog.loopsFrom ·)))=true:=by kernel_rfl
theorem jf8_22:((Rows.spreadServesRow.plainKeys==Tryz.pinned.checked.prog.plainKeys))=true:=by kernel_rfl
theorem jf8_23:(Rows.spreadServesRow.shortTexts.isNone)=true:=by kernel_rfl
theorem jf8_24:(Tryz.pinned.checked.prog.stopsHeard)=true:=by kernel_rfl
theorem jf8_25:(Tryz.pinned.checked.prog.mayEnter)=true:=by kernel_rfl
theorem jf8_26:((Rows.spreadServesRow.lifted==Tryz.pinned.checked.prog.liftsFinal))=true:=by kernel_rfl
theorem jf8_27:((Tryz.pinned.checked.prog.make==some Rows.spreadServesRow.make))=true:=by kernel_rfl
theorem jf8_28:((Rows.spreadServesRow.kinds==(if Rows.spreadServesRow.domain.isEmpty then [] else Tryz.f8.params.toList.map fun t=>match Tryz.pinned.checked.prog.underlying t with|some (.int k)=>some k|_=>none)))=true:=by kernel_rfl
theorem jf8_29:((Rows.spreadServesRow.pinned==Rows.spreadServesRow.pinnedBy))=true:=by kernel_rfl
theorem jf8_30:((Rows.spreadServesRow.veiled==(Tryz.f8.params.toList++Rows.spreadServesSpec.plain.varTypes Tryz.pinned.checked.prog++Tryz.f8.resultTypes.toList).any (Tryz.pinned.checked.prog.veiledRec ·)))=true:=by kernel_rfl
theorem jf8_31:(Rows.spreadServesRow.veiledFits Tryz.pinned.checked.prog Tryz.f8.params.toList (Tryz.f8.params.toList++Rows.spreadServesSpec.plain.varTypes Tryz.pinned.checked.prog++Tryz.f8.resultTypes.toList))=true:=by kernel_rfl
theorem and_t {a b:Bool} (h:a=true) (h1:b=true):(a&&b)=true:=by rw [h,h1];rfl
theorem closed8:joinedFacts Tryz.pinned.checked.prog 8 Tryz.f8 Rows.spreadServesSpec Rows.spreadServesRow=true:=(and_t (and_t (and_t (and_t (and_t (and_t (and_t (and_t (and_t (and_t (and_t (and_t (and_t (and_t (and_t (and_t (and_t (and_t (and_t (and_t (and_t (and_t (and_t (and_t (and_t (and_t (and_t (and_t (and_t (and_t (and_t jf8_0 jf8_1) jf8_2) jf8_3) jf8_4) jf8_5) jf8_6) jf8_7) jf8_8) jf8_9) jf8_10) jf8_11) jf8_12) jf8_13) jf8_14) jf8_15) jf8_16) jf8_17) jf8_18) jf8_19) jf8_20) jf8_21) jf8_22) jf8_23) jf8_24) jf8_25) jf8_26) jf8_27) jf8_28) jf8_29) jf8_30) jf8_31)
end Go.Proofs.YtibhflogmbfpcaaGreatDoor.Am
namespace Go.Proofs.YtibhflogmbfpcaaGreatDoor.Am
open Go Go.RowKit Go.Proofs Tryz
open AV renaming agg → Zbo, bad → Zat, d → Zae, ptr → Zaw
open BIf renaming f → Zcq, of → Zan, t → Zbk
open BitVec renaming ofInt → Zap
open BlkT renaming n → Zdk, pf → Zda
open Bool renaming and_eq_true → Zal
open CallsOk renaming cons → Zag, nil → Zah
open Go.Code renaming loop → Zbd
open Dv renaming sl → Zam
open Int renaming toNat → Zao, toNat_natCast → Zay
open Go.IntKind renaming wrap → Zaa
open List renaming length → Zab, mem_cons_of_mem → Zav, mem_cons_self → Zax, mem_map → Zbf, mem_of_getElem? → Zbg, mem_range → Zcp, range → Zbe, replicate → Zaf
open SCallsOk renaming nil → Zad
open Go.Value renaming slice → Zbp
variable {β:Type} (wl:WLT β) (y:YieldT β) (b:β) (R:AV→β→Prop) (K:Exit→List AV→List Blk→β→Prop) (Q:β→Prop)
open AV (bad)
set_option linter.unusedVariables false
set_option maxRecDepth 20000
set_option maxHeartbeats 2000000
theorem valid_mk {s:StT} (h1:soundT s=true) (h2:Good s.rows) (h3:s.rows.length<16) (h4:s.rows= []∨fullP s=false) (h5:s.rows≠ []∨s.pf= []) (h6:validT s.tr=true):validP s=true:=by
 have e4:(s.rows.isEmpty|| !fullP s)=true:=by
   rcases h4 with h|h
   · rw [h];rfl
   · rw [h];simp
 have e5:(!s.rows.isEmpty||s.pf.isEmpty)=true:=by
   rcases h5 with h|h
   · cases hr:s.rows with
     |nil=>exact absurd hr h
     |cons _ _=>rfl
   · rw [h];simp
 rw [validP,h1,(validS_good _).2 h2,e4,e5,h6,decide_eq_true (p:=(s.rows.length:Int)<16) (by omega)]
 simp
theorem allP_take {s:SprT}:∀(ps qs:List (List Int)) (i k:Nat),allP s i ps qs=true→allP s i (ps.take k) (qs.take k)=true
 | [],qs,i,k,_=>by rw [List.take_nil];rfl
 | p::ps, [],i,k,_=>by
   rw [List.take_nil]
   cases k<;>rfl
 |p::ps,q::qs,i,0,_=>rfl
 | p::ps,q::qs,i,k+1,h=>by
   have h':(provedS s i p q&&allP s (i+1) ps qs)=true:=h
   simp only [Zal] at h'
   show (provedS s i p q&&allP s (i+1) (ps.take k) (qs.take k))=true
   rw [h'.1,allP_take ps qs (i+1) k h'.2];rfl
def cutSt (s:StT) (k:Nat):StT:=⟨s.no,s.ps.take k,s.qs.take k, [], [],s.tr⟩
theorem cut_sound {s:StT} (h:soundT s=true) {k:Nat} (hk:k≤s.ps.length):soundT (cutSt s k)=true:=by
 obtain ⟨b1,b2,b3,b4,b5,b6⟩:=sound_16 h
 have h':=h
 simp only [soundT,soundS,Zal] at h'
 obtain ⟨h1,h2,h3,h4,h5⟩:=h'
 have l1:(s.ps.take k).length=k:=by simp;omega
 have l2:(s.qs.take k).length=k:=by simp;omega
 have e1:anyOther (s.ps.take k)=false:=by
   rw [anyOther,List.any_eq_false]
   intro p hp
   have:=b5 p (List.mem_of_mem_take hp)
   simp [this]
 have e2:allP (cutSt s k).sp 0 (s.ps.take k) (s.qs.take k)=true:=by
   rw [allP_congr (s:=(cutSt s k).sp) (s':=s.sp) rfl]
   exact allP_take _ _ _ _ h5
 show (announcedS s.no.v s.no.n s.no.t&&(!decide (((s.ps.take k).length:Int)>countS s.no.n)&&(!(((s.qs.take k).length:Int) !=(s.ps.take k).length)&&(!anyOther (s.ps.take k)&&allP (cutSt s k).sp 0 (s.ps.take k) (s.qs.take k)))))=true
 rw [b6,e1,e2,l1,l2,decide_eq_false (by omega)]
 simp
theorem least_mem:∀(l:List Int) (p:Int),leastS l p=p∨leastS l p∈l
 | [],p=> .inl rfl
 | x::l,p=>by
   show leastS l (minS p x)=p∨_
   rcases least_mem l (minS p x) with h|h
   · rw [show leastS (x::l) p=leastS l (minS p x) from rfl,h]
     unfold minS
     split
     · exact .inr (Zax ..)
     · exact .inl rfl
   · exact .inr (Zav _ h)
theorem serve_speaks {s:StT} {l:List NearT} {f:Int} (h:(serveS s l f).2.2=true):∃(k:Nat) (m:Int),k<s.ps.length∧(∃x∈l,x.no=s.no∧x.pg=k)∧seedS m=true∧validP s=true∧emptyS s=false∧
   serveS s l f=(withTr s (tickT s.tr f).1,⟨k,m,encS (nthL s.ps k) m,nthL s.qs k⟩,true):=by
 have h0:=h
 unfold serveS at h0
 split at h0
 · cases h0
 rename_i g1
 split at h0
 · cases h0
 rename_i g2
 have g1':okServe s f=true:=by simpa using g1
 simp only [okServe,Zal,Bool.not_eq_true'] at g1'
 obtain ⟨⟨hv,he⟩,hf⟩:=g1'
 simp only [not_or,Bool.not_eq_false,Int.not_lt,ge_iff_le,Int.not_le] at g2
 obtain ⟨t1,t2,t3⟩:=g2
 obtain ⟨k,hk⟩:∃k:Nat,leastS (lackP s l) s.ps.length=k:=⟨(leastS (lackP s l) s.ps.length).toNat,by omega⟩
 rw [hk] at t2 t3
 have hsd:=(validT_iff.1 (valid_sound hv he).2.2.2.2.2).2.2.1
 have hff:=inS_iff.1 hf
 refine ⟨k,seedF f s.tr.sd,by omega, ?_,seedS_iff.2 (by unfold seedF;omega),hv,he, ?_⟩
 · rcases least_mem (lackP s l) s.ps.length with h1|h1
   · rw [hk] at h1;omega
   · rw [hk] at h1
     obtain ⟨x,hx,hp⟩:=Zbf.1 h1
     obtain ⟨h2,h3⟩:=List.mem_filter.1 hx
     exact ⟨x,h2,eqN_iff.1 h3,hp⟩
 · unfold serveS
   rw [if_neg g1,hk,if_neg (by rw [t1];simp;omega)]
   rfl
theorem enc_bytes {p:List Int} {m:Int} (h:seedS m=true):(encS p m).length=16∧∀a∈encS p m,0≤a∧a<256:=by
 rw [enc_sum h]
 exact ⟨sumB_len _ _,sumB_canon _ _⟩
theorem cut_recv {s:StT} (hv:validP s=true) (he:emptyS s=false) {k:Nat} (hk:k<s.ps.length) {m:Int} (hm:seedS m=true) (q:List Int):
   (recvT (cutSt s k) ⟨k,m,encS (nthL s.ps k) m,q⟩).2=0∧(recvT (cutSt s k) ⟨k,m,encS (nthL s.ps k) m,q⟩).1.rows.length=1:=by
 obtain ⟨a1,a2,a3,a4,a5,a6⟩:=valid_sound hv he
 obtain ⟨b1,b2,b3,b4,b5,b6⟩:=sound_16 a1
 have l1:(cutSt s k).ps.length=k:=by simp [cutSt];omega
 have c1:validP (cutSt s k)=true:=valid_mk (cut_sound a1 (by omega)) (Tru.nil []).good (by simp [cutSt]) (.inl rfl) (.inr rfl) a6
 have c2:emptyS (cutSt s k)=false:=by
   have hz:zeroN s.no=false:=ann_zero b6
   rw [emptyS,show (cutSt s k).no=s.no from rfl,hz];rfl
 have c3:fullP (cutSt s k)=false:=by
   rw [fullP,l1,show (cutSt s k).no=s.no from rfl]
   simp;omega
 obtain ⟨s0,s1⟩:=seedS_iff.1 hm
 have hd:=(enc_bytes (p:=nthL s.ps k) hm).1
 have hbad:badB ⟨k,m,encS (nthL s.ps k) m,q⟩=false:=by
   have e:badB ⟨k,m,encS (nthL s.ps k) m,q⟩=(decide ((k:Int)<0)||(decide ((k:Int)≥16)||(decide (m<0)||(decide (m>1000000000)||(((encS (nthL s.ps k) m).length:Int) !=16))))):=rfl
   rw [e,hd,decide_eq_false (p:=(k:Int)<0) (by omega),decide_eq_false (p:=(k:Int)≥16) (by omega),decide_eq_false (p:=m<0) (by omega),decide_eq_false (p:=m>1000000000) (by omega)]
   rfl
 have hr:refusedS (cutSt s k) ⟨k,m,encS (nthL s.ps k) m,q⟩=0:=by
   rw [refusedS,if_neg (by rw [c1,hbad];decide),if_neg (by rw [c2];decide),if_neg (by rw [c3];decide),l1,if_neg (by simp),if_neg (by simp),if_neg (by simp [cutSt])]
 obtain ⟨m0,m1⟩:=setS_range hm
 obtain ⟨g1,g2,g3,g4⟩:=add_count (Tru.nil (nthL s.ps k)) m0 (show setS m<65536 by omega)
 have hn:=first_new (p:=nthL s.ps k) m0 (show setS m<65536 by omega)
 have hp:pageS (k:Int)=true:=by simp [pageS];omega
 have er:recS (cutSt s k).rows (k:Int) m (encS (nthL s.ps k) m)=addS [] (setS m) (sumB (nthL s.ps k) (setS m)):=rec_sumN hp hm []
 rw [hn] at g4
 have g4:(addS [] (setS m) (sumB (nthL s.ps k) (setS m))).1.length=1:=g4
 have hpg:(pagesS (addS [] (setS m) (sumB (nthL s.ps k) (setS m))).1).2=false:=by rw [pages_iff g2,g4];rfl
 have e1:recvT (cutSt s k) ⟨k,m,encS (nthL s.ps k) m,q⟩=(nextSt (cutSt s k) ⟨k,m,encS (nthL s.ps k) m,q⟩,0):=by
   rw [recvT,if_neg (by rw [hr];simp)]
   rw [show (recS (cutSt s k).rows (Zdk ⟨k,m,encS (nthL s.ps k) m,q⟩) (BlkT.s ⟨k,m,encS (nthL s.ps k) m,q⟩) (BlkT.d ⟨k,m,encS (nthL s.ps k) m,q⟩))=_ from er,if_neg (by rw [g1];simp),if_pos hpg]
 rw [e1]
 refine ⟨rfl, ?_⟩
 show (recS (cutSt s k).rows (k:Int) m (encS (nthL s.ps k) m)).1.length=1
 rw [er,g4]
set_option maxRecDepth 100000
set_option maxHeartbeats 4000000
noncomputable def lpS8:Code:=sub [1,1,1,1,1,1,0,1,2,3] (code Tryz.f8)
def tmS8 (near:List (List Dv)) (e:Bool) (n i:Int):List AV:= [.bad, .bad, .bad, .ptr 0 0, .bad, .bad, .d (bo false), .d (bo true), .ptr 1 0, .ptr 2 0, .bad, .d (bo e)]++Zaf 34 .bad++ [.d (.sl 31 near), .d (i64 n), .d (i64 i)]++Zaf 106 .bad
abbrev Qz5 (v0:BlkT):List AV:= [Zae (i64 (Zdk v0)),Zae (i64 (BlkT.s v0)),Zae (Zam 1 (bytesR (BlkT.d v0))),Zae (Zam 1 (digR (Zda v0)))]
abbrev Qz32 (v0:StT) (v1:StT) (v2:BlkT):= [stB v0,stB v1,Blk.mk (Qz5 v2) false false 0]
theorem rS8 (s z:StT) (x:BlkT) (near:List (List Dv)) (e:Bool) (n i:Int):wpc prog ⟨[], [],wl,y,false⟩ 200 lpS8 (tmS8 near e n i) [stB s,stB z,bkB x] b (maskK 3 [3,6,7,8,9,11,46,47,48] K)=(BIf (decide (i<n)) (BIf (true&&decide (0≤i)) (∃(x0:Int) (x1:Int) (x2:Int) (x3:Int) (x4:Int) (x5:Int) (x6:Int) (x7:Int) (x8:Int) (x9:Int) (x10:Int) (x11:Int) (xs12:List (List Dv)) (xs13:List (List Dv)) (xs14:List (List Dv)) (xs15:List (List Dv)) (b16:Bool) (xs17:List (List Dv)) (xs18:List (List Dv)) (xs19:List (List Dv)) (x20:Int) (x21:Int) (x22:Int) (x23:Int) (x24:Int) (x25:Int) (x26:Int) (x27:Int) (xs28:List (List Dv)) (xs29:List (List Dv)) (b30:Bool),near[Zao i]? =some [i64 x0,i64 x1,i64 x2,i64 x3,i64 x4,i64 x5,i64 x6,i64 x7,i64 x8,i64 x9,i64 x10,i64 x11,Zam 4 xs12,Zam 5 xs13,Zam 3 xs14,Zam 4 xs15,bo b16,Zam 8 xs17,Zam 8 xs18,Zam 1 xs19,i64 x20,i64 x21,u64 x22,i64 x23,i64 x24,i64 x25,i64 x26,i64 x27,Zam 1 xs28,Zam 1 xs29,bo b30]∧BIf e (K .normal (bds 3 (Zaw 0 0::Zat::Zat::Zae (bo false)::Zae (bo true)::Zaw 1 0::Zaw 2 0::Zat::Zae (bo true)::bds 34 (Zae (Zam 31 near)::Zae (i64 n)::Zae (i64 (Zaa .i64 (i+1)))::bds 106 []))) (Qz32 s z x) b) (BIf (x20==NotT.v (StT.no s)&&(x21==NotT.n (StT.no s)&&(x22==NotT.r (StT.no s)&&(x23==NotT.t (StT.no s)&&true)))) (K .normal (bds 3 (Zaw 0 0::Zat::Zat::Zae (bo false)::Zae (bo true)::Zaw 1 0::Zaw 2 0::Zat::Zae (bo (x24==Zdk x))::bds 34 (Zae (Zam 31 near)::Zae (i64 n)::Zae (i64 (Zaa .i64 (i+1)))::bds 106 []))) (Qz32 s z x) b) (K .normal (bds 3 (Zaw 0 0::Zat::Zat::Zae (bo false)::Zae (bo true)::Zaw 1 0::Zaw 2 0::Zat::Zae (bo false)::bds 34 (Zae (Zam 31 near)::Zae (i64 n)::Zae (i64 (Zaa .i64 (i+1)))::bds 106 []))) (Qz32 s z x) b))) False) (K (Exit.exit 0) (bds 3 (Zaw 0 0::Zat::Zat::Zae (bo false)::Zae (bo true)::Zaw 1 0::Zaw 2 0::Zat::Zae (bo e)::bds 34 (Zae (Zam 31 near)::Zae (i64 n)::Zae (i64 i)::bds 106 []))) (Qz32 s z x) b)):=by kernel_rfl
def hitS (s:StT) (k:Int) (l:List NearT) (e:Bool):Bool:=e||l.any fun x=>eqN x.no s.no&&(x.pg==k)
theorem wrS8 {Ev:Env prog} {b:Ev.β} {Q:Exit→St Ev.β→Prop} (s z:StT) (x:BlkT) (l:List NearT) (hl:l.length≤1000000):∀(rest:List NearT) (k:Nat) (e:Bool),l.drop k=rest→
   (∀i:Int,Q (.exit 0) ⟨tmS8 (nearR l) (hitS s x.n rest e) l.length i, [stB s,stB z,bkB x],b⟩)→
   WR Ev lpS8 (rest.length+1) ⟨tmS8 (nearR l) e l.length k, [stB s,stB z,bkB x],b⟩ Q
 | [],k,e,hd,h1=>by
   have hk:=drop_nil hd
   refine WR.ofMask [3,6,7,8,9,11,46,47,48] mixed (CX.Ok.of (u:=false) Zah Zad) (k:=200) ?_
   refine Eq.mpr (rS8 _ _ _ _ s z x (nearR l) e l.length k) ?_
   have h2:=h1 k
   rw [show hitS s x.n [] e=e by simp [hitS]] at h2
   exact Zcq (by simp;omega) h2
 | n::rest,k,e,hd,h1=>by
   obtain ⟨hk,hr2,hd'⟩:=drop_cons hd
   refine WR.ofMask [3,6,7,8,9,11,46,47,48] mixed (CX.Ok.of (u:=false) Zah Zad) (k:=200) ?_
   refine Eq.mpr (rS8 _ _ _ _ s z x (nearR l) e l.length k) ?_
   have e1:Zaa IntKind.i64 ((k:Int)+1)=((k+1:Nat):Int):=wrapN (by omega)
   rw [e1,Zay]
   refine Zbk (by simp;omega) (Zbk (by simp) ⟨n.x0,n.x1,n.x2,n.x3,n.x4,n.x5,n.x6,n.x7,n.x8,n.x9,n.x10,n.x11,n.s12,n.s13,n.s14,n.s15,n.b16,n.s17,n.s18,n.s19,n.no.v,n.no.n,n.no.r,n.no.t,n.pg,n.x25,n.x26,n.x27,n.s28,n.s29,n.b30,near_at hd, ?_⟩)
   have he:(n.no.v==s.no.v&&(n.no.n==s.no.n&&(n.no.r==s.no.r&&(n.no.t==s.no.t&&true))))=eqN n.no s.no:=by simp only [eqN,Bool.and_true]
   rw [he]
   have hs:hitS s x.n (n::rest) e=hitS s x.n rest (e||(eqN n.no s.no&&(n.pg==x.n))):=by simp [hitS,Bool.or_assoc]
   rw [hs] at h1
   refine Zan (fun g=> ?_) fun g=>Zan (fun g2=> ?_) fun g2=> ?_
   · rw [g] at h1
     exact wrS8 s z x l hl rest (k+1) true hd' h1
   · rw [g,g2] at h1
     exact wrS8 s z x l hl rest (k+1) (n.pg==x.n) hd' h1
   · rw [g,g2] at h1
     exact wrS8 s z x l hl rest (k+1) false hd' h1
def wlS8 {β:Type}:WLT β:=fun c tm hp b K=>∃(s z:StT) (x:BlkT) (l:List NearT) (e:Bool),c= .loop lpS8∧maskTm [3,6,7,8,9,11,46,47,48] 0 tm=tmS8 (nearR l) false (nearR l).length 0∧hp= [stB s,stB z,bkB x]∧(l.length≤1000000∧e=hitS s x.n l false)∧
 ∀i:Int,K (.exit 0) (tmS8 (nearR l) e l.length i) [stB s,stB z,bkB x] b
theorem wlS8_ok {Ev:Env prog} (c:Code) (tm:List AV) (hp:List Blk) (b:Ev.β) (K:Exit→List AV→List Blk→Ev.β→Prop) (h:wlS8 c tm hp b K):W Ev c ⟨tm,hp,b⟩ (fun e s=>K e s.tm s.hp s.b):=by
 obtain ⟨s,z,x,l,e,rfl,htm,rfl,⟨hl,rfl⟩,hK⟩:=h
 rw [nearR_len] at htm
 refine W.cast (htm▸maskTm_le _ tm 0) (LeH.refl _) ?_
 exact W.rounds (wrS8 (Q:=fun e s=>K e s.tm s.hp s.b) s z x l hl l 0 false rfl hK)
def TL8:List (Nat×(List AV→(AV→Prop)→Prop)):= [(13,cSHead),(14,lessC cFewL),(23,cRSValid),(17,cSServe),(20,lessC cSameK),(15,lessC cSReceive),(34,cEncB)]
theorem TL8_ok:CallsOk prog TL8:=Zag cSHead_ok (Zag (lessC_ok cFewL_ok) (Zag cRSValid_ok (Zag cSServe_ok (Zag (lessC_ok cSameK_ok) (Zag (lessC_ok cSReceive_ok) (Zag cEncB_ok Zah))))))
abbrev Qz18 (v0:List NearT):List AV:=bds 3 (Zaw 0 0::Zat::Zat::Zae (bo false)::Zae (bo true)::Zaw 1 0::Zaw 2 0::Zat::Zae (bo false)::bds 34 (Zae (Zam 31 (nearR v0))::Zae (i64 ((Zab (nearR v0):Nat):Int))::Zae (i64 0)::bds 106 []))
theorem f8_nf (s:StT) (l:List NearT) (f:Int):wpFn prog ⟨TL8, [],wlS8,y,false⟩ 200 Tryz.f8 [stV s, .d (.sl 31 (nearR l)), .d (i64 f)] b R=(([]:List AV)= []∧∃(args0:List AV),LeVs [stV s,Zae (Zam 31 (nearR l))] args0∧∃(s1:StT) (near2:List (List Dv)) (z3:Bool),args0= [stV s1,Zae (Zam 31 near2)]∧z3=(fewT s1&&decide (((Zab near2:Nat):Int)≤(100:Int)))∧BIf (!z3) (R (.d (bo true)) b) (∃(s4:StT) (z5:Bool), [stV s]= [stV s4]∧((smallS s4)∧z5=validP s4)∧BIf (!z5) (R (.d (bo true)) b) (∃(s6:StT) (l7:List NearT) (f8:Int) (z9:StT) (x10:BlkT) (e11:Bool), [stV s,Zae (Zam 31 (nearR l)),Zae (i64 f)]= [stV s6,Zae (Zam 31 (nearR l7)),Zae (i64 f8)]∧(((smallS s6)∧Zab l7≤1000000)∧(z9,x10,e11)=serveS s6 l7 f8)∧BIf (!e11) (∃(args12:List AV),LeVs [Zbo (Qz5 x10),Zbo Qz12] args12∧∃(s13:BlkT) (c14:BlkT) (z15:Bool),args12= [Zbo (Qz5 s13),Zbo (Qz5 c14)]∧((Zab (BlkT.d s13)≤1000000∧Zab (Zda s13)≤1000000)∧z15=sameK s13 c14)∧R (.d (bo z15)) b) (∃(s16:StT) (z17:StT) (x18:BlkT) (l19:List NearT) (e20:Bool),Zbd lpS8=Zbd lpS8∧(Qz18 l)=(Qz18 l19)∧(Qz32 s z9 x10)=(Qz32 s16 z17 x18)∧(Zab l19≤1000000∧e20=hitS s16 (Zdk x18) l19 false)∧∀(i:Int),BIf (!e20) (R (.d (bo false)) b) (BIf (decide (Zdk x18<(0:Int))) (R (.d (bo false)) b) (BIf (decide (Zdk x18≥((Zab (partsR (StT.ps s16)):Nat):Int))) (R (.d (bo false)) b) (BIf (decide (Zdk x18≥((Zab (partsR (StT.ps z17)):Nat):Int))) (R (.d (bo false)) b) (BIf (true&&decide ((0:Int)≤(0:Int)∧(0:Int)≤Zdk x18∧Zdk x18≤((Zab (partsR (StT.ps s16)):Nat):Int)∧((Zab (partsR (StT.ps s16)):Nat):Int)≤((Zab (partsR (StT.ps s16)):Nat):Int))) (BIf (true&&decide ((0:Int)≤(0:Int)∧(0:Int)≤Zdk x18∧Zdk x18≤((Zab (proofsR (StT.qs s16)):Nat):Int)∧((Zab (proofsR (StT.qs s16)):Nat):Int)≤((Zab (proofsR (StT.qs s16)):Nat):Int))) (∃(args21:List AV),LeVs [Zbo [Zae (i64 (NotT.v (StT.no s16))),Zae (i64 (NotT.n (StT.no s16))),Zae (u64 (NotT.r (StT.no s16))),Zae (i64 (NotT.t (StT.no s16))),Zae (Zam 1 (List.take (Zao (Zdk x18) - Zao (0:Int)) (List.drop (Zao (0:Int)) (partsR (StT.ps s16))))),Zae (Zam 1 (List.take (Zao (Zdk x18) - Zao (0:Int)) (List.drop (Zao (0:Int)) (proofsR (StT.qs s16))))),Zae (Dv.s (.slice none 0 0)),Zae (Dv.s (.slice none 0 0)),Zae (i64 (TrT.iv (StT.tr s16))),Zae (i64 (TrT.bg (StT.tr s16))),Zae (i64 (TrT.fi (StT.tr s16))),Zae (i64 (TrT.ct (StT.tr s16))),Zae (i64 (TrT.sd (StT.tr s16)))],Zbo (Qz5 x18)] args21∧∃(s22:StT) (x23:BlkT) (z24:StT) (e25:Int),args21= [stV s22,Zbo (Qz5 x23)]∧(((smallS s22)∧Zab (Zda x23)≤1000000)∧(z24,e25)=recvT s22 x23)∧BIf (true&&decide ((0:Int)≤Zdk x18)) (∃(xs26:List (List Dv)),(partsR (StT.ps s16))[Zao (Zdk x18)]? =some [Zam 1 xs26]∧∃(p29:List Int) (n30:Int) (s31:Int) (d32:List Int), [Zae (Zam 1 xs26),Zae (i64 (Zdk x18)),Zae (i64 (BlkT.s x18))]=(Qz40 p29 n30 s31)∧(encOk p29 n30 s31=true∧d32=encS p29 s31)∧BIf (true&&decide ((0:Int)≤Zdk x18)) (∃(xs33:List (List Dv)),(proofsR (StT.qs s16))[Zao (Zdk x18)]? =some [Zam 1 xs33]∧BIf (e25==(0:Int)) (BIf (((Zab (rowsR (StT.rows z24)):Nat):Int)==(1:Int)) (∃(args36:List AV),LeVs [Zbo (Qz5 x18),Zbo [Zae (i64 n30),Zae (i64 s31),Zae (Zam 1 (bytesR d32)),Zae (Zam 1 xs33)]] args36∧∃(s37:BlkT) (c38:BlkT) (z39:Bool),args36= [Zbo (Qz5 s37),Zbo (Qz5 c38)]∧((Zab (BlkT.d s37)≤1000000∧Zab (Zda s37)≤1000000)∧z39=sameK s37 c38)∧R (.d (bo z39)) b) (R (.d (bo false)) b)) (R (.d (bo false)) b)) False) False) False) False)))))))):=by kernel_rfl
set_option maxHeartbeats 0
set_option maxHeartbeats 4000000
theorem few_two {s:StT} {l:List (List Dv)} (h:(!(fewT s&&decide ((l.length:Int)≤100)))=false):fewT s=true∧l.length≤100:=by
 have:=nbf h
 simp only [Zal,decide_eq_true_eq] at this
 exact ⟨this.1,by omega⟩
theorem serve_quiet {s:StT} {l:List NearT} {f:Int} (h:(serveS s l f).2.2=false):(serveS s l f).2.1=zeroBk:=by
 unfold serveS at h ⊢
 split
 · rfl
 rename_i g1
 rw [if_neg g1] at h
 split
 · rfl
 rename_i g2
 rw [if_neg g2] at h
 cases h
theorem sameK_refl (x:BlkT):sameK x x=true:=by simp [sameK]
theorem pcLaw8 (s:StT) (l:List NearT) (f:Int):PCall prog 8 [stV s, .d (.sl 31 (nearR l)), .d (i64 f)] (.d (bo true)):=by
 refine PCall.ofFnW (n:=200) (u:=false) (fun _=>wlS8) mixed TL8_ok Zad (fun Ev=>wlS8_ok) func8 (by rfl) (by rfl) fun Ev bb=> ?_
 rw [f8_nf]
 refine ⟨rfl,_,LeVs.refl _,s,nearR l,_,rfl,rfl,Zan (fun _=>rfl) fun g1=> ?_⟩
 obtain ⟨hf,hl⟩:=few_two g1
 rw [nearR_len] at hl
 have hs:=few_small hf
 refine ⟨s,_,rfl,⟨hs,rfl⟩,Zan (fun _=>rfl) fun g2=> ?_⟩
 have hl':l.length≤1000000:=by omega
 refine ⟨s,l,f,(serveS s l f).1,(serveS s l f).2.1,(serveS s l f).2.2,rfl,⟨⟨hs,hl'⟩,rfl⟩,Zan (fun g3=> ?_) fun g3=> ?_⟩
 · rw [serve_quiet (nbt g3)]
   exact ⟨[bkV zeroBk,bkV zeroBk], .cons .rfl (.cons (LeV.aggs (.cons .rfl (.cons .rfl (.cons (.nil rfl) (.cons (.nil rfl) .nil))))) .nil),zeroBk,zeroBk,true,rfl,⟨by simp [zeroBk],(sameK_refl _).symm⟩,rfl⟩
 · obtain ⟨k,m,hk,⟨x,hx,hn,hp⟩,hm,hv,he,e⟩:=serve_speaks (nbf g3)
   rw [e]
   obtain ⟨a1,a2,a3,a4,a5,a6⟩:=valid_sound hv he
   obtain ⟨b1,b2,b3,b4,b5,b6⟩:=sound_16 a1
   have hhit:hitS s (k:Int) l false=true:=by
     rw [hitS,Bool.false_or,List.any_eq_true]
     exact ⟨x,hx,by rw [eqN_iff.2 hn,hp];simp⟩
   have hq:(nthL s.qs k).length≤1000000:=hs.2.1.2 _ (nthL_mem (by omega))
   obtain ⟨c1,c2⟩:=cut_recv hv he hk hm (nthL s.qs k)
   obtain ⟨d1,d2⟩:=enc_bytes (p:=nthL s.ps k) hm
   have hcs:smallS (cutSt s k):=⟨⟨by have:=hs.1.1;simp [cutSt];omega,fun p hp=>hs.1.2 p (List.mem_of_mem_take hp)⟩,⟨by have:=hs.2.1.1;simp [cutSt];omega,fun p hp=>hs.2.1.2 p (List.mem_of_mem_take hp)⟩,⟨by simp [cutSt],by simp [cutSt]⟩,by simp [cutSt]⟩
   have henc:encOk (nthL s.ps k) k m=true:=by
     rw [encOk,b5 _ (nthL_mem hk),hm,Bool.and_true]
     simp [pageS];omega
   refine ⟨s,_,⟨k,m,encS (nthL s.ps k) m,nthL s.qs k⟩,l,_,rfl,rfl,rfl,⟨hl',rfl⟩,fun i=> ?_⟩
   refine Zcq (by rw [hhit];rfl) (Zcq (by simp) (Zcq (by rw [partsR_len];simp;omega) (Zcq (by rw [partsR_len];simp [withTr];omega) (Zbk (by rw [partsR_len];simp;omega) (Zbk (by rw [proofs_len];simp;omega) ?_)))))
   have e1:List.take (Zao (k:Int) - Zao 0) (List.drop (Zao 0) (partsR s.ps))=partsR (s.ps.take k):=by simp [partsR,List.map_take]
   have e2:List.take (Zao (k:Int) - Zao 0) (List.drop (Zao 0) (proofsR s.qs))=proofsR (s.qs.take k):=by simp [proofsR,List.map_take]
   show ∃_,_
   simp only [e1,e2]
   refine ⟨[stV (cutSt s k),bkV ⟨k,m,encS (nthL s.ps k) m,nthL s.qs k⟩], .cons (LeV.aggs (.cons .rfl (.cons .rfl (.cons .rfl (.cons .rfl (.cons .rfl (.cons .rfl (.cons (.nil rfl) (.cons (.nil rfl) (LeVs.refl _)))))))))) (.cons .rfl .nil),cutSt s k,⟨k,m,encS (nthL s.ps k) m,nthL s.qs k⟩,(recvT (cutSt s k) ⟨k,m,encS (nthL s.ps k) m,nthL s.qs k⟩).1,(recvT (cutSt s k) ⟨k,m,encS (nthL s.ps k) m,nthL s.qs k⟩).2,rfl,⟨⟨hcs,hq⟩,rfl⟩, ?_⟩
   refine Zbk (by simp) ⟨bytesR (nthL s.ps k),parts_at hk,nthL s.ps k,k,m,_,rfl,⟨henc,rfl⟩,Zbk (by simp) ⟨digR (nthL s.qs k),proofs_at (by omega),Zbk (by rw [c1];rfl) (Zbk (by rw [rowsR_len,c2];rfl) ?_)⟩⟩
   exact ⟨[bkV ⟨k,m,encS (nthL s.ps k) m,nthL s.qs k⟩,bkV ⟨k,m,encS (nthL s.ps k) m,nthL s.qs k⟩],LeVs.refl _,⟨k,m,encS (nthL s.ps k) m,nthL s.qs k⟩,⟨k,m,encS (nthL s.ps k) m,nthL s.qs k⟩,true,rfl,⟨⟨by show (encS _ _).length≤_;omega,hq⟩,(sameK_refl _).symm⟩,rfl⟩
end Go.Proofs.YtibhflogmbfpcaaGreatDoor.Am
