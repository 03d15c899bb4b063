import Derived.Test.YtlnenbbmhidjeaaDoorP4J2
import Derived.Test.YtlnenbbmhidjeaaDoorTie
import Derived.Test.YtlnenbbmhidjeaaDoorCards
import Derived.ProofKit
import Derived.LaidMore
import Derived.OpenShut
import Derived.Stop.Joined
set_option linter.unusedSimpArgs false
set_option linter.unusedVariables false
namespace Go.Proofs.YtlnenbbmhidjeaaDoor.Am
open Go Go.RowKit Go.Proofs
open AV renaming agg → Zbk, bad → Zat, d → Zaf, fn → Zcy, ptr → Zde
open BIf renaming of → Zas, t → Zcq
open Bool renaming and_eq_true → Zag
open CallsOk renaming cons → Zah, nil → Zao
open Go.Code renaming loop → Zbw
open Dv renaming sl → Zax
open Env renaming mapped → Zcx
open Int renaming toNat → Zbf
open Go.IntKind renaming i64 → Zck, wrap → Zab
open LeH renaming refl → Zby
open List renaming length → Zae, replicate → Zan
open PCall renaming ofFn → Zbo, ofFnW → Zdd
open SCallsOk renaming cons → Zcg, nil → Zal
open Go.Value renaming map → Zbq
open WR renaming ofMask → Zco
open WordS renaming ch → Zdn, ki → Zcs, no → Zcm, st → Zcl
variable {β:Type} (wl:WLT β) (y:YieldT β) (b:β) (R:AV→β→Prop) (RS:AV→List Blk→β→Prop) (K:Exit→List AV→List Blk→β→Prop) (Kh:Exit→List Blk→β→Prop) (Q:β→Prop)
open AV (bad)
set_option linter.unusedVariables false
set_option maxRecDepth 20000
set_option maxHeartbeats 1000000
def tabH (hs:List HalfS):List HalfS:=hs.foldl (fun t h=>putH h t) []
theorem insH_len (h:HalfS) (l:List HalfS):(insH h l).length=l.length+1:=by
 induction l with
 |nil=>rfl
 |cons x r ih=>simp only [insH];split<;>simp [ih]
theorem putH_len (h:HalfS) (l:List HalfS):(putH h l).length≤l.length+1:=by
 rw [putH,insH_len]
 exact Nat.succ_le_succ (List.length_filter_le _ _)
theorem tabH_len (hs:List HalfS):(tabH hs).length≤hs.length:=by
 have key:∀(l t:List HalfS),(l.foldl (fun t h=>putH h t) t).length≤t.length+l.length:=by
   intro l
   induction l with
   |nil=>intro t;simp
   |cons x r ih=>intro t;have:=ih (putH x t);have:=putH_len x t;simp only [List.foldl_cons,List.length_cons];omega
 simpa [tabH] using key hs []
theorem tabH_take {hs:List HalfS} {i:Nat} (h:i<hs.length):tabH (hs.take (i+1))=putH (nthH hs i) (tabH (hs.take i)):=by
 rw [List.take_succ_eq_append_getElem h,tabH,List.foldl_append]
 simp [nthH,h,tabH]
theorem THr_ok:CallsOk Tryd.prog THr:=Zah cNone_ok Zao
theorem spX_ok {T:List (Nat×(List AV→(AV→Prop)→Prop))} {C:MCT SpG} (hT:CallsOk Tryd.prog T) (hC:MCTok C) (lent:List Nat) (N:Nat) (w0:World):
   CX.Ok (Zcx Tryd.prog none N w0 lent spF) ⟨T, [],wlSp T C,fun _ _ _=>False,false⟩:=
 CX.Ok.ofWl (Ev:=Zcx Tryd.prog none N w0 lent spF) hT Zal (wlSp_ok hT hC lent N w0)
theorem wrHr {N:Nat} {w0:World} {lent:List Nat} {Q:Exit→St SpG→Prop} (hs:List HalfS) (d:Nat) (w:WordS) (fr:Int) (hv:∀i,i<hs.length→InI (nthH hs i).st) (hl:hs.length<1000000)
   (hQ:∀i:Int,Q (.exit 0) ⟨tmHr hs hs.length i, [wordB w,deskB d fr],some (d,tabH hs)⟩):∀(m i:Nat),i+m=hs.length→
   WR (Zcx Tryd.prog none N w0 lent spF) lpHr (m+1) ⟨tmHr hs hs.length i, [wordB w,deskB d fr],some (d,tabH (hs.take i))⟩ Q
 | 0,i,hi=>by
   have hi:i=hs.length:=by omega
   subst hi
   refine Zco [6,8,9,10,44,45,46] mixed (spX_ok THr_ok MCTok.nil lent N w0) (k:=100) ?_
   refine Eq.mpr (rHr _ _ d _ hs w fr hs.length _) ?_
   rw [List.take_length]
   exact BIf.f (by simp) (hQ _)
 | m+1,i,hi=>by
   refine Zco [6,8,9,10,44,45,46] mixed (spX_ok THr_ok MCTok.nil lent N w0) (k:=100) ?_
   refine Eq.mpr (rHr _ _ d _ hs w fr hs.length i) ?_
   rw [Int.toNat_natCast,rowsH_at (by omega:i<hs.length),wrapN (by omega)]
   have hlen:(tabH (hs.take i)).length<1000000:=by have:=tabH_len (hs.take i);simp at this;omega
   refine Zcq (by simp;omega) (Zcq (by simp) ⟨_,_,_,_,_,_,rfl,rfl,d,_,_,nthH hs i,rfl,rfl,rfl,rfl,hv i (by omega),hlen,rfl, ?_⟩)
   rw [←tabH_take (by omega)]
   exact wrHr hs d w fr hv hl hQ m (i+1) (by omega)
def cAsked (args:List AV) (g:SpG) (K:AV→SpG→Prop):Prop:=∃(d:Nat) (hs hs':List HalfS) (e fr:Int) (w:WordS),args= [.agg [mapA d, .d (i64 fr)],wordA w]∧g=some (d,hs)∧(InI w.st∧hs.length<1000000∧e=(askedS hs fr w).1∧hs'=(askedS hs fr w).2)∧K (.d (i64 e)) (some (d,hs'))
def cProved (args:List AV) (g:SpG) (K:AV→SpG→Prop):Prop:=∃(d:Nat) (hs hs':List HalfS) (e fr:Int) (w:WordS),args= [.agg [mapA d, .d (i64 fr)],wordA w]∧g=some (d,hs)∧(InI w.st∧hs.length<1000000∧e=(provedS hs w).1∧hs'=(provedS hs w).2)∧K (.d (i64 e)) (some (d,hs'))
theorem cAsked_ok:∀args g K,cAsked args g K→∃R,MCall Tryd.prog spF 30 args g R∧∀x g',R x g'→K x g':=by
 rintro _ _ K ⟨d,hs,_,_,fr,w,rfl,rfl,⟨hw,hl,rfl,rfl⟩,hk⟩
 exact ⟨_,mcAsked d hs fr w hw hl,by rintro x g' ⟨rfl,rfl⟩;exact hk⟩
theorem cProved_ok:∀args g K,cProved args g K→∃R,MCall Tryd.prog spF 31 args g R∧∀x g',R x g'→K x g':=by
 rintro _ _ K ⟨d,hs,_,_,fr,w,rfl,rfl,⟨hw,hl,rfl,rfl⟩,hk⟩
 exact ⟨_,mcProved d hs fr w hw hl,by rintro x g' ⟨rfl,rfl⟩;exact hk⟩
noncomputable def lpH2:Code:=sub [1,1,1,1,0,1,2,3] (code Tryd.f11)
def fnA (k:Nat):AV:= .fn (.func k) [] []
def TH2:List (Nat×(List AV→(AV→Prop)→Prop)):= [(4000013,cNone),(4000016,cNone)]
def tmH2 (i:Int):List AV:= [.bad, .bad, .bad, .bad, .bad, .bad, .ptr 0 0, .bad, .d (.s (.slice none 0 0)), .d (i64 0), .ptr 1 0]++Zan 47 .bad++ [.agg [.d (i64 1),fnA 30, .d (i64 3),fnA 31], .d (i64 i)]++Zan 19 .bad
open Go.Maps (Keyed)
variable {β:Type} (wl:WLT β) (y:YieldT β) (b:β) (R:AV→β→Prop) (RS:AV→List Blk→β→Prop) (K:Exit→List AV→List Blk→β→Prop) (Q:β→Prop)
def boxB (d:Nat):Blk:=⟨[mapA d],false,false,0⟩
theorem keys_nf (d:Nat):wpFnS Tryd.prog ⟨[], [],wl,y,false⟩ 100 Tryd.f51 [mapA d] b RS=(RS (Zcy (Fn.func 60) [] [Zde 0 0]) [cell (Dv.s (Zbq (some d)))] b):=by kernel_rfl
theorem fcKeys (d:Nat):FCall Tryd.prog 51 [mapA d] (.fn (.func 60) [] [.ptr 0 0]) [boxB d]:=by
 refine FCall.ofFnW (n:=100) (u:=false) wlNo mixed Zao Zal (fun Ev=>wlNo_ok Ev) Tryd.func51 (by rfl) (by rfl) (by rfl) fun Ev bb=> ?_
 rw [keys_nf]
 exact ⟨rfl,rfl⟩
def sKeys (args:List AV) (hp:List Blk) (K:AV→List Blk→Prop):Prop:=∃(d:Nat),args= [mapA d]∧K (.fn (.func 60) [] [.ptr hp.length 0]) (hp++ [boxB d])
theorem sKeys_ok:∀args hp K,sKeys args hp K→∃x hp',SCall Tryd.prog 51 args hp x hp'∧K x hp':=by
 rintro _ hp K ⟨d,rfl,h⟩
 have:=(fcKeys d).toS rfl hp
 simp only [shift,shifts,shiftH,List.map_cons,List.map_nil,shiftB,Nat.add_zero,boxB,mapA] at this
 exact ⟨_,_,this,h⟩
def TLf:List (Nat×(List AV→(AV→Prop)→Prop)):= [(4000002,cNone)]
theorem TLf_ok:CallsOk Tryd.prog TLf:=Zah cNone_ok Zao
def ULf:List (Nat×(List AV→List Blk→(AV→List Blk→Prop)→Prop)):= [(51,sKeys)]
theorem ULf_ok:SCallsOk Tryd.prog ULf:=by
 intro k f h args hp K hf
 simp only [ULf,List.lookup_cons,List.lookup_nil] at h
 split at h
 · rename_i he
   cases h;rw [eq_of_beq he];exact sKeys_ok args hp K hf
 · cases h
def spS:MHook SpG:=fun o s g K=>match o.op with
 | .call c=>match c.callee with
   | .value _=>match opCall s.tm o with
     | some (k,args)=>if Nat.beq k 50 then match args with
       | [.fn (.func kk) [] [.ptr q 0]]=>if Nat.beq kk 60 then some (∃(d:Nat) (hs:List HalfS) (ks:List Int),g=some (d,hs)∧s.hp[q]? =some (boxB d)∧(hs.length<1000000∧ks=sortK (entH hs))∧K {tm:=putA s.tm o.dst (.d (.sl 1 (rowsI ks))),hp:=s.hp,pv:=pvPut s.pv o.dst} g) else none
       |_=>none
       else none
     |none=>none
   |_=>spM [] o s g K
 |_=>spM [] o s g K
theorem spS_ok (hsk:SortedKeys Tryd.prog 50 60 3) (N:Nat) (w0:World) (lent:List Nat):MOk (Zcx Tryd.prog none N w0 lent spF) spS:=by
 intro o s g K p hp h
 unfold spS at hp
 split at hp
 · rename_i c ho
   split at hp
   · split at hp
     · rename_i k args hc
       split at hp
       · rename_i hk
         split at hp
         · rename_i kk q
           split at hp
           · rename_i hkk
             cases hp
             obtain ⟨d,hs,_,rfl,hq,⟨hl,rfl⟩,hK⟩:=h
             have hk:=Nat.eq_of_beq_eq_true hk
             have hkk:=Nat.eq_of_beq_eq_true hkk
             subst hk;subst hkk
             refine ⟨_,sortedKeys_env (g:=some (d,hs)) (c:=⟨d,3,entH hs⟩) hsk hc hq rfl spF_mem (by simp [entH];omega), ?_⟩
             rintro s' g' ⟨rfl,rfl⟩
             exact hK
           · cases hp
         · cases hp
       · cases hp
     · cases hp
   · exact spM_ok MCTok.nil N w0 lent o s g K p hp h
 · exact spM_ok MCTok.nil N w0 lent o s g K p hp h
noncomputable def lpLi:Code:=sub [1,1,0,1,2,3] (code Tryd.f32)
def tmLi (d:Nat) (ks:List (List Dv)) (acc:AV) (n i:Int):List AV:= [mapA d, .bad, .bad,acc, .bad, .bad, .bad, .bad, .d (.sl 1 ks), .d (i64 n), .d (i64 i)]++Zan 11 .bad
def TLi:List (Nat×(List AV→(AV→Prop)→Prop)):= [(4000005,cNone)]
theorem TLi_ok:CallsOk Tryd.prog TLi:=Zah cNone_ok Zao
section
variable (y:YieldT SpG) (K:Exit→List AV→List Blk→SpG→Prop)
abbrev Qz22 (v0:HalfS):= [[i64 (HalfS.st v0),i64 (HalfS.no v0),i64 (HalfS.ch v0),i64 (HalfS.un v0),bo (HalfS.pr v0),i64 (HalfS.ke v0)]]
theorem rLi (d:Nat) (hs:List HalfS) (ks xs:List (List Dv)) (n i:Int):wpc Tryd.prog ⟨TLi, [],wlSp TLi [],y,false⟩ 100 lpLi (tmLi d ks (.own 40 6 xs) n i) [boxB d] (some (d,hs)) (maskK 1 [0,3,8,9,10] K)=(BIf (decide (i<n)) (BIf (true&&decide (0≤i)) (∃(x0:Int),ks[Zbf i]? =some [i64 x0]∧59=59∧∃(d3:Nat) (hs4:List HalfS) (k5:Int) (h6:HalfS) (z7:Bool),some (d,hs)=some (d3,hs4)∧Zaf (Dv.s (Zbq (some d)))=Zaf (Dv.s (Zbq (some d3)))∧Zaf (i64 x0)=Zaf (i64 k5)∧InI k5∧(h6=getH k5 hs4∧z7=hasH k5 hs4)∧BIf (true&&decide ((Zae xs+1)*48≤140737488355328)) (K .normal (Zaf (Dv.s (Zbq (some d)))::Zat::Zat::AV.own 40 6 (xs++(Qz22 h6))::bds 4 (Zaf (Zax 1 ks)::Zaf (i64 n)::Zaf (i64 (Zab .i64 (i+1)))::bds 11 [])) [cell (Dv.s (Zbq (some d)))] (some (d,hs))) False) False) (K (Exit.exit 0) (Zaf (Dv.s (Zbq (some d)))::Zat::Zat::AV.own 40 6 xs::bds 4 (Zaf (Zax 1 ks)::Zaf (i64 n)::Zaf (i64 i)::bds 11 [])) [cell (Dv.s (Zbq (some d)))] (some (d,hs)))):=by kernel_rfl
end
theorem rowsI_at {ks:List Int} {i:Nat} {x:Int} (h:ks[i]? =some x):(rowsI ks)[i]? =some [i64 x]:=by
 simp only [rowsI,List.getElem?_map,h];rfl
theorem rowsI_len (ks:List Int):(rowsI ks).length=ks.length:=by simp [rowsI]
theorem rowsH_app (a:List HalfS) (h:HalfS):rowsH a++ [halfR h]=rowsH (a++ [h]):=by simp [rowsH]
def getsH (ks:List Int) (hs:List HalfS):List HalfS:=ks.map fun k=>getH k hs
theorem wrLi {N:Nat} {w0:World} {lent:List Nat} {Q:Exit→St SpG→Prop} (d:Nat) (hs:List HalfS) (ks:List Int) (hk:∀k∈ks,InI k) (hl:ks.length<1000000):
   ∀(rest:List Int) (k:Nat) (acc:List HalfS),ks.drop k=rest→k≤ks.length→acc.length≤k→(∀i:Int,Q (.exit 0) ⟨tmLi d (rowsI ks) (.own 40 6 (rowsH (acc++getsH rest hs))) ks.length i, [boxB d],some (d,hs)⟩)→
   WR (Zcx Tryd.prog none N w0 lent spF) lpLi (rest.length+1) ⟨tmLi d (rowsI ks) (.own 40 6 (rowsH acc)) ks.length k, [boxB d],some (d,hs)⟩ Q
 | [],k,acc,hd,hk1,ha,h=>by
   refine Zco [0,3,8,9,10] mixed (spX_ok TLi_ok MCTok.nil lent N w0) (k:=100) ?_
   refine Eq.mpr (rLi _ _ d hs _ _ _ _) ?_
   have:=drop_nil hd
   have h:=h k
   rw [getsH,List.map_nil,List.append_nil] at h
   exact BIf.f (by simp;omega) h
 | x::rest,k,acc,hd,hk1,ha,h=>by
   refine Zco [0,3,8,9,10] mixed (spX_ok TLi_ok MCTok.nil lent N w0) (k:=100) ?_
   refine Eq.mpr (rLi _ _ d hs _ _ _ _) ?_
   obtain ⟨hk',hr,hd'⟩:=drop_cons hd
   refine Zcq (by simp;omega) (Zcq (by simp) ⟨x,by rw [Int.toNat_natCast];exact rowsI_at hr,rfl,d,hs,x,getH x hs,_,rfl,rfl,rfl,hk x (List.mem_of_getElem? hr),⟨rfl,rfl⟩,Zcq (by simp [rowsH];omega) ?_⟩)
   have e:rowsH acc++ [[i64 (getH x hs).st,i64 (getH x hs).no,i64 (getH x hs).ch,i64 (getH x hs).un,bo (getH x hs).pr,i64 (getH x hs).ke]]=rowsH (acc++ [getH x hs]):=rowsH_app _ _
   rw [e,wrap_succ hk' (by omega)]
   refine wrLi d hs ks hk hl rest (k+1) (acc++ [getH x hs]) hd' hk' (by simp;omega) fun i=> ?_
   have h:=h i
   rw [getsH,List.map_cons] at h
   rw [List.append_assoc];exact h
def wlLi:WLT SpG:=fun c tm hp g K=>∃(d:Nat) (hs out:List HalfS) (ks:List Int),c= .loop lpLi∧maskTm [0,3,8,9,10] 0 tm=tmLi d (rowsI ks) (.d (.s (.slice none 0 0))) (rowsI ks).length 0∧hp= [boxB d]∧g=some (d,hs)∧
 ((∀k∈ks,InI k)∧ks.length<1000000∧out=getsH ks hs)∧∀i:Int,K (.exit 0) (tmLi d (rowsI ks) (.own 40 6 (rowsH out)) ks.length i) [boxB d] (some (d,hs))
theorem wlLi_ok (N:Nat) (w0:World) (lent:List Nat) (c:Code) (tm:List AV) (hp:List Blk) (b:SpG) (K:Exit→List AV→List Blk→SpG→Prop) (h:wlLi c tm hp b K):W (Zcx Tryd.prog none N w0 lent spF) c ⟨tm,hp,b⟩ (fun e s=>K e s.tm s.hp s.b):=by
 obtain ⟨d,hs,_,ks,rfl,htm,rfl,rfl,⟨h1,h2,rfl⟩,hK⟩:=h
 rw [rowsI_len] at htm
 refine W.cast (htm▸maskTm_le _ tm 0) (Zby _) ?_
 refine W.cast (tm':=tmLi d (rowsI ks) (.own 40 6 (rowsH [])) ks.length 0) (LeL.at [_,_,_] _ (LeA.nilOwn rfl)) (Zby _) ?_
 exact W.rounds (wrLi (Q:=fun e s=>K e s.tm s.hp s.b) d hs ks h1 h2 ks 0 [] rfl (Nat.zero_le _) (Nat.zero_le _) hK)
def wlLf:WLT SpG:=wlM Tryd.prog ⟨TLf,ULf,fun _ _ _ _ _=>False,fun _ _ _=>False,false⟩ spS wlLi
theorem wlLf_ok (hsk:SortedKeys Tryd.prog 50 60 3) (lent:List Nat) (N:Nat) (w0:World):∀c tm hp b K,wlLf c tm hp b K→W (Zcx Tryd.prog none N w0 lent spF) c ⟨tm,hp,b⟩ (fun e s=>K e s.tm s.hp s.b):=
 wlM_ok (Ev:=Zcx Tryd.prog none N w0 lent spF) mixed (CX.Ok.ofWl (Ev:=Zcx Tryd.prog none N w0 lent spF) TLf_ok ULf_ok fun _ _ _ _ _ h=>h.elim) (spS_ok hsk N w0 lent) (wlLi_ok N w0 lent)
section
variable (R:AV→SpG→Prop)
theorem list_nf (d:Nat) (hs:List HalfS):wpFn Tryd.prog ⟨TLf,ULf,wlLf,fun _ _ _=>False,false⟩ 100 Tryd.f32 [mapA d] (some (d,hs)) R=(∃(d0:Nat), [Zaf (Dv.s (Zbq (some d)))]= [Zaf (Dv.s (Zbq (some d0)))]∧∃(d1:Nat) (hs2:List HalfS) (ks3:List Int),some (d,hs)=some (d1,hs2)∧some (cell (Dv.s (Zbq (some d0))))=some (cell (Dv.s (Zbq (some d1))))∧(Zae hs2<1000000∧ks3=List.mergeSort (List.map (fun (p4:Lit×AV)=>Go.intOf (Prod.fst p4)) (entH hs2)) leI)∧∃(d5:Nat) (hs6:List HalfS) (out7:List HalfS) (ks8:List Int),Zbw lpLi=Zbw lpLi∧(Zaf (Dv.s (Zbq (some d)))::Zat::Zat::Zaf (Dv.s (.slice none 0 0))::bds 4 (Zaf (Zax 1 (List.map (fun (k9:Int)=> [i64 k9]) ks3))::Zaf (i64 ((Zae (List.map (fun (k10:Int)=> [i64 k10]) ks3):Nat):Int))::Zaf (i64 0)::bds 11 []))=(Zaf (Dv.s (Zbq (some d5)))::Zat::Zat::Zaf (Dv.s (.slice none 0 0))::bds 4 (Zaf (Zax 1 (List.map (fun (k11:Int)=> [i64 k11]) ks8))::Zaf (i64 ((Zae (List.map (fun (k12:Int)=> [i64 k12]) ks8):Nat):Int))::Zaf (i64 0)::bds 11 []))∧ [cell (Dv.s (Zbq (some d0)))]= [cell (Dv.s (Zbq (some d5)))]∧some (d,hs)=some (d5,hs6)∧((∀(k:Int),k∈ks8→InI k)∧Zae ks8<1000000∧out7=getsH ks8 hs6)∧∀(i:Int),R (.d (Zax 6 (rowsH out7))) (some (d5,hs6))):=by kernel_rfl
end
end Go.Proofs.YtlnenbbmhidjeaaDoor.Am
namespace Go.Proofs.YtlnenbbmhidjeaaDoor.Am
open Go Go.RowKit Go.Proofs Go.Shelf Go.Sort Go.Maps
open AV renaming agg → Zbk, bad → Zat, d → Zaf, fn → Zcy, ptr → Zde
open BIf renaming of → Zas, t → Zcq
open Bool renaming and_eq_true → Zag
open CallsOk renaming cons → Zah, nil → Zao
open Go.Code renaming loop → Zbw
open Dv renaming sl → Zax
open Env renaming mapped → Zcx
open Int renaming toNat → Zbf
open Go.IntKind renaming i64 → Zck, wrap → Zab
open LeH renaming refl → Zby
open List renaming length → Zae, replicate → Zan
open PCall renaming ofFn → Zbo, ofFnW → Zdd
open SCallsOk renaming cons → Zcg, nil → Zal
open Go.Value renaming map → Zbq
open WR renaming ofMask → Zco
open WordS renaming ch → Zdn, ki → Zcs, no → Zcm, st → Zcl
variable {β:Type} (R:AV→β→Prop) (K:Exit→List AV→List Blk→β→Prop)
open AV (bad)
set_option linter.unusedVariables false
set_option maxRecDepth 20000
set_option maxHeartbeats 1000000
theorem sortsA (m:Nat):AnyZI.SortsIn Tryd.prog Tryd.sortedA_ren Fence.wide m:=
 ⟨fun blk off cap ss W hH hblk hsz=>callsIn_wide.2 (AnyM.slices_Sort_int Tryd.sortA blk off cap ss W hH hblk hsz),
  fun p cap W=>callsIn_wide.2 (AnyM.slices_Sort_int_none Tryd.sortA p cap W)⟩
theorem sk50:SortedKeys Tryd.prog 50 60 3:=by
 refine ⟨enters_of Tryd.func50 (by kernel_rfl) rfl,fun Bm d n L w hBm hm hown hL=> ?_⟩
 have hseq:SeqGives Fence.wide 2 Tryd.prog 60 #[.pointer (some ⟨Bm,0,none⟩)] encZ (fun ss=>ss.Perm (intKeys (DataW.map L))) (Maps.size (DataW.map L)) w:=
   AnyZI.keys_gives (ρ:=Tryd.keysA_ren) {Tryd.keysA with} Fence.wide _ trivial rfl (by omega) Bm d n (DataW.map L) w hBm hm hown
 have cS:=AnyZI.sorted_in Tryd.sortedA Fence.wide 5 trivial trivial trivial trivial rfl (by omega) (sortsA _) (enters_of Tryd.func59 (by kernel_rfl) rfl) 60 #[.pointer (some ⟨Bm,0,none⟩)] trivial (enters_of Tryd.func60 (by kernel_rfl) rfl) _ _ (by rw [Maps.size_eq];unfold maxLen;omega) (by rw [Maps.size_eq];omega) _ hseq
 change CallsIn _ _ Tryd.prog 50 _ _ _ at cS
 refine callsIn_wide.2 (Calls.mono (callsIn_wide.1 cS) ?_)
 rintro e w' ⟨v,ss,rfl,hS,hrow,hnil,hb⟩
 exact ⟨v,ss,rfl,hS,hrow,hb⟩
def listS (hs:List HalfS):List HalfS:=getsH (sortK (entH hs)) hs
theorem sortK_len (es:MC):(sortK es).length=es.length:=by simp [sortK]
theorem mem_sortK {hs:List HalfS} {k:Int} (h:k∈sortK (entH hs)):∃x∈hs,x.st=k:=by
 simp only [sortK,List.mem_mergeSort,entH,List.map_map,List.mem_map] at h
 obtain ⟨x,h1,h2⟩:=h
 exact ⟨x,h1,h2⟩
theorem mcList (d:Nat) (hs:List HalfS) (hk:∀h∈hs,InI h.st) (hl:hs.length<1000000):MCall Tryd.prog spF 32 [mapA d] (some (d,hs)) fun x g=>x= .d (.sl 6 (rowsH (listS hs)))∧g=some (d,hs):=by
 refine MCall.ofFn (n:=100) (u:=false) wlLf mixed TLf_ok ULf_ok (fun N w0=>wlLf_ok sk50 _ N w0) Tryd.func32 (by rfl) (by rfl) ?_
 rw [list_nf]
 refine ⟨d,rfl,d,hs,sortK (entH hs),rfl,rfl,⟨hl,rfl⟩,d,hs,_,sortK (entH hs),rfl,rfl,rfl,rfl,⟨fun k h=> ?_,by rw [sortK_len];simpa [entH] using hl,rfl⟩,fun i=>⟨rfl,rfl⟩⟩
 obtain ⟨x,h1,rfl⟩:=mem_sortK h
 exact hk x h1
def cList (args:List AV) (g:SpG) (K:AV→SpG→Prop):Prop:=∃(d:Nat) (hs out:List HalfS),args= [mapA d]∧g=some (d,hs)∧((∀h∈hs,InI h.st)∧hs.length<1000000∧out=listS hs)∧K (.d (.sl 6 (rowsH out))) (some (d,hs))
theorem cList_ok:∀args g K,cList args g K→∃R,MCall Tryd.prog spF 32 args g R∧∀x g',R x g'→K x g':=by
 rintro _ _ K ⟨d,hs,_,rfl,rfl,⟨h1,h2,rfl⟩,hk⟩
 exact ⟨_,mcList d hs h1 h2,by rintro x g' ⟨rfl,rfl⟩;exact hk⟩
end Go.Proofs.YtlnenbbmhidjeaaDoor.Am
namespace Go.Proofs.YtlnenbbmhidjeaaDoor.Am
open Go Go.RowKit Go.Proofs
open AV renaming agg → Zbk, bad → Zat, d → Zaf, fn → Zcy, ptr → Zde
open BIf renaming of → Zas, t → Zcq
open Bool renaming and_eq_true → Zag
open CallsOk renaming cons → Zah, nil → Zao
open Go.Code renaming loop → Zbw
open Dv renaming sl → Zax
open Env renaming mapped → Zcx
open Int renaming toNat → Zbf
open Go.IntKind renaming i64 → Zck, wrap → Zab
open LeH renaming refl → Zby
open List renaming length → Zae, replicate → Zan
open PCall renaming ofFn → Zbo, ofFnW → Zdd
open SCallsOk renaming cons → Zcg, nil → Zal
open Go.Value renaming map → Zbq
open WR renaming ofMask → Zco
open WordS renaming ch → Zdn, ki → Zcs, no → Zcm, st → Zcl
variable {β:Type} (wl:WLT β) (y:YieldT β) (b:β) (R:AV→β→Prop) (RS:AV→List Blk→β→Prop) (K:Exit→List AV→List Blk→β→Prop) (Q:β→Prop)
open AV (bad)
set_option linter.unusedVariables false
set_option maxRecDepth 20000
set_option maxHeartbeats 1000000
def nodeJ (n:Int):Bool:=decide (n≥0)&&decide (n<60)
def ownK (n:Int):Int:=if nodeJ n=true then Zab Zck (1000000+n) else 0
def ownE (n:Int):Int:=if nodeJ n=true then 0 else 1
theorem nodeJ_nf (n:Int):wpFn Tryd.prog ⟨[], [],wl,y,false⟩ 100 Tryd.f45 [.d (i64 n)] b R=(BIf (decide (n≥(0:Int))) (R (Zaf (bo (decide (n<(60:Int))))) b) (R (Zaf (bo false)) b)):=by kernel_rfl
theorem number_nf (n:Int):wpFn Tryd.prog ⟨[], [],wl,y,false⟩ 100 Tryd.f103 [.d (i64 n)] b R=(R (Zaf (i64 (Zab Zck ((1000000:Int)+n)))) b):=by kernel_rfl
theorem pcNodeJ (n:Int):PCall Tryd.prog 45 [.d (i64 n)] (.d (bo (nodeJ n))):=by
 refine Zbo (n:=100) (u:=false) mixed Zao Zal Tryd.func45 (by rfl) (by rfl) fun Ev bb=> ?_
 rw [nodeJ_nf]
 exact Zas (fun h1=>by rw [nodeJ,h1];rfl) fun h1=>by rw [nodeJ,h1];rfl
def cNodeJ (args:List AV) (K:AV→Prop):Prop:=∃(n:Int) (z:Bool),args= [.d (i64 n)]∧z=nodeJ n∧K (.d (bo z))
theorem cNodeJ_ok:∀args K,cNodeJ args K→∃x,PCall Tryd.prog 45 args x∧K x:=by
 rintro _ K ⟨n,_,rfl,rfl,hk⟩;exact ⟨_,pcNodeJ n,hk⟩
theorem pcNumber (n:Int):PCall Tryd.prog 103 [.d (i64 n)] (.d (i64 (Zab Zck (1000000+n)))):=by
 refine Zbo (n:=100) (u:=false) mixed Zao Zal Tryd.func103 (by rfl) (by rfl) fun Ev bb=> ?_
 rw [number_nf]
def cNumber (args:List AV) (K:AV→Prop):Prop:=∃(n z:Int),args= [.d (i64 n)]∧z=Zab Zck (1000000+n)∧K (.d (i64 z))
theorem cNumber_ok:∀args K,cNumber args K→∃x,PCall Tryd.prog 103 args x∧K x:=by
 rintro _ K ⟨n,_,rfl,rfl,hk⟩;exact ⟨_,pcNumber n,hk⟩
def ownI (n:Int):AV:= .d (.s (.iface 91 (.int .i64 n)))
def TCk:List (Nat×(List AV→(AV→Prop)→Prop)):= [(4000003,cNone)]
theorem TCk_ok:CallsOk Tryd.prog TCk:=Zah cNone_ok Zao
def ICk:List (Nat×(List AV→(AV→Prop)→Prop)):= [(103,cNumber)]
theorem ICk_ok:CallsOk Tryd.prog ICk:=Zah cNumber_ok Zao
def wlCk {β:Type} (y:YieldT β):WLT β:=wlI Tryd.prog TCk ICk y fun _ _ _ _ _=>False
theorem checked_nf (n:Int) (z:Bool):wpFn Tryd.prog ⟨TCk, [],wlCk y,y,false⟩ 100 Tryd.f56 [ownI n, .d (bo z)] b R=(BIf (!z) (R (.tup [Zaf (i64 0),Zaf (i64 1)]) b) (true=true∧∃(n0:Int) (z1:Int), [Zaf (i64 n)]= [Zaf (i64 n0)]∧z1=Zab .i64 ((1000000:Int)+n0)∧R (.tup [Zaf (i64 z1),Zaf (i64 0)]) b)):=by kernel_rfl
theorem pcChecked (n:Int) (z:Bool):PCall Tryd.prog 56 [ownI n, .d (bo z)] (.tup [.d (i64 (if z=true then Zab Zck (1000000+n) else 0)), .d (i64 (if z=true then 0 else 1))]):=by
 refine PCall.ofFnE (n:=100) (u:=false) (fun Ev=>wlCk Ev.Y) mixed TCk_ok Zal (fun Ev=>wlI_ok mixed TCk_ok ICk_ok fun _ _ _ _ _ h=>h.elim) Tryd.func56 (by rfl) (by rfl) fun Ev bb=> ?_
 rw [checked_nf]
 cases z with
 |true=>exact BIf.f rfl ⟨rfl,n,_,rfl,rfl,rfl⟩
 |false=>exact Zcq rfl rfl
def cChecked (args:List AV) (K:AV→Prop):Prop:=∃(n k e:Int) (z:Bool),args= [ownI n, .d (bo z)]∧(k=(if z=true then Zab Zck (1000000+n) else 0)∧e=(if z=true then 0 else 1))∧K (.tup [.d (i64 k), .d (i64 e)])
theorem cChecked_ok:∀args K,cChecked args K→∃x,PCall Tryd.prog 56 args x∧K x:=by
 rintro _ K ⟨n,_,_,z,rfl,⟨rfl,rfl⟩,hk⟩;exact ⟨_,pcChecked n z,hk⟩
def TOw:List (Nat×(List AV→(AV→Prop)→Prop)):= [(56,cChecked)]
theorem TOw_ok:CallsOk Tryd.prog TOw:=Zah cChecked_ok Zao
theorem own_nf (n:Int):wpFn Tryd.prog ⟨TOw, [],wl,y,false⟩ 100 Tryd.f47 [.d (i64 n)] b R=(BIf (decide (n≥(0:Int))) (∃(n0:Int) (k1:Int) (e2:Int) (z3:Bool), [Zaf (Dv.s (Value.iface 91 (Value.int Zck n))),Zaf (bo (decide (n<(60:Int))))]= [Zaf (Dv.s (Value.iface 91 (Value.int Zck n0))),Zaf (bo z3)]∧((k1=if z3=true then Zab .i64 ((1000000:Int)+n0) else (0:Int))∧e2=if z3=true then (0:Int) else (1:Int))∧R (.tup [Zaf (i64 k1),Zaf (i64 e2)]) b) (∃(n4:Int) (k5:Int) (e6:Int) (z7:Bool), [Zaf (Dv.s (Value.iface 91 (Value.int Zck n))),Zaf (bo false)]= [Zaf (Dv.s (Value.iface 91 (Value.int Zck n4))),Zaf (bo z7)]∧((k5=if z7=true then Zab .i64 ((1000000:Int)+n4) else (0:Int))∧e6=if z7=true then (0:Int) else (1:Int))∧R (.tup [Zaf (i64 k5),Zaf (i64 e6)]) b)):=by kernel_rfl
theorem pcOwn (n:Int):PCall Tryd.prog 47 [.d (i64 n)] (.tup [.d (i64 (ownK n)), .d (i64 (ownE n))]):=by
 refine Zbo (n:=100) (u:=false) mixed TOw_ok Zal Tryd.func47 (by rfl) (by rfl) fun Ev bb=> ?_
 rw [own_nf]
 refine Zas (fun h1=>⟨n,_,_,_,rfl,⟨rfl,rfl⟩, ?_⟩) fun h1=>⟨n,_,_,_,rfl,⟨rfl,rfl⟩, ?_⟩
 · rw [ownK,ownE,nodeJ,h1];rfl
 · rw [ownK,ownE,nodeJ,h1];rfl
def cOwn (args:List AV) (K:AV→Prop):Prop:=∃(n k e:Int),args= [.d (i64 n)]∧(k=ownK n∧e=ownE n)∧K (.tup [.d (i64 k), .d (i64 e)])
theorem cOwn_ok:∀args K,cOwn args K→∃x,PCall Tryd.prog 47 args x∧K x:=by
 rintro _ K ⟨n,_,_,rfl,⟨rfl,rfl⟩,hk⟩;exact ⟨_,pcOwn n,hk⟩
def TFo:List (Nat×(List AV→(AV→Prop)→Prop)):= [(45,cNodeJ)]
theorem TFo_ok:CallsOk Tryd.prog TFo:=Zah cNodeJ_ok Zao
theorem formed_nf (w:WordS):wpFn Tryd.prog ⟨TFo, [],wl,y,false⟩ 100 Tryd.f48 [wordA w] b R=(∃(n0:Int) (z1:Bool), [Zaf (i64 (Zcl w))]= [Zaf (i64 n0)]∧z1=nodeJ n0∧BIf z1 (∃(n2:Int) (z3:Bool), [Zaf (i64 (WordS.sp w))]= [Zaf (i64 n2)]∧z3=nodeJ n2∧BIf z3 (BIf (Zcl w !=WordS.sp w) (∃(z4:Int),(z4=if Zdn w<Zcm w then Zdn w else Zcm w)∧BIf (decide (z4≥(0:Int))) (BIf (decide ((if Zdn w>Zcm w then Zdn w else Zcm w)≤(1000000000:Int))) (BIf (decide (Zcs w≥(1:Int))) (R (.d (bo (decide (Zcs w≤(4:Int))))) b) (R (.d (bo false)) b)) (R (.d (bo false)) b)) (R (.d (bo false)) b)) (R (.d (bo false)) b)) (R (.d (bo false)) b)) (R (.d (bo false)) b)):=by kernel_rfl
def formedW (w:WordS):Bool:=nodeJ w.st&&(nodeJ w.sp&&((w.st !=w.sp)&&(decide ((if w.ch<w.no then w.ch else w.no)≥0)&&(decide ((if w.ch>w.no then w.ch else w.no)≤1000000000)&&(decide (w.ki≥1)&&decide (w.ki≤4))))))
theorem pcFormed (w:WordS):PCall Tryd.prog 48 [wordA w] (.d (bo (formedW w))):=by
 refine Zbo (n:=100) (u:=false) mixed TFo_ok Zal Tryd.func48 (by rfl) (by rfl) fun Ev bb=> ?_
 rw [formed_nf]
 refine ⟨_,_,rfl,rfl,Zas (fun h1=>⟨_,_,rfl,rfl,Zas (fun h2=>Zas (fun h3=>⟨_,rfl,Zas (fun h4=>Zas (fun h5=>Zas (fun h6=> ?_) fun h6=> ?_) fun h5=> ?_) fun h4=> ?_⟩) fun h3=> ?_) fun h2=> ?_⟩) fun h1=> ?_⟩
 all_goals simp only [formedW, *,Bool.true_and,Bool.false_and]
def cFormed (args:List AV) (K:AV→Prop):Prop:=∃(w:WordS) (z:Bool),args= [wordA w]∧z=formedW w∧K (.d (bo z))
theorem cFormed_ok:∀args K,cFormed args K→∃x,PCall Tryd.prog 48 args x∧K x:=by
 rintro _ K ⟨w,_,rfl,rfl,hk⟩;exact ⟨_,pcFormed w,hk⟩
def TJu:List (Nat×(List AV→(AV→Prop)→Prop)):= [(48,cFormed),(47,cOwn)]
theorem TJu_ok:CallsOk Tryd.prog TJu:=Zah cFormed_ok (Zah cOwn_ok Zao)
abbrev Qz2:List AV:= [Zaf (i64 0),Zaf (i64 0),Zaf (i64 0),Zaf (i64 0),Zaf (i64 0),Zaf (i64 0),Zaf (i64 0),Zaf (i64 0)]
theorem judge_nf (w:WordS) (f n:Int):wpFn Tryd.prog ⟨TJu, [],wl,y,false⟩ 100 Tryd.f26 [wordA w, .agg [.d (i64 f), .d (i64 n)]] b R=(∃(w0:WordS) (z1:Bool), [Zbk (Qz1 w)]= [Zbk (Qz1 w0)]∧z1=formedW w0∧BIf (!z1) (R (.tup [Zbk Qz2,Zaf (i64 1)]) b) (BIf (decide (f<(0:Int))) (R (.tup [Zbk Qz2,Zaf (i64 1)]) b) (BIf (decide (f≥n)) (R (.tup [Zbk Qz2,Zaf (i64 1)]) b) (BIf (decide (n>(1000000000:Int))) (R (.tup [Zbk Qz2,Zaf (i64 1)]) b) (∃(n2:Int) (k3:Int) (e4:Int), [Zaf (i64 (Zcl w))]= [Zaf (i64 n2)]∧(k3=ownK n2∧e4=ownE n2)∧BIf (Zcs w !=(3:Int)) (R (.tup [Zbk Qz2,Zaf (i64 9)]) b) (BIf (e4 !=(0:Int)) (R (.tup [Zbk Qz2,Zaf (i64 13)]) b) (BIf (WordS.ke w !=k3) (R (.tup [Zbk Qz2,Zaf (i64 13)]) b) (R (.tup [Zbk [Zaf (i64 4),Zaf (i64 (Zcl w)),Zaf (i64 (WordS.sp w)),Zaf (i64 (Zcm w)),Zaf (i64 0),Zaf (i64 (WordS.ke w)),Zaf (i64 f),Zaf (i64 n)],Zaf (i64 0)]) b)))))))):=by kernel_rfl
def zeroW:WordS:=⟨0,0,0,0,0,0,0,0⟩
def judgeS (w:WordS) (f n:Int):WordS×Int:=
 if (!formedW w)=true then (zeroW,1) else if f<0 then (zeroW,1) else if f≥n then (zeroW,1) else if n>1000000000 then (zeroW,1)
 else if (w.ki !=3)=true then (zeroW,9) else if (ownE w.st !=0)=true then (zeroW,13) else if (w.ke !=ownK w.st)=true then (zeroW,13) else (⟨4,w.st,w.sp,w.no,0,w.ke,f,n⟩,0)
theorem pcJudge (w:WordS) (f n:Int):PCall Tryd.prog 26 [wordA w, .agg [.d (i64 f), .d (i64 n)]] (.tup [wordA (judgeS w f n).1, .d (i64 (judgeS w f n).2)]):=by
 refine Zbo (n:=100) (u:=false) mixed TJu_ok Zal Tryd.func26 (by rfl) (by rfl) fun Ev bb=> ?_
 rw [judge_nf]
 refine ⟨w,_,rfl,rfl,Zas (fun h1=> ?_) fun h1=>Zas (fun h2=> ?_) fun h2=>Zas (fun h3=> ?_) fun h3=>Zas (fun h4=> ?_) fun h4=>⟨w.st,_,_,rfl,⟨rfl,rfl⟩,Zas (fun h5=> ?_) fun h5=>Zas (fun h6=> ?_) fun h6=>Zas (fun h7=> ?_) fun h7=> ?_⟩⟩
 · rw [judgeS,if_pos h1];rfl
 · rw [judgeS,if_neg (by rw [h1];decide),if_pos (of_decide_eq_true h2)];rfl
 · rw [judgeS,if_neg (by rw [h1];decide),if_neg (of_decide_eq_false h2),if_pos (of_decide_eq_true h3)];rfl
 · rw [judgeS,if_neg (by rw [h1];decide),if_neg (of_decide_eq_false h2),if_neg (of_decide_eq_false h3),if_pos (of_decide_eq_true h4)];rfl
 all_goals rw [judgeS,if_neg (by rw [h1];decide),if_neg (of_decide_eq_false h2),if_neg (of_decide_eq_false h3),if_neg (of_decide_eq_false h4)]
 · rw [if_pos h5];rfl
 · rw [if_neg (by rw [h5];decide),if_pos h6];rfl
 · rw [if_neg (by rw [h5];decide),if_neg (by rw [h6];decide),if_pos h7];rfl
 · rw [if_neg (by rw [h5];decide),if_neg (by rw [h6];decide),if_neg (by rw [h7];decide)];rfl
def cJudge (args:List AV) (K:AV→Prop):Prop:=∃(w q:WordS) (f n e:Int),args= [wordA w, .agg [.d (i64 f), .d (i64 n)]]∧(q=(judgeS w f n).1∧e=(judgeS w f n).2)∧K (.tup [wordA q, .d (i64 e)])
theorem cJudge_ok:∀args K,cJudge args K→∃x,PCall Tryd.prog 26 args x∧K x:=by
 rintro _ K ⟨w,_,f,n,_,rfl,⟨rfl,rfl⟩,hk⟩;exact ⟨_,pcJudge w f n,hk⟩
def TIw:List (Nat×(List AV→(AV→Prop)→Prop)):= [(26,cJudge)]
theorem TIw_ok:CallsOk Tryd.prog TIw:=Zah cJudge_ok Zao
theorem isWord_nf (w:WordS):wpFn Tryd.prog ⟨TIw, [],wl,y,false⟩ 100 Tryd.f28 [wordA w] b R=(∃(w0:WordS) (q1:WordS) (f2:Int) (n3:Int) (e4:Int), [Zbk (Qz1 w),Zbk [Zaf (i64 0),Zaf (i64 1)]]= [Zbk (Qz1 w0),Zbk [Zaf (i64 f2),Zaf (i64 n3)]]∧(q1=Prod.fst (judgeS w0 f2 n3)∧e4=Prod.snd (judgeS w0 f2 n3))∧R (.d (bo (e4 !=(1:Int)))) b):=by kernel_rfl
def isWordS (w:WordS):Bool:=(judgeS w 0 1).2 !=1
theorem pcIsWord (w:WordS):PCall Tryd.prog 28 [wordA w] (.d (bo (isWordS w))):=by
 refine Zbo (n:=100) (u:=false) mixed TIw_ok Zal Tryd.func28 (by rfl) (by rfl) fun Ev bb=> ?_
 rw [isWord_nf]
 exact ⟨w,_,0,1,_,rfl,⟨rfl,rfl⟩,rfl⟩
def cIsWord (args:List AV) (K:AV→Prop):Prop:=∃(w:WordS) (z:Bool),args= [wordA w]∧z=isWordS w∧K (.d (bo z))
theorem cIsWord_ok:∀args K,cIsWord args K→∃x,PCall Tryd.prog 28 args x∧K x:=by
 rintro _ K ⟨w,_,rfl,rfl,hk⟩;exact ⟨_,pcIsWord w,hk⟩
def CH3:MCT SpG:= [(30,cAsked),(31,cProved),(32,cList)]
theorem CH3_ok:MCTok CH3:=by
 intro k f hf
 unfold CH3 at hf
 rw [List.lookup_cons] at hf
 split at hf
 · rename_i h;cases hf;rw [show k=30 by simpa using h];exact cAsked_ok
 · rw [List.lookup_cons] at hf
   split at hf
   · rename_i h;cases hf;rw [show k=31 by simpa using h];exact cProved_ok
   · rw [List.lookup_cons] at hf
     split at hf
     · rename_i h;cases hf;rw [show k=32 by simpa using h];exact cList_ok
     · cases hf
theorem TH2_ok:CallsOk Tryd.prog TH2:=Zah cNone_ok (Zah cNone_ok Zao)
section
variable (y:YieldT SpG) (K:Exit→List AV→List Blk→SpG→Prop)
abbrev Qz31 (v0:Nat) (v1:Int) (v2:WordS):List AV:= [Zbk [Zaf (Dv.s (Zbq (some v0))),Zaf (i64 v1)],Zbk (Qz1 v2)]
theorem h2r0 (d:Nat) (hs:List HalfS) (w:WordS) (fr:Int):wpc Tryd.prog ⟨TH2, [],wlSp TH2 CH3,y,false⟩ 100 lpH2 (tmH2 0) [wordB w,deskB d fr] (some (d,hs)) (maskK 2 [6,8,9,10,58,59] K)=(BIf ((1:Int) !=Zcs w) (K .normal (bds 6 (Zde 0 0::Zat::Zaf (Dv.s (.slice none 0 0))::Zaf (i64 0)::Zde 1 0::bds 47 (Zbk [Zaf (i64 1),Zcy (Fn.func 30) [] [],Zaf (i64 3),Zcy (Fn.func 31) [] []]::Zaf (i64 1)::bds 19 []))) (Qz6 w d fr) (some (d,hs))) (true=true∧∃(d0:Nat) (hs1:List HalfS) (hs2:List HalfS) (e3:Int) (fr4:Int) (w5:WordS),(Qz31 d fr w)=(Qz31 d0 fr4 w5)∧some (d,hs)=some (d0,hs1)∧(InI (Zcl w5)∧Zae hs1<1000000∧e3=Prod.fst (askedS hs1 fr4 w5)∧hs2=Prod.snd (askedS hs1 fr4 w5))∧BIf (e3 !=(0:Int)) (K .ret (bds 6 (Zde 0 0::Zat::Zaf (Dv.s (.slice none 0 0))::Zaf (i64 e3)::Zde 1 0::bds 47 (Zbk [Zaf (i64 1),Zcy (Fn.func 30) [] [],Zaf (i64 3),Zcy (Fn.func 31) [] []]::Zaf (i64 0)::bds 19 []))) (Qz6 w d fr) (some (d0,hs2))) (true=true∧∃(d6:Nat) (hs7:List HalfS) (out8:List HalfS), [Zaf (Dv.s (Zbq (some d)))]= [Zaf (Dv.s (Zbq (some d6)))]∧some (d0,hs2)=some (d6,hs7)∧((∀(h:HalfS),h∈hs7→InI (HalfS.st h))∧Zae hs7<1000000∧out8=listS hs7)∧K .ret (bds 6 (Zde 0 0::Zat::Zaf (Zax 6 (rowsH out8))::Zaf (i64 0)::Zde 1 0::bds 47 (Zbk [Zaf (i64 1),Zcy (Fn.func 30) [] [],Zaf (i64 3),Zcy (Fn.func 31) [] []]::Zaf (i64 0)::bds 19 []))) (Qz6 w d fr) (some (d6,hs7))))):=by kernel_rfl
theorem h2r1 (d:Nat) (hs:List HalfS) (w:WordS) (fr:Int):wpc Tryd.prog ⟨TH2, [],wlSp TH2 CH3,y,false⟩ 100 lpH2 (tmH2 1) [wordB w,deskB d fr] (some (d,hs)) (maskK 2 [6,8,9,10,58,59] K)=(BIf ((3:Int) !=Zcs w) (K .normal (bds 6 (Zde 0 0::Zat::Zaf (Dv.s (.slice none 0 0))::Zaf (i64 0)::Zde 1 0::bds 47 (Zbk [Zaf (i64 1),Zcy (Fn.func 30) [] [],Zaf (i64 3),Zcy (Fn.func 31) [] []]::Zaf (i64 2)::bds 19 []))) (Qz6 w d fr) (some (d,hs))) (true=true∧∃(d0:Nat) (hs1:List HalfS) (hs2:List HalfS) (e3:Int) (fr4:Int) (w5:WordS),(Qz31 d fr w)=(Qz31 d0 fr4 w5)∧some (d,hs)=some (d0,hs1)∧(InI (Zcl w5)∧Zae hs1<1000000∧e3=Prod.fst (provedS hs1 w5)∧hs2=Prod.snd (provedS hs1 w5))∧BIf (e3 !=(0:Int)) (K .ret (bds 6 (Zde 0 0::Zat::Zaf (Dv.s (.slice none 0 0))::Zaf (i64 e3)::Zde 1 0::bds 47 (Zbk [Zaf (i64 1),Zcy (Fn.func 30) [] [],Zaf (i64 3),Zcy (Fn.func 31) [] []]::Zaf (i64 1)::bds 19 []))) (Qz6 w d fr) (some (d0,hs2))) (true=true∧∃(d6:Nat) (hs7:List HalfS) (out8:List HalfS), [Zaf (Dv.s (Zbq (some d)))]= [Zaf (Dv.s (Zbq (some d6)))]∧some (d0,hs2)=some (d6,hs7)∧((∀(h:HalfS),h∈hs7→InI (HalfS.st h))∧Zae hs7<1000000∧out8=listS hs7)∧K .ret (bds 6 (Zde 0 0::Zat::Zaf (Zax 6 (rowsH out8))::Zaf (i64 0)::Zde 1 0::bds 47 (Zbk [Zaf (i64 1),Zcy (Fn.func 30) [] [],Zaf (i64 3),Zcy (Fn.func 31) [] []]::Zaf (i64 1)::bds 19 []))) (Qz6 w d fr) (some (d6,hs7))))):=by kernel_rfl
theorem h2r2 (d:Nat) (hs:List HalfS) (w:WordS) (fr:Int):wpc Tryd.prog ⟨TH2, [],wlSp TH2 CH3,y,false⟩ 100 lpH2 (tmH2 2) [wordB w,deskB d fr] (some (d,hs)) (maskK 2 [6,8,9,10,58,59] K)=(K (Exit.exit 2) (bds 6 (Zde 0 0::Zat::Zaf (Dv.s (.slice none 0 0))::Zaf (i64 0)::Zde 1 0::bds 47 (Zbk [Zaf (i64 1),Zcy (Fn.func 30) [] [],Zaf (i64 3),Zcy (Fn.func 31) [] []]::Zaf (i64 2)::bds 19 []))) (Qz6 w d fr) (some (d,hs))):=by kernel_rfl
end
theorem mem_insH {x h:HalfS} {l:List HalfS}:x∈insH h l↔x=h∨x∈l:=by
 induction l with
 |nil=>simp [insH]
 | cons y r ih=>
   simp only [insH]
   split
   · simp
   · simp only [List.mem_cons,ih]
     constructor
     · rintro (h|h|h)<;>simp [h]
     · rintro (h|h|h)<;>simp [h]
theorem mem_putH {x h:HalfS} {l:List HalfS}:x∈putH h l↔x=h∨(x∈l∧x.st≠h.st):=by
 simp [putH,mem_insH]
theorem askedS_mem {hs:List HalfS} {fr:Int} {w:WordS} {x:HalfS} (h:x∈(askedS hs fr w).2):x∈hs∨x.st=w.st:=by
 unfold askedS at h
 split at h
 · split at h
   · exact .inl h
   · split at h
     · exact .inl h
     · rcases mem_putH.1 h with rfl|⟨h,_⟩
       · exact .inr rfl
       · exact .inl h
 · split at h
   · exact .inl h
   · rcases mem_putH.1 h with rfl|⟨h,_⟩
     · exact .inr rfl
     · exact .inl h
theorem provedS_mem {hs:List HalfS} {w:WordS} {x:HalfS} (h:x∈(provedS hs w).2):x∈hs∨x.st=w.st:=by
 unfold provedS at h
 simp only at h
 split at h
 · rename_i h1
   split at h
   · exact .inl h
   · split at h
     · exact .inl h
     · rcases mem_putH.1 h with rfl|⟨h,_⟩
       · exact .inr (getH_st h1)
       · exact .inl h
 · exact .inl h
theorem askedS_len (hs:List HalfS) (fr:Int) (w:WordS):(askedS hs fr w).2.length≤hs.length+1:=by
 unfold askedS
 split
 · split
   · exact Nat.le_succ _
   · split
     · exact Nat.le_succ _
     · exact putH_len _ _
 · split
   · exact Nat.le_succ _
   · exact putH_len _ _
theorem provedS_len (hs:List HalfS) (w:WordS):(provedS hs w).2.length≤hs.length+1:=by
 unfold provedS
 simp only
 split
 · split
   · exact Nat.le_succ _
   · split
     · exact Nat.le_succ _
     · exact putH_len _ _
 · exact Nat.le_succ _
def tmH3 (l:AV) (e i:Int):List AV:= [.bad, .bad, .bad, .bad, .bad, .bad, .ptr 0 0, .bad,l, .d (i64 e), .ptr 1 0]++Zan 47 .bad++ [.agg [.d (i64 1),fnA 30, .d (i64 3),fnA 31], .d (i64 i)]++Zan 19 .bad
theorem wrH2 {N:Nat} {w0:World} {lent:List Nat} {Q:Exit→St SpG→Prop} (d:Nat) (hs:List HalfS) (w:WordS) (fr:Int) (hw:InI w.st) (hi:∀h∈hs,InI h.st) (hl:hs.length<999999)
   (hq:BIf (1 !=w.ki) (BIf (3 !=w.ki) (Q (.exit 2) ⟨tmH2 2, [wordB w,deskB d fr],some (d,hs)⟩)
     (BIf ((provedS hs w).1 !=0) (Q .ret ⟨tmH3 nilA (provedS hs w).1 1, [wordB w,deskB d fr],some (d,(provedS hs w).2)⟩) (Q .ret ⟨tmH3 (.d (.sl 6 (rowsH (listS (provedS hs w).2)))) 0 1, [wordB w,deskB d fr],some (d,(provedS hs w).2)⟩)))
     (BIf ((askedS hs fr w).1 !=0) (Q .ret ⟨tmH3 nilA (askedS hs fr w).1 0, [wordB w,deskB d fr],some (d,(askedS hs fr w).2)⟩) (Q .ret ⟨tmH3 (.d (.sl 6 (rowsH (listS (askedS hs fr w).2)))) 0 0, [wordB w,deskB d fr],some (d,(askedS hs fr w).2)⟩))):
   WR (Zcx Tryd.prog none N w0 lent spF) lpH2 3 ⟨tmH2 0, [wordB w,deskB d fr],some (d,hs)⟩ Q:=by
 have hm1:∀h∈(askedS hs fr w).2,InI h.st:=fun h hh=>(askedS_mem hh).elim (hi h) fun e=>e▸hw
 have hm2:∀h∈(provedS hs w).2,InI h.st:=fun h hh=>(provedS_mem hh).elim (hi h) fun e=>e▸hw
 have hl1:=askedS_len hs fr w
 have hl2:=provedS_len hs w
 refine Zco [6,8,9,10,58,59] mixed (spX_ok TH2_ok CH3_ok lent N w0) (k:=100) ?_
 refine Eq.mpr (h2r0 _ _ d hs w fr) ?_
 refine Zas (fun h1=> ?_) fun h1=> ?_
 · have hq:=bif_t hq h1
   refine Zco [6,8,9,10,58,59] mixed (spX_ok TH2_ok CH3_ok lent N w0) (k:=100) ?_
   refine Eq.mpr (h2r1 _ _ d hs w fr) ?_
   refine Zas (fun h2=> ?_) fun h2=> ?_
   · have hq:=bif_t hq h2
     refine Zco [6,8,9,10,58,59] mixed (spX_ok TH2_ok CH3_ok lent N w0) (k:=100) ?_
     exact Eq.mpr (h2r2 _ _ d hs w fr) hq
   · have hq:=bif_f hq h2
     refine ⟨rfl,d,hs,_,_,fr,w,rfl,rfl,⟨hw,by omega,rfl,rfl⟩,Zas (fun h3=>bif_t hq h3) fun h3=>⟨rfl,d,_,_,rfl,rfl,⟨hm2,by omega,rfl⟩,bif_f hq h3⟩⟩
 · have hq:=bif_f hq h1
   refine ⟨rfl,d,hs,_,_,fr,w,rfl,rfl,⟨hw,by omega,rfl,rfl⟩,Zas (fun h3=>bif_t hq h3) fun h3=>⟨rfl,d,_,_,rfl,rfl,⟨hm1,by omega,rfl⟩,bif_f hq h3⟩⟩
def THe:List (Nat×(List AV→(AV→Prop)→Prop)):= [(13,cValid),(28,cIsWord),(29,cIn),(4000003,cNone)]
theorem THe_ok:CallsOk Tryd.prog THe:=Zah cValid_ok (Zah cIsWord_ok (Zah cIn_ok (Zah cNone_ok Zao)))
def wlHe0:WLT SpG:=fun c tm hp g K=>match cidO c with
 | 6 =>∃(d:Nat) (hs t t0:List HalfS) (w:WordS) (fr:Int),c= .loop lpHr∧maskTm [6,8,9,10,44,45,46] 0 tm=tmHr hs (rowsH hs).length 0∧hp= [wordB w,deskB d fr]∧g=some (d,t0)∧(t0= []∧(∀i,i<hs.length→InI (nthH hs i).st)∧hs.length<1000000∧t=tabH hs)∧
     ∀i:Int,K (.exit 0) (tmHr hs hs.length i) [wordB w,deskB d fr] (some (d,t))
 |11=>∃(d:Nat) (hs r1 r2 q1 q2:List HalfS) (e1 e2:Int) (w:WordS) (fr:Int),c= .loop lpH2∧maskTm [6,8,9,10,58,59] 0 tm=tmH2 0∧hp= [wordB w,deskB d fr]∧g=some (d,hs)∧(InI w.st∧(∀h∈hs,InI h.st)∧hs.length<999999∧e1=(askedS hs fr w).1∧r1=(askedS hs fr w).2∧q1=listS r1∧e2=(provedS hs w).1∧r2=(provedS hs w).2∧q2=listS r2)∧
     BIf (1 !=w.ki) (BIf (3 !=w.ki) (K (.exit 2) (tmH2 2) [wordB w,deskB d fr] (some (d,hs)))
       (BIf (e2 !=0) (K .ret (tmH3 nilA e2 1) [wordB w,deskB d fr] (some (d,r2))) (K .ret (tmH3 (.d (.sl 6 (rowsH q2))) 0 1) [wordB w,deskB d fr] (some (d,r2)))))
       (BIf (e1 !=0) (K .ret (tmH3 nilA e1 0) [wordB w,deskB d fr] (some (d,r1))) (K .ret (tmH3 (.d (.sl 6 (rowsH q1))) 0 0) [wordB w,deskB d fr] (some (d,r1))))
 |_=>False
theorem wlHe0_ok (N:Nat) (w0:World) (lent:List Nat) (c:Code) (tm:List AV) (hp:List Blk) (b:SpG) (K:Exit→List AV→List Blk→SpG→Prop) (h:wlHe0 c tm hp b K):W (Zcx Tryd.prog none N w0 lent spF) c ⟨tm,hp,b⟩ (fun e s=>K e s.tm s.hp s.b):=by
 unfold wlHe0 at h
 split at h
 · obtain ⟨d,hs,_,_,w,fr,rfl,htm,rfl,rfl,⟨rfl,h1,h2,rfl⟩,hK⟩:=h
   rw [rowsH_len] at htm
   refine W.cast (htm▸maskTm_le _ tm 0) (Zby _) ?_
   exact W.rounds (wrHr (Q:=fun e s=>K e s.tm s.hp s.b) hs d w fr h1 h2 hK hs.length 0 (by omega))
 · obtain ⟨d,hs,_,_,_,_,_,_,w,fr,rfl,htm,rfl,rfl,⟨h1,h2,h3,rfl,rfl,rfl,rfl,rfl,rfl⟩,hK⟩:=h
   refine W.cast (htm▸maskTm_le _ tm 0) (Zby _) ?_
   exact W.rounds (wrH2 (Q:=fun e s=>K e s.tm s.hp s.b) d hs w fr h1 h2 h3 hK)
 · exact h.elim
def wlHe:WLT SpG:=wlM Tryd.prog ⟨THe, [],fun _ _ _ _ _=>False,fun _ _ _=>False,false⟩ (spM []) wlHe0
theorem wlHe_ok (lent:List Nat) (N:Nat) (w0:World):∀c tm hp b K,wlHe c tm hp b K→W (Zcx Tryd.prog none N w0 lent spF) c ⟨tm,hp,b⟩ (fun e s=>K e s.tm s.hp s.b):=
 wlM_ok (Ev:=Zcx Tryd.prog none N w0 lent spF) mixed (CX.Ok.ofWl (Ev:=Zcx Tryd.prog none N w0 lent spF) THe_ok Zal fun _ _ _ _ _ h=>h.elim) (spM_ok MCTok.nil N w0 lent) (wlHe0_ok N w0 lent)
section
variable (R:AV→SpG→Prop)
abbrev Qz12:List AV:= [Zaf (Dv.s (.slice none 0 0)),Zaf (i64 1)]
abbrev Qz23 (v0:List HalfS):List AV:=bds 6 (Zde 0 0::Zat::Zaf (Dv.s (.slice none 0 0))::Zaf (i64 0)::Zde 1 0::bds 33 (Zaf (Zax 6 (rowsH v0))::Zaf (i64 ((Zae (rowsH v0):Nat):Int))::Zaf (i64 0)::bds 32 []))
abbrev Qz29 (v0:List HalfS):List AV:= [Zaf (Zax 6 (rowsH v0)),Zaf (i64 0)]
abbrev Qz38:List AV:= [Zaf (Dv.s (.slice none 0 0)),Zaf (i64 9)]
theorem hear_nf (hs:List HalfS) (me fr:Int) (w:WordS):wpFn Tryd.prog ⟨THe, [],wlHe,fun _ _ _=>False,false⟩ 100 Tryd.f11 [.d (.sl 6 (rowsH hs)), .d (i64 me),wordA w, .d (i64 fr)] none R=(∃(hs0:List HalfS) (z1:Bool), [Zaf (Zax 6 (rowsH hs))]= [Zaf (Zax 6 (rowsH hs0))]∧(Zae hs0≤9223372036854775807∧z1=validH hs0)∧BIf (!z1) (R (.tup Qz12) none) (∃(w2:WordS) (z3:Bool), [Zbk (Qz1 w)]= [Zbk (Qz1 w2)]∧z3=isWordS w2∧BIf (!z3) (R (.tup Qz12) none) (BIf (WordS.sp w !=me) (R (.tup Qz12) none) (∃(n4:Int) (h5:Int), [Zaf (i64 (WordS.ke w)),Zaf (i64 2000000)]= [Zaf (i64 n4),Zaf (i64 h5)]∧BIf (!inN n4 h5) (R (.tup Qz12) none) (∃(n6:Int) (h7:Int), [Zaf (i64 fr),Zaf (i64 999999988)]= [Zaf (i64 n6),Zaf (i64 h7)]∧BIf (!inN n6 h7) (R (.tup Qz12) none) (NoG none∧59=59∧∀(d:Nat),∃(d8:Nat) (hs9:List HalfS) (t10:List HalfS) (t11:List HalfS) (w12:WordS) (fr13:Int),Zbw lpHr=Zbw lpHr∧(Qz23 hs)=(Qz23 hs9)∧(Qz6 w d fr)=(Qz6 w12 d8 fr13)∧some (d, [])=some (d8,t11)∧(t11= []∧(∀(i:Nat),i<Zae hs9→InI (HalfS.st (nthH hs9 i)))∧Zae hs9<1000000∧t10=tabH hs9)∧∀(i:Int),∃(d14:Nat) (hs15:List HalfS) (r16:List HalfS) (r17:List HalfS) (q18:List HalfS) (q19:List HalfS) (e20:Int) (e21:Int) (w22:WordS) (fr23:Int),Zbw lpH2=Zbw lpH2∧(bds 6 (Zde 0 0::Zat::Zaf (Dv.s (.slice none 0 0))::Zaf (i64 0)::Zde 1 0::bds 47 (Zbk [Zaf (i64 1),Zcy (Fn.func 30) [] [],Zaf (i64 3),Zcy (Fn.func 31) [] []]::Zaf (i64 0)::bds 19 [])))=(bds 6 (Zde 0 0::Zat::Zaf (Dv.s (.slice none 0 0))::Zaf (i64 0)::Zde 1 0::bds 47 (Zbk [Zaf (i64 1),Zcy (Fn.func 30) [] [],Zaf (i64 3),Zcy (Fn.func 31) [] []]::Zaf (i64 0)::bds 19 [])))∧(Qz6 w12 d8 fr13)=(Qz6 w22 d14 fr23)∧some (d8,t10)=some (d14,hs15)∧(InI (Zcl w22)∧(∀(h:HalfS),h∈hs15→InI (HalfS.st h))∧Zae hs15<999999∧e20=Prod.fst (askedS hs15 fr23 w22)∧r16=Prod.snd (askedS hs15 fr23 w22)∧q18=listS r16∧e21=Prod.fst (provedS hs15 w22)∧r17=Prod.snd (provedS hs15 w22)∧q19=listS r17)∧BIf ((1:Int) !=Zcs w22) (BIf ((3:Int) !=Zcs w22) (R (.tup Qz38) (some (d14,hs15))) (BIf (e21 !=(0:Int)) (R (.tup [Zaf (Dv.s (.slice none 0 0)),Zaf (i64 e21)]) (some (d14,r17))) (R (.tup (Qz29 q19)) (some (d14,r17))))) (BIf (e20 !=(0:Int)) (R (.tup [Zaf (Dv.s (.slice none 0 0)),Zaf (i64 e20)]) (some (d14,r16))) (R (.tup (Qz29 q18)) (some (d14,r16)))))))))):=by kernel_rfl
end
def hearS (hs:List HalfS) (me:Int) (w:WordS) (fr:Int):List HalfS×Int:=
 if (!validH hs)=true then ([],1) else if (!isWordS w)=true then ([],1) else if (w.sp !=me)=true then ([],1) else if (!inN w.ke 2000000)=true then ([],1) else if (!inN fr 999999988)=true then ([],1)
 else if (1 !=w.ki)=true then (if (3 !=w.ki)=true then ([],9) else if ((provedS (tabH hs) w).1 !=0)=true then ([],(provedS (tabH hs) w).1) else (listS (provedS (tabH hs) w).2,0))
 else if ((askedS (tabH hs) fr w).1 !=0)=true then ([],(askedS (tabH hs) fr w).1) else (listS (askedS (tabH hs) fr w).2,0)
theorem tabH_mem {hs:List HalfS} {x:HalfS} (h:x∈tabH hs):x∈hs:=by
 have key:∀(l t:List HalfS),x∈l.foldl (fun t h=>putH h t) t→x∈l∨x∈t:=by
   intro l
   induction l with
   |nil=>intro t h;exact .inr h
   | cons y r ih=>
     intro t h
     rcases ih _ h with h|h
     · exact .inl (List.mem_cons_of_mem _ h)
     · rcases mem_putH.1 h with rfl|⟨h,_⟩
       · exact .inl (List.mem_cons_self ..)
       · exact .inr h
 rcases key hs [] h with h|h
 · exact h
 · cases h
theorem inI_of_halfOk {h:HalfS} (hh:halfOk h=true):InI h.st:=by
 simp only [halfOk,Zag,nodeN,inN,decide_eq_true_eq] at hh
 exact ⟨by omega,by omega⟩
theorem valid_halfOk {hs:List HalfS} (hv:validH hs=true) {i:Nat} (hi:i<hs.length):halfOk (nthH hs i)=true:=by
 simp only [validH,Zag,Bool.not_eq_true',List.any_eq_false,List.mem_range] at hv
 have:=hv.1 i hi
 simp only [badAt,Bool.or_eq_true,not_or] at this
 simpa using this.1
theorem valid_len {hs:List HalfS} (hv:validH hs=true):hs.length≤4:=by
 simp only [validH,Zag,decide_eq_true_eq] at hv
 exact hv.2
theorem valid_mem {hs:List HalfS} (hv:validH hs=true) {x:HalfS} (hx:x∈hs):halfOk x=true:=by
 obtain ⟨i,hi⟩:=List.mem_iff_getElem?.1 hx
 have hl:=(List.getElem?_eq_some_iff.1 hi).1
 have:=valid_halfOk hv hl
 rwa [nthH,List.getD_eq_getElem?_getD,hi] at this
theorem inI_word {w:WordS} (h:isWordS w=true):InI w.st:=by
 have hf:formedW w=true:=by
   cases hf:formedW w with
   |true=>rfl
   |false=>simp [isWordS,judgeS,hf] at h
 simp only [formedW,Zag,nodeJ,decide_eq_true_eq] at hf
 exact ⟨by omega,by omega⟩
theorem leNil {e:Int}:LeT (.tup [nilA, .d (i64 e)]) (.tup [.d (.sl 6 (rowsH [])), .d (i64 e)]):= .tup (.cons (LeA.nilSl rfl) (.cons LeA.rfl .nil))
theorem leRefl {q:List HalfS} {e:Int}:LeT (.tup [.d (.sl 6 (rowsH q)), .d (i64 e)]) (.tup [.d (.sl 6 (rowsH q)), .d (i64 e)]):= .tup (.cons LeA.rfl (.cons LeA.rfl .nil))
theorem pcHear (hs:List HalfS) (me fr:Int) (w:WordS) (hl:hs.length≤9223372036854775807):PCall Tryd.prog 11 [.d (.sl 6 (rowsH hs)), .d (i64 me),wordA w, .d (i64 fr)] (.tup [.d (.sl 6 (rowsH (hearS hs me w fr).1)), .d (i64 (hearS hs me w fr).2)]):=by
 refine MCall.toP (f:=spF) (g:=none) rfl (MCall.leT ?_)
 refine MCall.ofFn (n:=100) (u:=false) wlHe mixed THe_ok Zal (fun N w0=>wlHe_ok _ N w0) Tryd.func11 (by rfl) (by rfl) ?_
 rw [hear_nf]
 refine ⟨hs,_,rfl,⟨hl,rfl⟩,Zas (fun h1=> ?_) fun h1=>⟨w,_,rfl,rfl,Zas (fun h2=> ?_) fun h2=>Zas (fun h3=> ?_) fun h3=>⟨_,_,rfl,Zas (fun h4=> ?_) fun h4=>⟨_,_,rfl,Zas (fun h5=> ?_) fun h5=> ?_⟩⟩⟩⟩
 · rw [hearS,if_pos h1];exact ⟨leNil,rfl⟩
 · rw [hearS,if_neg (by rw [h1];decide),if_pos h2];exact ⟨leNil,rfl⟩
 · rw [hearS,if_neg (by rw [h1];decide),if_neg (by rw [h2];decide),if_pos h3];exact ⟨leNil,rfl⟩
 · rw [hearS,if_neg (by rw [h1];decide),if_neg (by rw [h2];decide),if_neg (by rw [h3];decide),if_pos h4];exact ⟨leNil,rfl⟩
 · rw [hearS,if_neg (by rw [h1];decide),if_neg (by rw [h2];decide),if_neg (by rw [h3];decide),if_neg (by rw [h4];decide),if_pos h5];exact ⟨leNil,rfl⟩
 rw [hearS,if_neg (by rw [h1];decide),if_neg (by rw [h2];decide),if_neg (by rw [h3];decide),if_neg (by rw [h4];decide),if_neg (by rw [h5];decide)]
 have hv:validH hs=true:=by simpa using h1
 have hw:isWordS w=true:=by simpa using h2
 have hi:∀h∈tabH hs,InI h.st:=fun h hh=>inI_of_halfOk (valid_mem hv (tabH_mem hh))
 have htl:=tabH_len hs
 have hsl:=valid_len hv
 refine ⟨⟨rfl⟩,rfl,fun d=>⟨d,hs,_, [],w,fr,rfl,rfl,rfl,rfl,⟨rfl,fun i hi=>inI_of_halfOk (valid_halfOk hv hi),by omega,rfl⟩,fun i=>⟨d,tabH hs,_,_,_,_,_,_,w,fr,rfl,rfl,rfl,rfl,⟨inI_word hw,hi,by omega,rfl,rfl,rfl,rfl,rfl,rfl⟩,
   Zas (fun h6=>Zas (fun h7=> ?_) fun h7=>Zas (fun h8=> ?_) fun h8=> ?_) fun h6=>Zas (fun h8=> ?_) fun h8=> ?_⟩⟩⟩
 · rw [if_pos h6,if_pos h7];exact ⟨leNil,rfl⟩
 · rw [if_pos h6,if_neg (by rw [h7];decide),if_pos h8];exact ⟨leNil,rfl⟩
 · rw [if_pos h6,if_neg (by rw [h7];decide),if_neg (by rw [h8];decide)];exact ⟨leRefl,rfl⟩
 · rw [if_neg (by rw [h6];decide),if_pos h8];exact ⟨leNil,rfl⟩
 · rw [if_neg (by rw [h6];decide),if_neg (by rw [h8];decide)];exact ⟨leRefl,rfl⟩
def G40:List (Nat×(List AV→List Blk→(AV→List Blk→Prop)→Prop)):= [(1000040,fun _ _ _=>False)]
theorem G40_ok:SCallsOk Tryd.prog G40:=Zcg (fun _ _ _ h=>h.elim) Zal
def fnL (fr:Int):AV:= .fn (.func 40) [] [.rptr [i64 fr]]
theorem lateF_nf (h:HalfS) (fr:Int):wpFn Tryd.prog ⟨[], [],wl,y,false⟩ 100 Tryd.f40 [halfA h, .rptr [i64 fr]] b R=(R (Zaf (bo (decide (HalfS.un h<fr)))) b):=by kernel_rfl
theorem clone39S_nf (xs:List (List Dv)):wpFnS Tryd.prog ⟨[],G40,wl,y,false⟩ 100 Tryd.f39 [.d (.sl 6 xs)] b RS=(∀(t:Bool),(t=true→xs= [])→BIf t (RS (Zaf (Dv.s (.slice none 0 0))) [] b) (BIf (true&&decide (Zae xs*48≤140737488355328)) (BIf (decide (0<Zae xs)) (RS (AV.gref 0 0 (Zae xs) 6) [Blk.mk (flatA xs) false true 0] b) (RS (AV.full 6 []) [] b)) False)):=by kernel_rfl
theorem pcLate (h:HalfS) (fr:Int):PCall Tryd.prog 40 [halfA h, .rptr [i64 fr]] (.d (bo (decide (h.un<fr)))):=by
 refine Zbo (n:=100) (u:=false) mixed Zao Zal Tryd.func40 (by rfl) (by rfl) fun Ev bb=> ?_
 rw [lateF_nf]
def cLate (args:List AV) (K:AV→Prop):Prop:=∃(h:HalfS) (fr:Int),args= [halfA h, .rptr [i64 fr]]∧K (.d (bo (decide (h.un<fr))))
theorem cLate_ok:∀args K,cLate args K→∃x,PCall Tryd.prog 40 args x∧K x:=by
 rintro _ K ⟨h,fr,rfl,hk⟩;exact ⟨_,pcLate h fr,hk⟩
theorem pcClone39:CloneF Tryd.prog 39 6:=fun xs hl=>by
 refine FCall.ofFnF (n:=100) (u:=false) wlNo mixed Zao G40_ok (fun Ev=>wlNo_ok Ev) Tryd.func39 (by rfl) (by rfl) (by split<;>rfl) fun Ev bb=> ?_
 rw [clone39S_nf]
 refine fun t ht=>Zas (fun h=>by rw [ht h];exact ⟨.nilFull rfl,rfl⟩) fun h=>Zcq (by simp<;>omega) ?_
 cases xs with
 |nil=>exact BIf.f rfl ⟨.rfl,rfl⟩
 |cons a xs=>exact Zcq (by simp) ⟨.rfl,rfl⟩
def TLa:List (Nat×(List AV→(AV→Prop)→Prop)):= [(40,cLate)]
theorem TLa_ok:CallsOk Tryd.prog TLa:=Zah cLate_ok Zao
noncomputable def lpIf:Code:=sub [1,0,1,2,3] (code Tryd.f55)
def tmIf (hs:List HalfS) (fr z n i:Int):List AV:= [.d (.sl 6 (rowsH hs)),fnL fr, .bad, .bad, .d (i64 z), .bad, .bad, .d (i64 n), .d (i64 i)]++Zan 10 .bad
theorem rIf (hs:List HalfS) (fr n i:Int):wpc Tryd.prog ⟨TLa, [],wl,y,false⟩ 100 lpIf (tmIf hs fr 0 n i) [] b (maskK 0 [0,1,4,7,8] K)=(BIf (decide (i<n)) (BIf (true&&decide (0≤i)) (∃(x0:Int) (x1:Int) (x2:Int) (x3:Int) (b4:Bool) (x5:Int),(rowsH hs)[Zbf i]? =some (Qz13 x0 x1 x2 x3 b4 x5)∧∃(h8:HalfS) (fr9:Int), [Zbk (Qz15 x0 x1 x2 x3 b4 x5),AV.rptr [i64 fr]]= [Zbk (Qz3 h8),AV.rptr [i64 fr9]]∧BIf (decide (HalfS.un h8<fr9)) (K .ret (Zaf (Zax 6 (rowsH hs))::Zcy (Fn.func 40) [] [AV.rptr [i64 fr]]::Zat::Zat::Zaf (i64 i)::Zat::Zat::Zaf (i64 n)::Zaf (i64 i)::bds 10 []) [] b) (K .normal (Zaf (Zax 6 (rowsH hs))::Zcy (Fn.func 40) [] [AV.rptr [i64 fr]]::Zat::Zat::Zaf (i64 0)::Zat::Zat::Zaf (i64 n)::Zaf (i64 (Zab .i64 (i+1)))::bds 10 []) [] b)) False) (K (Exit.exit 0) (Zaf (Zax 6 (rowsH hs))::Zcy (Fn.func 40) [] [AV.rptr [i64 fr]]::Zat::Zat::Zaf (i64 0)::Zat::Zat::Zaf (i64 n)::Zaf (i64 i)::bds 10 []) [] b)):=by kernel_rfl
def lateB (fr:Int) (h:HalfS):Bool:=decide (h.un<fr)
def firstL (fr:Int):List HalfS→Nat
 | []=>0
 |h::r=>if lateB fr h=true then 0 else firstL fr r+1
def indexS (hs:List HalfS) (fr:Int):Int:=if firstL fr hs<hs.length then firstL fr hs else -1
theorem nthH_drop {hs:List HalfS} {i:Nat} {h:HalfS} {r:List HalfS} (hd:hs.drop i=h::r):i<hs.length∧nthH hs i=h∧hs.drop (i+1)=r:=by
 have hi:i<hs.length:=by
   apply Classical.byContradiction
   intro hn
   rw [List.drop_eq_nil_of_le (by omega)] at hd;cases hd
 rw [List.drop_eq_getElem_cons hi] at hd
 injection hd with h1 h2
 exact ⟨hi,by simp [nthH,hi,h1],h2⟩
theorem wrIf {Ev:Env Tryd.prog} {b:Ev.β} {Q:Exit→St Ev.β→Prop} (hs:List HalfS) (fr:Int) (hl:hs.length<1000000)
   (hQ1:firstL fr hs=hs.length→∀i:Int,Q (.exit 0) ⟨tmIf hs fr 0 hs.length i, [],b⟩) (hQ2:firstL fr hs<hs.length→∀i:Int,Q .ret ⟨tmIf hs fr (firstL fr hs:Nat) hs.length i, [],b⟩):
   ∀(rest:List HalfS) (i:Nat),hs.drop i=rest→i≤hs.length→firstL fr hs=i+firstL fr rest→WR Ev lpIf (rest.length+1) ⟨tmIf hs fr 0 hs.length i, [],b⟩ Q
 | [],i,hd,hi,hf=>by
   refine Zco [0,1,4,7,8] mixed (CX.Ok.of (u:=false) TLa_ok Zal) (k:=100) ?_
   refine Eq.mpr (rIf _ _ _ _ hs fr hs.length i) ?_
   have hil:i=hs.length:=by have:=List.drop_eq_nil_iff.1 hd;omega
   exact BIf.f (by simp;omega) (hQ1 (by rw [hf,hil];simp [firstL]) _)
 | h::rest,i,hd,hi,hf=>by
   refine Zco [0,1,4,7,8] mixed (CX.Ok.of (u:=false) TLa_ok Zal) (k:=100) ?_
   refine Eq.mpr (rIf _ _ _ _ hs fr hs.length i) ?_
   obtain ⟨hi',hh,hd'⟩:=nthH_drop hd
   rw [Int.toNat_natCast,rowsH_at hi']
   refine Zcq (by simp;omega) (Zcq (by simp) ⟨_,_,_,_,_,_,rfl,nthH hs i,fr,rfl,Zas (fun h1=> ?_) fun h1=> ?_⟩)
   · have h1':lateB fr h=true:=by rw [←hh];exact h1
     have hfi:firstL fr hs=i:=by rw [hf,firstL,if_pos h1'];rfl
     have:=hQ2 (by omega) i
     rw [hfi] at this
     exact this
   · have h1':¬lateB fr h=true:=by rw [←hh];simp only [lateB];rw [h1];decide
     rw [wrapN (by omega)]
     exact wrIf hs fr hl hQ1 hQ2 rest (i+1) hd' hi' (by rw [hf,firstL,if_neg h1'];omega)
def wlIf {β:Type}:WLT β:=fun c tm hp b K=>∃(hs:List HalfS) (fr:Int) (k:Nat),c= .loop lpIf∧maskTm [0,1,4,7,8] 0 tm=tmIf hs fr 0 (rowsH hs).length 0∧hp= []∧(hs.length<1000000∧k=firstL fr hs)∧
 BIf (decide (k<hs.length)) (∀i:Int,K .ret (tmIf hs fr k hs.length i) [] b) (∀i:Int,K (.exit 0) (tmIf hs fr 0 hs.length i) [] b)
theorem wlIf_ok {Ev:Env Tryd.prog} (c:Code) (tm:List AV) (hp:List Blk) (b:Ev.β) (K:Exit→List AV→List Blk→Ev.β→Prop) (h:wlIf c tm hp b K):W Ev c ⟨tm,hp,b⟩ (fun e s=>K e s.tm s.hp s.b):=by
 obtain ⟨hs,fr,_,rfl,htm,rfl,⟨hl,rfl⟩,hK⟩:=h
 rw [rowsH_len] at htm
 refine W.cast (htm▸maskTm_le _ tm 0) (Zby _) ?_
 exact W.rounds (wrIf (Q:=fun e s=>K e s.tm s.hp s.b) hs fr hl (fun h=>bif_f hK (decide_eq_false (by omega))) (fun h=>bif_t hK (decide_eq_true h)) hs 0 rfl (Nat.zero_le _) (by omega))
theorem index_nf (hs:List HalfS) (fr:Int):wpFn Tryd.prog ⟨TLa, [],wlIf,y,false⟩ 100 Tryd.f55 [.d (.sl 6 (rowsH hs)),fnL fr] b R=(∃(hs0:List HalfS) (fr1:Int) (k2:Nat),Zbw lpIf=Zbw lpIf∧(Zaf (Zax 6 (rowsH hs))::Zcy (Fn.func 40) [] [AV.rptr [i64 fr]]::Zat::Zat::Zaf (i64 0)::Zat::Zat::Zaf (i64 ((Zae (rowsH hs):Nat):Int))::Zaf (i64 0)::bds 10 [])=(Zaf (Zax 6 (rowsH hs0))::Zcy (Fn.func 40) [] [AV.rptr [i64 fr1]]::Zat::Zat::Zaf (i64 0)::Zat::Zat::Zaf (i64 ((Zae (rowsH hs0):Nat):Int))::Zaf (i64 0)::bds 10 [])∧([]:List Blk)= []∧(Zae hs0<1000000∧k2=firstL fr1 hs0)∧BIf (decide (k2<Zae hs0)) (∀(i:Int),R (.d (i64 (k2:Int))) b) (∀(i:Int),R (.d (i64 (-1))) b)):=by kernel_rfl
theorem pcIndex (hs:List HalfS) (fr:Int) (hl:hs.length<1000000):PCall Tryd.prog 55 [.d (.sl 6 (rowsH hs)),fnL fr] (.d (i64 (indexS hs fr))):=by
 refine Zdd (n:=100) (u:=false) (fun _=>wlIf) mixed TLa_ok Zal (fun Ev=>wlIf_ok) Tryd.func55 (by rfl) (by rfl) fun Ev bb=> ?_
 rw [index_nf]
 refine ⟨hs,fr,_,rfl,rfl,rfl,⟨hl,rfl⟩,Zas (fun h i=> ?_) fun h i=> ?_⟩
 · rw [indexS,if_pos (of_decide_eq_true h)]
 · rw [indexS,if_neg (of_decide_eq_false h)]
def cIndex (args:List AV) (K:AV→Prop):Prop:=∃(hs:List HalfS) (fr z:Int),args= [.d (.sl 6 (rowsH hs)),fnL fr]∧(hs.length<1000000∧z=indexS hs fr)∧K (.d (i64 z))
theorem cIndex_ok:∀args K,cIndex args K→∃x,PCall Tryd.prog 55 args x∧K x:=by
 rintro _ K ⟨hs,fr,_,rfl,⟨hl,rfl⟩,hk⟩;exact ⟨_,pcIndex hs fr hl,hk⟩
def boxI (fr:Int):Blk:=⟨[.d (i64 fr)],false,false,0⟩
noncomputable def lpDf:Code:=sub [1,1,1,0,1,2,3] (code Tryd.f38)
def tmDf (v n:Nat) (i j:Int):List AV:= [.gref 1 v n 6, .fn (.func 40) [] [.ptr 0 0], .bad, .bad, .bad, .d (i64 i), .d (i64 j)]++Zan 35 .bad
def ULa:List (Nat×(List AV→List Blk→(AV→List Blk→Prop)→Prop)):= [(1000040,fun _ _ _=>False),(40,lendC cLate)]
theorem ULa_ok:SCallsOk Tryd.prog ULa:=Zcg (fun _ _ _ h=>h.elim) (Zcg (lendC_ok cLate_ok) Zal)
def grB (v:Nat) (cs:List AV):Blk:=⟨cs,false,true,v⟩
theorem rDf (v n:Nat) (i j fr:Int) (cs:List AV):wpc Tryd.prog ⟨[],ULa,wl,y,false⟩ 100 lpDf (tmDf v n i j) [boxI fr,grB v cs] b (maskK 2 [0,1,5,6] K)=(v=v∧BIf (decide (j<(n:Int))) (v=v∧BIf (decide (0≤j)&&decide (j<(n:Int))) (v=v∧∃(x0:Int) (x1:Int) (x2:Int) (x3:Int) (b4:Bool) (x5:Int),List.take 6 (List.drop (Zbf j*6) cs)=(Qz15 x0 x1 x2 x3 b4 x5)∧∃(h6:HalfS) (fr7:Int), [Zbk (Qz15 x0 x1 x2 x3 b4 x5),AV.rptr [i64 fr]]= [Zbk (Qz3 h6),AV.rptr [i64 fr7]]∧BIf (!decide (HalfS.un h6<fr7)) (v=v∧BIf (decide (0≤i)&&decide (i<(n:Int))) (v=v∧BIf (decide (Zbf i*6+6≤Zae cs)) (BIf (List.all [cell (i64 fr),Blk.mk (List.take (Zbf i*6) cs++(Qz15 x0 x1 x2 x3 b4 x5)++List.drop (Zbf i*6+6) cs) false true v] fun (blk8:Blk)=>lows 2 blk8.1) (K .normal (AV.gref 1 v n 6::Zcy (Fn.func 40) [] [Zde 0 0]::bds 3 (Zaf (i64 (Zab .i64 (i+1)))::Zaf (i64 (Zab .i64 (j+1)))::bds 35 [])) [cell (i64 fr),Blk.mk (List.take (Zbf i*6) cs++(Qz15 x0 x1 x2 x3 b4 x5)++List.drop (Zbf i*6+6) cs) false true v] b) False) False) False) (BIf (List.all [cell (i64 fr),Blk.mk cs false true v] fun (blk9:Blk)=>lows 2 blk9.1) (K .normal (AV.gref 1 v n 6::Zcy (Fn.func 40) [] [Zde 0 0]::bds 3 (Zaf (i64 i)::Zaf (i64 (Zab .i64 (j+1)))::bds 35 [])) [cell (i64 fr),Blk.mk cs false true v] b) False)) False) (BIf (List.all [cell (i64 fr),Blk.mk cs false true v] fun (blk10:Blk)=>lows 2 blk10.1) (K (Exit.exit 0) (AV.gref 1 v n 6::Zcy (Fn.func 40) [] [Zde 0 0]::bds 3 (Zaf (i64 i)::Zaf (i64 j)::bds 35 [])) [cell (i64 fr),Blk.mk cs false true v] b) False)):=by kernel_rfl
theorem hc_cons (h:HalfS) (hs:List HalfS):flatA (rowsH (h::hs))=(halfR h).map .d++flatA (rowsH hs):=flatA_cons _ _
theorem hc_len:∀hs:List HalfS,(flatA (rowsH hs)).length=hs.length*6
 | []=>rfl
 |h::hs=>by rw [hc_cons,List.length_append,hc_len hs];simp [halfR];omega
theorem hc_take:∀(hs:List HalfS) (i:Nat),(flatA (rowsH hs)).take (i*6)=flatA (rowsH (hs.take i))
 | [],i=>by simp [rowsH,flatA]
 |h::hs,0=>by simp [rowsH,flatA]
 | h::hs,i+1=>by
   rw [hc_cons,List.take_succ_cons,hc_cons,←hc_take hs i,List.take_append]
   have e:((halfR h).map Zaf).length=6:=rfl
   rw [e,List.take_of_length_le (by rw [e];omega)]
   congr 2;omega
theorem hc_drop:∀(hs:List HalfS) (i:Nat),(flatA (rowsH hs)).drop (i*6)=flatA (rowsH (hs.drop i))
 | [],i=>by simp [rowsH,flatA]
 |h::hs,0=>by simp
 | h::hs,i+1=>by
   rw [hc_cons,List.drop_succ_cons,←hc_drop hs i,List.drop_append]
   have e:((halfR h).map Zaf).length=6:=rfl
   rw [e,List.drop_eq_nil_of_le (by rw [e];omega),List.nil_append]
   congr 1;omega
theorem hc_at {hs:List HalfS} {j:Nat} (hj:j<hs.length):((flatA (rowsH hs)).drop (j*6)).take 6=(halfR (nthH hs j)).map .d:=by
 rw [hc_drop,List.drop_eq_getElem_cons hj,hc_cons]
 have e:nthH hs j=hs[j]:=by simp [nthH,hj]
 rw [e];rfl
theorem hc_app (a b:List HalfS):flatA (rowsH (a++b))=flatA (rowsH a)++flatA (rowsH b):=by simp [rowsH,flatA_append]
theorem hc_set {hs:List HalfS} {i:Nat} (hi:i<hs.length) (h:HalfS):(flatA (rowsH hs)).take (i*6)++(halfR h).map .d++(flatA (rowsH hs)).drop (i*6+6)=flatA (rowsH (hs.set i h)):=by
 have e:i*6+6=(i+1)*6:=by omega
 rw [e,hc_take,hc_drop,List.set_eq_take_append_cons_drop,if_pos hi,hc_app,hc_cons,List.append_assoc]
theorem hc_lows (n:Nat):∀hs:List HalfS,lows n (flatA (rowsH hs))=true
 | []=>rfl
 | h::hs=>by
   rw [hc_cons]
   have:=hc_lows n hs
   simp only [halfR,List.map_cons,List.map_nil,List.cons_append,List.nil_append,lows,AV.low,this,Bool.and_true]
theorem hc_low2 (fr:Int) (v:Nat) (hs:List HalfS):List.all [boxI fr,grB v (flatA (rowsH hs))] (fun blk=>lows 2 blk.1)=true:=by
 simp only [List.all_cons,List.all_nil,Bool.and_true,Zag]
 exact ⟨rfl,hc_lows 2 hs⟩
def keepH (fr:Int) (h:HalfS):Bool:= !lateB fr h
theorem wrDf {Ev:Env Tryd.prog} {b:Ev.β} {Q:Exit→St Ev.β→Prop} (v:Nat) (fr:Int) (hs:List HalfS) (hl:hs.length<1000000)
   (hQ:∀(cur:List HalfS) (j:Int),cur.length=hs.length→cur.take (hs.filter (keepH fr)).length=hs.filter (keepH fr)→Q (.exit 0) ⟨tmDf v hs.length ((hs.filter (keepH fr)).length:Nat) j, [boxI fr,grB v (flatA (rowsH cur))],b⟩):
   ∀ (rest:List HalfS) (j i:Nat) (cur:List HalfS),hs.drop j=rest→j≤hs.length→i≤j→cur.length=hs.length→cur.take i=(hs.take j).filter (keepH fr)→cur.drop j=rest→
     WR Ev lpDf (rest.length+1) ⟨tmDf v hs.length i j, [boxI fr,grB v (flatA (rowsH cur))],b⟩ Q
 | [],j,i,cur,hd,hj,hi,hcl,ht,hcd=>by
   refine Zco [0,1,5,6] mixed (CX.Ok.of (u:=false) Zao ULa_ok) (k:=100) ?_
   refine Eq.mpr (rDf _ _ _ _ v hs.length i j fr _) ?_
   have hjl:j=hs.length:=by have:=List.drop_eq_nil_iff.1 hd;omega
   subst hjl
   rw [List.take_length] at ht
   have hil:i=(hs.filter (keepH fr)).length:=by rw [←ht,List.length_take];omega
   refine ⟨rfl,BIf.f (by simp) (Zcq (hc_low2 fr v cur) ?_)⟩
   rw [hil] at ht ⊢
   exact hQ cur _ hcl ht
 | h::rest,j,i,cur,hd,hj,hi,hcl,ht,hcd=>by
   refine Zco [0,1,5,6] mixed (CX.Ok.of (u:=false) Zao ULa_ok) (k:=100) ?_
   refine Eq.mpr (rDf _ _ _ _ v hs.length i j fr _) ?_
   obtain ⟨hj1,hh1,hd1⟩:=nthH_drop hd
   obtain ⟨hj2,hh2,hd2⟩:=nthH_drop hcd
   have htake:hs.take (j+1)=hs.take j++ [h]:=by
     rw [List.take_succ_eq_append_getElem hj1]
     congr 2
     rw [←hh1];simp [nthH,hj1]
   refine ⟨rfl,Zcq (by simp;omega) ⟨rfl,Zcq (by simp;omega) ⟨rfl,(nthH cur j).st,(nthH cur j).no,(nthH cur j).ch,(nthH cur j).un,(nthH cur j).pr,(nthH cur j).ke,by rw [Int.toNat_natCast];exact hc_at hj2,nthH cur j,fr,rfl,Zas (fun h1=> ?_) fun h1=> ?_⟩⟩⟩
   · have hk:keepH fr h=true:=by rw [←hh2];exact h1
     refine ⟨rfl,Zcq (by simp;omega) ⟨rfl,Zcq (by rw [Int.toNat_natCast,hc_len];simp;omega) ?_⟩⟩
     rw [Int.toNat_natCast]
     have e:=hc_set (hs:=cur) (i:=i) (by omega) (nthH cur j)
     have e':((halfR (nthH cur j)).map Zaf)= [Zaf (i64 (nthH cur j).st),Zaf (i64 (nthH cur j).no),Zaf (i64 (nthH cur j).ch),Zaf (i64 (nthH cur j).un),Zaf (bo (nthH cur j).pr),Zaf (i64 (nthH cur j).ke)]:=rfl
     rw [e'] at e
     rw [e,hh2,wrapN (by omega),wrapN (by omega)]
     refine Zcq (hc_low2 fr v _) ?_
     refine wrDf v fr hs hl hQ rest (j+1) (i+1) (cur.set i h) hd1 hj1 (by omega) (by simpa using hcl) ?_ ?_
     · rw [htake,List.filter_append,←ht,List.take_succ_eq_append_getElem (by simp;omega)]
       simp [hk,List.take_set_of_le]
     · rw [List.drop_set_of_lt (by omega)];exact hd2
   · have hk:keepH fr h=false:=by rw [←hh2];exact h1
     rw [wrapN (by omega)]
     refine Zcq (hc_low2 fr v _) ?_
     refine wrDf v fr hs hl hQ rest (j+1) i cur hd1 hj1 (by omega) hcl ?_ hd2
     rw [htake,List.filter_append,ht]
     simp [hk]
theorem first_take (fr:Int):∀hs:List HalfS,firstL fr hs<hs.length→hs.take (firstL fr hs)=(hs.take (firstL fr hs+1)).filter (keepH fr)
 | [],h=>by simp at h
 | h::r,hf=>by
   simp only [firstL] at hf ⊢
   split
   · rename_i h1;simp [keepH,h1]
   · rename_i h1
     rw [if_neg h1] at hf
     have:=first_take fr r (by simpa using hf)
     simp only [List.take_succ_cons,List.filter_cons,keepH,h1,Bool.not_false,if_true]
     rw [this]
theorem first_all (fr:Int):∀hs:List HalfS,¬firstL fr hs<hs.length→hs.filter (keepH fr)=hs
 | [],_=>rfl
 | h::r,hf=>by
   simp only [firstL] at hf
   split at hf
   · simp at hf
   · rename_i h1
     have:=first_all fr r (by simpa using hf)
     simp only [List.filter_cons,keepH,h1,Bool.not_false,if_true]
     rw [this]
def wlDf0 {β:Type}:WLT β:=fun c tm hp b K=>∃(v:Nat) (fr i j:Int) (hs out:List HalfS),c= .loop lpDf∧maskTm [0,1,5,6] 0 tm=tmDf v hs.length i j∧hp= [boxI fr,grB v (flatA (rowsH hs))]∧(hs.length<1000000∧firstL fr hs<hs.length∧i=firstL fr hs∧j=Zab Zck (i+1)∧out=hs.filter (keepH fr))∧
 ∀(cur:List HalfS) (j:Int),cur.length=hs.length→cur.take out.length=out→K (.exit 0) (tmDf v hs.length (out.length:Nat) j) [boxI fr,grB v (flatA (rowsH cur))] b
theorem wlDf0_ok {Ev:Env Tryd.prog} (c:Code) (tm:List AV) (hp:List Blk) (b:Ev.β) (K:Exit→List AV→List Blk→Ev.β→Prop) (h:wlDf0 c tm hp b K):W Ev c ⟨tm,hp,b⟩ (fun e s=>K e s.tm s.hp s.b):=by
 obtain ⟨v,fr,_,_,hs,_,rfl,htm,rfl,⟨hl,hf,rfl,rfl,rfl⟩,hK⟩:=h
 rw [wrapN (by omega)] at htm
 refine W.cast (htm▸maskTm_le _ tm 0) (Zby _) ?_
 exact W.rounds (wrDf (Q:=fun e s=>K e s.tm s.hp s.b) v fr hs hl hK (hs.drop (firstL fr hs+1)) (firstL fr hs+1) (firstL fr hs) hs rfl hf (by omega) rfl (first_take fr hs hf) rfl)
def TDf:List (Nat×(List AV→(AV→Prop)→Prop)):= [(4000011,cNone)]
theorem TDf_ok:CallsOk Tryd.prog TDf:=Zah cNone_ok Zao
def UDf:List (Nat×(List AV→List Blk→(AV→List Blk→Prop)→Prop)):= [(1000040,fun _ _ _=>False),(55,lendC cIndex)]
theorem UDf_ok:SCallsOk Tryd.prog UDf:=Zcg (fun _ _ _ h=>h.elim) (Zcg (lendC_ok cIndex_ok) Zal)
def wlDf {β:Type} (y:YieldT β):WLT β:=wlZ Tryd.prog ⟨TDf,UDf,fun _ _ _ _ _=>False,y,false⟩ wlDf0
theorem del_nf (v n:Nat) (fr:Int) (cs:List AV):wpc Tryd.prog ⟨TDf,UDf,wlDf y,y,false⟩ 100 (code Tryd.f38) (startTm Tryd.f38 [.gref 1 v n 6, .fn (.func 40) [] [.ptr 0 0]]) [boxI fr,grB v cs] b (fnKS Tryd.prog Tryd.f38 RS)=(v=v∧∃(xs0:List (List Dv)),cs=flatA xs0∧Zae xs0=n∧(∀(r:List Dv),r∈xs0→Zae r=6)∧∃(hs1:List HalfS) (fr2:Int) (z3:Int), [Zaf (Zax 6 xs0),Zcy (Fn.func 40) [] [AV.rptr [i64 fr]]]= [Zaf (Zax 6 (rowsH hs1)),Zcy (Fn.func 40) [] [AV.rptr [i64 fr2]]]∧(Zae hs1<1000000∧z3=indexS hs1 fr2)∧BIf (z3==(-1:Int)) (RS (AV.gref 1 v n 6) [cell (i64 fr),Blk.mk cs false true v] b) (∃(v4:Nat) (fr5:Int) (i6:Int) (j7:Int) (hs8:List HalfS) (out9:List HalfS),Zbw lpDf=Zbw lpDf∧(AV.gref 1 v n 6::Zcy (Fn.func 40) [] [Zde 0 0]::bds 3 (Zaf (i64 z3)::Zaf (i64 (Zab .i64 (z3+1)))::bds 35 []))=(AV.gref 1 v4 (Zae hs8) 6::Zcy (Fn.func 40) [] [Zde 0 0]::bds 3 (Zaf (i64 i6)::Zaf (i64 j7)::bds 35 []))∧ [cell (i64 fr),Blk.mk cs false true v]= [cell (i64 fr5),Blk.mk (flatA (rowsH hs8)) false true v4]∧(Zae hs8<1000000∧firstL fr5 hs8<Zae hs8∧i6=((firstL fr5 hs8:Nat):Int)∧j7=Zab .i64 (i6+1)∧out9=List.filter (keepH fr5) hs8)∧∀(cur:List HalfS) (j:Int),Zae cur=Zae hs8→List.take (Zae out9) cur=out9→v4=v4∧BIf (true&&decide (((Zae out9:Nat):Int)≤((Zae hs8:Nat):Int))) (BIf (true&&decide (((Zae out9:Nat):Int)≤((Zae hs8:Nat):Int))) (v4=v4∧RS (AV.gref 1 (v4+1) (Zbf ((Zae out9:Nat):Int)) 6) [cell (i64 fr5),Blk.mk (List.take (Zbf ((Zae out9:Nat):Int)*6) (List.take (Zbf ((Zae out9:Nat):Int)*6) (flatA (rowsH cur))++flatA (Zan (Zae hs8 - Zbf ((Zae out9:Nat):Int)) [i64 0,i64 0,i64 0,i64 0,bo false,i64 0]))) false true (v4+1)] b) False) False)):=by kernel_rfl
theorem del_body:Tryd.f38.body=some (code Tryd.f38):=by rfl
def delV (v:Nat) (fr:Int) (hs:List HalfS):Nat:=if firstL fr hs<hs.length then v+1 else v
theorem del_X (Ev:Env Tryd.prog):CX.Ok Ev ⟨TDf,UDf,wlDf Ev.Y,Ev.Y,false⟩:=
 CX.Ok.ofWl TDf_ok UDf_ok (wlZ_ok (X:=⟨TDf,UDf,fun _ _ _ _ _=>False,Ev.Y,false⟩) (CX.Ok.ofWl TDf_ok UDf_ok fun _ _ _ _ _ h=>h.elim) wlDf0_ok)
theorem del0_nf (fr:Int):wpc Tryd.prog ⟨TDf,UDf,wlDf y,y,false⟩ 100 (code Tryd.f38) (startTm Tryd.f38 [.d (.sl 6 []), .fn (.func 40) [] [.ptr 0 0]]) [boxI fr] b (fnKS Tryd.prog Tryd.f38 RS)=(∃(hs0:List HalfS) (fr1:Int) (z2:Int), [Zaf (Zax 6 []),Zcy (Fn.func 40) [] [AV.rptr [i64 fr]]]= [Zaf (Zax 6 (rowsH hs0)),Zcy (Fn.func 40) [] [AV.rptr [i64 fr1]]]∧(Zae hs0<1000000∧z2=indexS hs0 fr1)∧BIf (z2==(-1:Int)) (RS (Zaf (Zax 6 [])) [cell (i64 fr)] b) (∃(v3:Nat) (fr4:Int) (i5:Int) (j6:Int) (hs7:List HalfS) (out8:List HalfS),Zbw lpDf=Zbw lpDf∧(Zaf (Zax 6 [])::Zcy (Fn.func 40) [] [Zde 0 0]::bds 3 (Zaf (i64 z2)::Zaf (i64 (Zab .i64 (z2+1)))::bds 35 []))=(AV.gref 1 v3 (Zae hs7) 6::Zcy (Fn.func 40) [] [Zde 0 0]::bds 3 (Zaf (i64 i5)::Zaf (i64 j6)::bds 35 []))∧ [cell (i64 fr)]= [cell (i64 fr4),Blk.mk (flatA (rowsH hs7)) false true v3]∧(Zae hs7<1000000∧firstL fr4 hs7<Zae hs7∧i5=((firstL fr4 hs7:Nat):Int)∧j6=Zab .i64 (i5+1)∧out8=List.filter (keepH fr4) hs7)∧∀(cur:List HalfS) (j:Int),Zae cur=Zae hs7→List.take (Zae out8) cur=out8→v3=v3∧BIf (true&&decide (((Zae out8:Nat):Int)≤((Zae hs7:Nat):Int))) (BIf (true&&decide (((Zae out8:Nat):Int)≤((Zae hs7:Nat):Int))) (v3=v3∧RS (AV.gref 1 (v3+1) (Zbf ((Zae out8:Nat):Int)) 6) [cell (i64 fr4),Blk.mk (List.take (Zbf ((Zae out8:Nat):Int)*6) (List.take (Zbf ((Zae out8:Nat):Int)*6) (flatA (rowsH cur))++flatA (Zan (Zae hs7 - Zbf ((Zae out8:Nat):Int)) [i64 0,i64 0,i64 0,i64 0,bo false,i64 0]))) false true (v3+1)] b) False) False)):=by kernel_rfl
theorem scDel0 (fr:Int):SCall Tryd.prog 38 [.d (.sl 6 []), .fn (.func 40) [] [.ptr 0 0]] [boxI fr] (.d (.sl 6 [])) [boxI fr]:=by
 refine SCall.ofW Tryd.func38 del_body (by rfl) fun Ev b=> ?_
 refine wpc_sound (X:=⟨TDf,UDf,wlDf Ev.Y,Ev.Y,false⟩) (n:=100) mixed (del_X Ev) ?_ fun e tm hp b hK=>fnKS_sound hK
 refine Eq.mpr (del0_nf _ _ _ fr) ?_
 exact ⟨[],fr,_,rfl,⟨by simp,rfl⟩,Zcq rfl ⟨rfl,rfl⟩⟩
theorem scDel (v:Nat) (fr:Int) (hs:List HalfS) (hl:hs.length<1000000):
   SCall Tryd.prog 38 [.gref 1 v hs.length 6, .fn (.func 40) [] [.ptr 0 0]] [boxI fr,grB v (flatA (rowsH hs))] (.gref 1 (delV v fr hs) (hs.filter (keepH fr)).length 6) [boxI fr,grB (delV v fr hs) (flatA (rowsH (hs.filter (keepH fr))))]:=by
 refine SCall.ofW Tryd.func38 del_body (by rfl) fun Ev b=> ?_
 refine wpc_sound (X:=⟨TDf,UDf,wlDf Ev.Y,Ev.Y,false⟩) (n:=100) mixed (del_X Ev) ?_ fun e tm hp b hK=>fnKS_sound hK
 refine Eq.mpr (del_nf _ _ _ v hs.length fr _) ?_
 refine ⟨rfl,rowsH hs,rfl,rowsH_len hs,fun r hr=> ?_,hs,fr,_,rfl,⟨hl,rfl⟩,Zas (fun h1=> ?_) fun h1=> ?_⟩
 · simp only [rowsH,List.mem_map] at hr
   obtain ⟨x,_,rfl⟩:=hr;rfl
 · have hn:¬firstL fr hs<hs.length:=by
     intro h
     simp only [indexS,if_pos h,beq_iff_eq] at h1
     omega
   rw [delV,if_neg hn,first_all fr hs hn]
   exact ⟨rfl,rfl⟩
 · have hn:firstL fr hs<hs.length:=by
     apply Classical.byContradiction
     intro h
     simp [indexS,if_neg h] at h1
   have hle:(hs.filter (keepH fr)).length≤hs.length:=List.length_filter_le _ _
   refine ⟨v,fr,_,_,hs,_,rfl,rfl,rfl,⟨hl,hn,by rw [indexS,if_pos hn],rfl,rfl⟩,fun cur j hcl hct=>⟨rfl,Zcq (by simp;exact hle) (Zcq (by simp;exact hle) ⟨rfl, ?_⟩)⟩⟩
   rw [Int.toNat_natCast,delV,if_pos hn]
   refine ⟨rfl, ?_⟩
   have e:((flatA (rowsH cur)).take ((hs.filter (keepH fr)).length*6)).length=(hs.filter (keepH fr)).length*6:=by
     rw [List.length_take,hc_len,hcl];omega
   rw [List.take_append_of_le_length (by rw [e];exact Nat.le_refl _),List.take_take,Nat.min_self,hc_take,hct]
   rfl
def sDel (args:List AV) (hp:List Blk) (K:AV→List Blk→Prop):Prop:=match hp with
 | [b0]=>∃(fr:Int),args= [.d (.sl 6 []), .fn (.func 40) [] [.ptr 0 0]]∧b0=boxI fr∧K (.d (.sl 6 [])) [boxI fr]
 | [b0,b1]=>∃(v n:Nat) (fr:Int) (hs out:List HalfS),args= [.gref 1 v n 6, .fn (.func 40) [] [.ptr 0 0]]∧b0=boxI fr∧b1=grB v (flatA (rowsH hs))∧(n=hs.length∧hs.length<1000000∧out=hs.filter (keepH fr))∧
   ∀v',K (.gref 1 v' out.length 6) [boxI fr,grB v' (flatA (rowsH out))]
 |_=>False
theorem sDel_ok:∀args hp K,sDel args hp K→∃x hp',SCall Tryd.prog 38 args hp x hp'∧K x hp':=by
 intro args hp K h
 unfold sDel at h
 split at h
 · obtain ⟨fr,rfl,rfl,h⟩:=h
   exact ⟨_,_,scDel0 fr,h⟩
 · obtain ⟨v,_,fr,hs,_,rfl,rfl,rfl,⟨rfl,hl,rfl⟩,h⟩:=h
   exact ⟨_,_,scDel v fr hs hl,h _⟩
 · exact h.elim
theorem SCall.toSl {P:Program} {f k:Nat} {args:List AV} {hp hp':List Blk} {xs:List (List Dv)} (h:SCall P f args hp (.full k xs) hp'):SCall P f args hp (.d (.sl k xs)) hp':=by
 refine ⟨h.1,fun S X yv w m B hv vs hl hr=>CallsIn.mono (h.2 S X yv w m B hv vs hl hr) ?_⟩
 rintro e w' ⟨v,S',m',hv',he,h1,h2⟩
 have hrv:=h2.rv _ (List.mem_cons_self ..)
 refine ⟨v,S',m',hv',he,h1,(h2.sub (List.sublist_cons_self _ _)).cons ?_ rfl⟩
 cases hrv with|full h=>exact .d h
def sCl6 (args:List AV) (hp:List Blk) (K:AV→List Blk→Prop):Prop:=∃(hs:List HalfS),args= [.d (.sl 6 (rowsH hs))]∧hs.length<1000000∧BIf hs.isEmpty (K (.d (.sl 6 [])) hp) (K (.gref hp.length 0 hs.length 6) (hp++ [grB 0 (flatA (rowsH hs))]))
theorem sCl6_ok:∀args hp K,sCl6 args hp K→∃x hp',SCall Tryd.prog 39 args hp x hp'∧K x hp':=by
 rintro _ hp K ⟨hs,rfl,hl,hK⟩
 have h1:=(pcClone39 (rowsH hs) (by rw [rowsH_len];omega)).toS rfl hp
 cases hs with
 |nil=>exact ⟨_,_,SCall.toSl h1,by simpa [rowsH,shiftH,BIf] using hK⟩
 | cons a r=>
   refine ⟨_,_,h1, ?_⟩
   simpa [rowsH,shift,shiftH,shiftB,blkG,shifts_flatA,BIf,grB] using hK
def UEx:List (Nat×(List AV→List Blk→(AV→List Blk→Prop)→Prop)):= [(1000040,fun _ _ _=>False),(39,sCl6),(38,sDel)]
theorem UEx_ok:SCallsOk Tryd.prog UEx:=Zcg (fun _ _ _ h=>h.elim) (Zcg sCl6_ok (Zcg sDel_ok Zal))
theorem expire_nf (hs:List HalfS) (fr:Int):wpFn Tryd.prog ⟨[],UEx,wl,y,false⟩ 100 Tryd.f16 [.d (.sl 6 (rowsH hs)), .d (i64 fr)] b R=(∃(hs0:List HalfS), [Zaf (Zax 6 (rowsH hs))]= [Zaf (Zax 6 (rowsH hs0))]∧Zae hs0<1000000∧BIf (List.isEmpty hs0) (∃(fr1:Int), [Zaf (Zax 6 []),Zcy (Fn.func 40) [] [Zde 0 0]]= [Zaf (Zax 6 []),Zcy (Fn.func 40) [] [Zde 0 0]]∧cell (i64 fr)=cell (i64 fr1)∧R (.d (Zax 6 [])) b) (∃(v2:Nat) (n3:Nat) (fr4:Int) (hs5:List HalfS) (out6:List HalfS), [AV.gref 1 0 (Zae hs0) 6,Zcy (Fn.func 40) [] [Zde 0 0]]= [AV.gref 1 v2 n3 6,Zcy (Fn.func 40) [] [Zde 0 0]]∧cell (i64 fr)=cell (i64 fr4)∧Blk.mk (flatA (rowsH hs0)) false true 0=Blk.mk (flatA (rowsH hs5)) false true v2∧(n3=Zae hs5∧Zae hs5<1000000∧out6=List.filter (keepH fr4) hs5)∧∀(v':Nat),v'=v'∧∃(xs7:List (List Dv)),flatA (rowsH out6)=flatA xs7∧Zae xs7=Zae out6∧(∀(r:List Dv),r∈xs7→Zae r=6)∧R (.d (Zax 6 xs7)) b)):=by kernel_rfl
theorem rowsH_six (hs:List HalfS):∀r∈rowsH hs,r.length=6:=by
 intro r hr
 simp only [rowsH,List.mem_map] at hr
 obtain ⟨x,_,rfl⟩:=hr;rfl
def expireS (hs:List HalfS) (fr:Int):List HalfS:=hs.filter (keepH fr)
theorem pcExpire (hs:List HalfS) (fr:Int) (hl:hs.length<1000000):PCall Tryd.prog 16 [.d (.sl 6 (rowsH hs)), .d (i64 fr)] (.d (.sl 6 (rowsH (expireS hs fr)))):=by
 refine Zbo (n:=100) (u:=false) mixed Zao UEx_ok Tryd.func16 (by rfl) (by rfl) fun Ev bb=> ?_
 rw [expire_nf]
 refine ⟨hs,rfl,hl,Zas (fun h1=> ?_) fun h1=> ?_⟩
 · have h2:hs= []:=List.isEmpty_iff.1 h1
   subst h2
   exact ⟨fr,rfl,rfl,rfl⟩
 · refine ⟨0,_,fr,hs,_,rfl,rfl,rfl,⟨rfl,hl,rfl⟩,fun v'=>⟨rfl,rowsH (hs.filter (keepH fr)),rfl,rowsH_len _,rowsH_six _,rfl⟩⟩
def cExpire (args:List AV) (K:AV→Prop):Prop:=∃(hs q:List HalfS) (fr:Int),args= [.d (.sl 6 (rowsH hs)), .d (i64 fr)]∧(hs.length<1000000∧q=expireS hs fr)∧K (.d (.sl 6 (rowsH q)))
theorem cExpire_ok:∀args K,cExpire args K→∃x,PCall Tryd.prog 16 args x∧K x:=by
 rintro _ K ⟨hs,_,fr,rfl,⟨hl,rfl⟩,hk⟩;exact ⟨_,pcExpire hs fr hl,hk⟩
def gath {γ:Type} (n:Nat) (step:Nat→List γ):List γ:=(List.range n).flatMap step
theorem gath_succ {γ:Type} (n:Nat) (step:Nat→List γ):gath (n+1) step=gath n step++step n:=by simp [gath,List.range_succ]
theorem gath_len {γ:Type} {step:Nat→List γ} (h:∀i,(step i).length≤1):∀n,(gath n step).length≤n
 |0=>Nat.le_refl _
 |n+1=>by have:=gath_len h n;have:=h n;rw [gath_succ,List.length_append];omega
theorem WR.gathK {P:Program} {Ev:Env P} {X:CX Ev.β} {lp:Code} {b:Ev.β} {Q:Exit→St Ev.β→Prop} {k:Nat} {γ:Type} (keep:List Nat) (hm:P.follows .mixedOrders=true) (hX:X.Ok) (n:Nat) (step:Nat→List γ) (hs:∀i,(step i).length≤1) (tmOf:List γ→Nat→List AV) (hp:List Blk) (id:Nat)
   (hr:∀(i:Nat) (acc:List γ),i<n→acc.length≤i→∀K:Exit→List AV→List Blk→Ev.β→Prop,K .normal (tmOf (acc++step i) (i+1)) hp b→wpc P X k lp (tmOf acc i) hp b (maskK hp.length keep K))
   (he:∀(acc:List γ) (K:Exit→List AV→List Blk→Ev.β→Prop),K (.exit id) (tmOf acc n) hp b→wpc P X k lp (tmOf acc n) hp b (maskK hp.length keep K))
   (hQ:Q (.exit id) ⟨tmOf (gath n step) n,hp,b⟩):WR Ev lp (n+1) ⟨tmOf [] 0,hp,b⟩ Q:=by
 have key:∀(m i:Nat),i+m=n→WR Ev lp (m+1) ⟨tmOf (gath i step) i,hp,b⟩ Q:=by
   intro m
   induction m with
   | zero=>
     intro i hi
     have:i=n:=by omega
     subst this
     exact Zco keep hm hX (he _ _ hQ)
   | succ m ih=>
     intro i hi
     refine Zco keep hm hX (hr i _ (by omega) (gath_len hs i) _ ?_)
     rw [←gath_succ]
     exact ih (i+1) (by omega)
 exact key n 0 (by omega)
def rowsW (ws:List WordS):List (List Dv):=ws.map wordR
noncomputable def lpTo:Code:=sub [1,1,1,0,1,2,3] (code Tryd.f41)
def tmTo (hs:List HalfS) (me kd:Int) (pr:Bool) (acc:AV) (n i:Int):List AV:= [.bad, .d (i64 me), .d (i64 kd), .d (bo pr), .bad, .bad, .bad, .bad, .bad,acc, .bad, .bad]++Zan 8 .bad++ [.d (.sl 6 (rowsH hs)), .d (i64 n), .d (i64 i)]++Zan 23 .bad
theorem rTo (hs:List HalfS) (ws:List (List Dv)) (me kd n i:Int) (pr:Bool):wpc Tryd.prog ⟨[], [],wl,y,false⟩ 100 lpTo (tmTo hs me kd pr (.own 26 8 ws) n i) [] b (maskK 0 [1,2,3,9,20,21,22] K)=(BIf (decide (i<n)) (BIf (true&&decide (0≤i)) (∃(x0:Int) (x1:Int) (x2:Int) (x3:Int) (b4:Bool) (x5:Int),(rowsH hs)[Zbf i]? =some (Qz13 x0 x1 x2 x3 b4 x5)∧BIf (b4==pr) (BIf (true&&decide ((Zae ws+1)*64≤140737488355328)) (K .normal (Zat::Zaf (i64 me)::Zaf (i64 kd)::Zaf (bo pr)::bds 5 (AV.own 26 8 (ws++ [[i64 kd,i64 x0,i64 me,i64 x1,i64 x2,i64 x5,i64 0,i64 0]])::bds 10 (Zaf (Zax 6 (rowsH hs))::Zaf (i64 n)::Zaf (i64 (Zab .i64 (i+1)))::bds 23 []))) [] b) False) (K .normal (Zat::Zaf (i64 me)::Zaf (i64 kd)::Zaf (bo pr)::bds 5 (AV.own 26 8 ws::bds 10 (Zaf (Zax 6 (rowsH hs))::Zaf (i64 n)::Zaf (i64 (Zab .i64 (i+1)))::bds 23 []))) [] b)) False) (K (Exit.exit 0) (Zat::Zaf (i64 me)::Zaf (i64 kd)::Zaf (bo pr)::bds 5 (AV.own 26 8 ws::bds 10 (Zaf (Zax 6 (rowsH hs))::Zaf (i64 n)::Zaf (i64 i)::bds 23 []))) [] b)):=by kernel_rfl
end Go.Proofs.YtlnenbbmhidjeaaDoor.Am
namespace Go.Proofs.YtlnenbbmhidjeaaDoor.Am
open Go Go.RowKit Go.Proofs Go.ChangeShapes Go.WideShapes Go.ChangeAt
open AV renaming agg → Zbk, bad → Zat, d → Zaf, fn → Zcy, ptr → Zde
open BIf renaming of → Zas, t → Zcq
open Bool renaming and_eq_true → Zag
open CallsOk renaming cons → Zah, nil → Zao
open Go.Code renaming loop → Zbw
open Dv renaming sl → Zax
open Env renaming mapped → Zcx
open Int renaming toNat → Zbf
open Go.IntKind renaming i64 → Zck, wrap → Zab
open LeH renaming refl → Zby
open List renaming length → Zae, replicate → Zan
open PCall renaming ofFn → Zbo, ofFnW → Zdd
open SCallsOk renaming cons → Zcg, nil → Zal
open Go.Value renaming map → Zbq
open WR renaming ofMask → Zco
open WordS renaming ch → Zdn, ki → Zcs, no → Zcm, st → Zcl
open AV (bad)
set_option linter.unusedVariables false
theorem Try_own:ownKnob Tryd.prog.godebug=none:=by kernel_rfl
theorem Try_laidOut:laidOutB Tryd.prog=true:=by kernel_rfl
def laid1:List (String×DataW Unit):= [("slotmesh/random.steps",Rows.laid_slotmesh_random_steps)]
theorem gn0:Tryd.prog.globalNamed "slotmesh/random.steps" =some 0:=by kernel_rfl
theorem flat_of {P:Program} {g n t:Nat} (h:(P.globals[g]?).map (·.type)=some t) (k:(((P.globals[g]?).map (·.type)).bind (flat P n)).isSome=true):∃tys,flat P n t=some tys:=by
 rw [h] at k;exact Option.isSome_iff_exists.1 k
theorem fl0:(((Tryd.prog.globals[0]?).map (·.type)).bind (flat Tryd.prog 9)).isSome=true:=by kernel_rfl
theorem glob_met {W:World} (h:laidMetH Tryd.prog laid1 W):Glob (AllOf W) W:=by
 rw [MakeChecks.laidMetH_plain _ _ _ (by kernel_rfl)] at h
 obtain ⟨ps,⟨g0,t0,cs0,f0,p0,q0,hg0,ht0,hv0,hd0,_⟩,_,_⟩:=h
 obtain rfl:=Option.some.inj (gn0.symm.trans hg0)
 have e0:=flat_of ht0 fl0
 obtain ⟨tys0,e0⟩:=e0
 have v0:=var_at gn0 hv0 hd0 e0 (k:=9) (vs:=laidTable 0) (by kernel_rfl)
 have one:∀g,g<1→∀v∈laidTable g,v.oneCell'=true:=by
   have:(List.range 1).all (fun g=>(laidTable g).all fun v=>v.oneCell')=true:=by kernel_rfl
   intro g hg v hv
   exact List.all_eq_true.1 (List.all_eq_true.1 this g (List.mem_range.2 hg)) v hv
 refine glob_of fun g hg j v hj=> ?_
 match g,hg with
 |0,_=>exact ⟨v0 j v hj,one 0 (by omega) v (List.mem_of_getElem? hj)⟩
 |n+1,hg=>exact absurd rfl hg
theorem door_met (os:Os) (args:Array Value):laidMetH Tryd.prog laid1 ((World.doorLaid Tryd.prog 400 os).forCall (fun _ _=>0) ⟨#[],args, []⟩).memory:=
 laidMetH_of_parts3 (fuel:=8) (laidMet_of_run' 8 (by kernel_rfl) (by kernel_rfl)) (by kernel_rfl) (by kernel_rfl)
def halfTys:List Ty:= [.int .i64, .int .i64, .int .i64, .int .i64, .bool, .int .i64]
theorem half_row {row:List Dv} (h:HasTys halfTys row):∃x:HalfS,row=halfR x:=by
 unfold halfTys at h
 obtain _|⟨h0,h⟩:=h
 obtain _|⟨h1,h⟩:=h
 obtain _|⟨h2,h⟩:=h
 obtain _|⟨h3,h⟩:=h
 obtain _|⟨h4,h⟩:=h
 obtain _|⟨h5,h⟩:=h
 cases h
 cases h0;cases h1;cases h2;cases h3;cases h4;cases h5
 exact ⟨⟨_,_,_,_,_,_⟩,rfl⟩
theorem halves_of {x:Dv} (h:HasTy (.sl halfTys) x):∃l:List HalfS,x= .sl 6 (rowsH l)∧l.length≤maxLen∧True:=by
 cases h with
 | sl _ xs hl h=>
   have key:∀(xs:List (List Dv)),(∀row∈xs,HasTys halfTys row)→∃l:List HalfS,xs=rowsH l:=by
     intro xs
     induction xs with
     |nil=>exact fun _=>⟨[],rfl⟩
     | cons row xs ih=>
       intro h
       obtain ⟨p,rfl⟩:=ih fun r hr=>h r (List.mem_cons_of_mem _ hr)
       obtain ⟨x,rfl⟩:=half_row (h row (List.mem_cons_self ..))
       exact ⟨x::p,rfl⟩
   obtain ⟨p,rfl⟩:=key xs h
   exact ⟨p,rfl,by simpa [rowsH] using hl,trivial⟩
theorem flatHs:flat Tryd.prog 20 22=some [.sl halfTys]:=by kernel_rfl
end Go.Proofs.YtlnenbbmhidjeaaDoor.Am
namespace Go.Proofs.YtlnenbbmhidjeaaDoor.Am
open Go Go.RowKit Go.Proofs
open AV renaming agg → Zbk, bad → Zat, d → Zaf, fn → Zcy, ptr → Zde
open BIf renaming of → Zas, t → Zcq
open Bool renaming and_eq_true → Zag
open CallsOk renaming cons → Zah, nil → Zao
open Go.Code renaming loop → Zbw
open Dv renaming sl → Zax
open Env renaming mapped → Zcx
open Int renaming toNat → Zbf
open Go.IntKind renaming i64 → Zck, wrap → Zab
open LeH renaming refl → Zby
open List renaming length → Zae, replicate → Zan
open PCall renaming ofFn → Zbo, ofFnW → Zdd
open SCallsOk renaming cons → Zcg, nil → Zal
open Go.Value renaming map → Zbq
open WR renaming ofMask → Zco
open WordS renaming ch → Zdn, ki → Zcs, no → Zcm, st → Zcl
variable {β:Type} (wl:WLT β) (y:YieldT β) (b:β) (R:AV→β→Prop) (RS:AV→List Blk→β→Prop) (K:Exit→List AV→List Blk→β→Prop) (Q:β→Prop)
open AV (bad)
set_option linter.unusedVariables false
set_option maxRecDepth 20000
set_option maxHeartbeats 1000000
theorem gath_nthH {γ:Type} (f:HalfS→List γ):∀(hs:List HalfS),gath hs.length (fun i=>f (nthH hs i))=hs.flatMap f:=by
 intro hs
 have key:∀k,k≤hs.length→gath k (fun i=>f (nthH hs i))=(hs.take k).flatMap f:=by
   intro k
   induction k with
   |zero=>intro _;simp [gath]
   | succ k ih=>
     intro hk
     rw [gath_succ,ih (by omega),List.take_succ_eq_append_getElem (by omega),List.flatMap_append]
     simp [nthH,show k<hs.length by omega]
 rw [key _ (Nat.le_refl _),List.take_length]
def wordOf (me kd:Int) (h:HalfS):WordS:=⟨kd,h.st,me,h.no,h.ch,h.ke,0,0⟩
def stepTo (me kd:Int) (pr:Bool) (h:HalfS):List WordS:=if (h.pr==pr)=true then [wordOf me kd h] else []
def toldW (hs:List HalfS) (me kd:Int) (pr:Bool):List WordS:=hs.flatMap (stepTo me kd pr)
theorem rowsW_app (a b:List WordS):rowsW (a++b)=rowsW a++rowsW b:=by simp [rowsW]
theorem rowsW_len (a:List WordS):(rowsW a).length=a.length:=by simp [rowsW]
theorem stepTo_len (me kd:Int) (pr:Bool) (h:HalfS):(stepTo me kd pr h).length≤1:=by unfold stepTo;split<;>simp
theorem wrTo {Ev:Env Tryd.prog} {b:Ev.β} {Q:Exit→St Ev.β→Prop} (hs:List HalfS) (me kd:Int) (pr:Bool) (hl:hs.length<1000000) (hQ:∀i:Int,Q (.exit 0) ⟨tmTo hs me kd pr (.own 26 8 (rowsW (toldW hs me kd pr))) hs.length i, [],b⟩):
   WR Ev lpTo (hs.length+1) ⟨tmTo hs me kd pr (.own 26 8 (rowsW [])) hs.length (0:Nat), [],b⟩ Q:=by
 refine WR.gathK (X:=⟨[], [],wlW Ev,Ev.Y,false⟩) (k:=100) [1,2,3,9,20,21,22] mixed (CX.Ok.of Zao Zal) hs.length (fun i=>stepTo me kd pr (nthH hs i)) (fun i=>stepTo_len me kd pr _) (fun acc i=>tmTo hs me kd pr (.own 26 8 (rowsW acc)) hs.length (i:Nat)) [] 0 (fun i acc hi ha K k1=> ?_) (fun acc K k1=> ?_) ?_
 · refine Eq.mpr (rTo _ _ _ K hs _ me kd hs.length i pr) ?_
   rw [Int.toNat_natCast,rowsH_at hi]
   refine Zcq (by simp;omega) (Zcq (by simp) ⟨_,_,_,_,_,_,rfl,Zas (fun h1=> ?_) fun h1=> ?_⟩)
   · refine Zcq (by simp [rowsW];omega) ?_
     rw [stepTo,if_pos h1,rowsW_app] at k1
     rw [wrapN (by omega)]
     exact k1
   · rw [stepTo,if_neg (by rw [h1];decide),List.append_nil] at k1
     rw [wrapN (by omega)]
     exact k1
 · refine Eq.mpr (rTo _ _ _ K hs _ me kd hs.length _ pr) ?_
   exact BIf.f (by simp) k1
 · rw [gath_nthH];exact hQ _
def wlTo {β:Type}:WLT β:=fun c tm hp b K=>∃(hs:List HalfS) (q:List WordS) (me kd:Int) (pr:Bool),c= .loop lpTo∧maskTm [1,2,3,9,20,21,22] 0 tm=tmTo hs me kd pr nilA (rowsH hs).length 0∧hp= []∧(hs.length<1000000∧q=toldW hs me kd pr)∧
 ∀i:Int,K (.exit 0) (tmTo hs me kd pr (.own 26 8 (rowsW q)) hs.length i) [] b
theorem wlTo_ok {Ev:Env Tryd.prog} (c:Code) (tm:List AV) (hp:List Blk) (b:Ev.β) (K:Exit→List AV→List Blk→Ev.β→Prop) (h:wlTo c tm hp b K):W Ev c ⟨tm,hp,b⟩ (fun e s=>K e s.tm s.hp s.b):=by
 obtain ⟨hs,_,me,kd,pr,rfl,htm,rfl,⟨hl,rfl⟩,hK⟩:=h
 rw [rowsH_len] at htm
 refine W.cast (htm▸maskTm_le _ tm 0) (Zby _) ?_
 refine W.cast (tm':=tmTo hs me kd pr (.own 26 8 (rowsW [])) hs.length 0) (LeL.at [_,_,_,_,_,_,_,_,_] _ (LeA.nilOwn rfl)) (Zby _) ?_
 exact W.rounds (wrTo (Q:=fun e s=>K e s.tm s.hp s.b) hs me kd pr hl hK)
def TTo:List (Nat×(List AV→(AV→Prop)→Prop)):= [(13,cValid),(54,cNode)]
theorem TTo_ok:CallsOk Tryd.prog TTo:=Zah cValid_ok (Zah cNode_ok Zao)
abbrev Qz30 (v0:Int) (v1:Int) (v2:Bool) (v3:List HalfS):=Zat::Zaf (i64 v0)::Zaf (i64 v1)::Zaf (bo v2)::bds 5 (Zaf (Dv.s (.slice none 0 0))::bds 10 (Zaf (Zax 6 (rowsH v3))::Zaf (i64 ((Zae (rowsH v3):Nat):Int))::Zaf (i64 0)::bds 23 []))
theorem told_nf (hs:List HalfS) (me kd:Int) (pr:Bool):wpFn Tryd.prog ⟨TTo, [],wlTo,y,false⟩ 100 Tryd.f41 [.d (.sl 6 (rowsH hs)), .d (i64 me), .d (i64 kd), .d (bo pr)] b R=(∃(hs0:List HalfS) (z1:Bool), [Zaf (Zax 6 (rowsH hs))]= [Zaf (Zax 6 (rowsH hs0))]∧(Zae hs0≤9223372036854775807∧z1=validH hs0)∧BIf (!z1) (R (.d (Dv.s (.slice none 0 0))) b) (∃(n2:Int), [Zaf (i64 me)]= [Zaf (i64 n2)]∧BIf (!nodeN n2) (R (.d (Dv.s (.slice none 0 0))) b) (∃(hs3:List HalfS) (q4:List WordS) (me5:Int) (kd6:Int) (pr7:Bool),Zbw lpTo=Zbw lpTo∧(Qz30 me kd pr hs)=(Qz30 me5 kd6 pr7 hs3)∧([]:List Blk)= []∧(Zae hs3<1000000∧q4=toldW hs3 me5 kd6 pr7)∧∀(i:Int),R (.d (Zax 8 (rowsW q4))) b))):=by kernel_rfl
def toldS (hs:List HalfS) (me kd:Int) (pr:Bool):List WordS:=if (!validH hs)=true then [] else if (!nodeN me)=true then [] else toldW hs me kd pr
theorem pcTold (hs:List HalfS) (me kd:Int) (pr:Bool) (hl:hs.length<1000000):PCall Tryd.prog 41 [.d (.sl 6 (rowsH hs)), .d (i64 me), .d (i64 kd), .d (bo pr)] (.d (.sl 8 (rowsW (toldS hs me kd pr)))):=by
 refine PCall.ofFnL (n:=100) (u:=false) (fun _=>wlTo) mixed TTo_ok Zal (fun Ev=>wlTo_ok) Tryd.func41 (by rfl) (by rfl) fun Ev bb=> ?_
 rw [told_nf]
 refine ⟨hs,_,rfl,⟨by omega,rfl⟩,Zas (fun h1=> ?_) fun h1=>⟨me,rfl,Zas (fun h2=> ?_) fun h2=>⟨hs,_,me,kd,pr,rfl,rfl,rfl,⟨hl,rfl⟩,fun i=> ?_⟩⟩⟩
 · rw [toldS,if_pos h1];exact .base (LeA.nilSl rfl)
 · rw [toldS,if_neg (by rw [h1];decide),if_pos h2];exact .base (LeA.nilSl rfl)
 · rw [toldS,if_neg (by rw [h1];decide),if_neg (by rw [h2];decide)];exact .base LeA.rfl
def cTold (args:List AV) (K:AV→Prop):Prop:=∃(hs:List HalfS) (q:List WordS) (me kd:Int) (pr:Bool),args= [.d (.sl 6 (rowsH hs)), .d (i64 me), .d (i64 kd), .d (bo pr)]∧(hs.length<1000000∧q=toldS hs me kd pr)∧K (.d (.sl 8 (rowsW q)))
theorem cTold_ok:∀args K,cTold args K→∃x,PCall Tryd.prog 41 args x∧K x:=by
 rintro _ K ⟨hs,_,me,kd,pr,rfl,⟨hl,rfl⟩,hk⟩;exact ⟨_,pcTold hs me kd pr hl,hk⟩
def TWd:List (Nat×(List AV→(AV→Prop)→Prop)):= [(41,cTold)]
theorem TWd_ok:CallsOk Tryd.prog TWd:=Zah cTold_ok Zao
theorem words_nf (hs:List HalfS) (me:Int):wpFn Tryd.prog ⟨TWd, [],wl,y,false⟩ 100 Tryd.f19 [.d (.sl 6 (rowsH hs)), .d (i64 me)] b R=(∃(hs0:List HalfS) (q1:List WordS) (me2:Int) (kd3:Int) (pr4:Bool), [Zaf (Zax 6 (rowsH hs)),Zaf (i64 me),Zaf (i64 2),Zaf (bo false)]= [Zaf (Zax 6 (rowsH hs0)),Zaf (i64 me2),Zaf (i64 kd3),Zaf (bo pr4)]∧(Zae hs0<1000000∧q1=toldS hs0 me2 kd3 pr4)∧R (.d (Zax 8 (rowsW q1))) b):=by kernel_rfl
theorem proofs_nf (hs:List HalfS) (me:Int):wpFn Tryd.prog ⟨TWd, [],wl,y,false⟩ 100 Tryd.f21 [.d (.sl 6 (rowsH hs)), .d (i64 me)] b R=(∃(hs0:List HalfS) (q1:List WordS) (me2:Int) (kd3:Int) (pr4:Bool), [Zaf (Zax 6 (rowsH hs)),Zaf (i64 me),Zaf (i64 3),Zaf (bo true)]= [Zaf (Zax 6 (rowsH hs0)),Zaf (i64 me2),Zaf (i64 kd3),Zaf (bo pr4)]∧(Zae hs0<1000000∧q1=toldS hs0 me2 kd3 pr4)∧R (.d (Zax 8 (rowsW q1))) b):=by kernel_rfl
theorem pcWords (hs:List HalfS) (me:Int) (hl:hs.length<1000000):PCall Tryd.prog 19 [.d (.sl 6 (rowsH hs)), .d (i64 me)] (.d (.sl 8 (rowsW (toldS hs me 2 false)))):=by
 refine Zbo (n:=100) (u:=false) mixed TWd_ok Zal Tryd.func19 (by rfl) (by rfl) fun Ev bb=> ?_
 rw [words_nf]
 exact ⟨hs,_,me,2,false,rfl,⟨hl,rfl⟩,rfl⟩
theorem pcProofs (hs:List HalfS) (me:Int) (hl:hs.length<1000000):PCall Tryd.prog 21 [.d (.sl 6 (rowsH hs)), .d (i64 me)] (.d (.sl 8 (rowsW (toldS hs me 3 true)))):=by
 refine Zbo (n:=100) (u:=false) mixed TWd_ok Zal Tryd.func21 (by rfl) (by rfl) fun Ev bb=> ?_
 rw [proofs_nf]
 exact ⟨hs,_,me,3,true,rfl,⟨hl,rfl⟩,rfl⟩
def cWords (args:List AV) (K:AV→Prop):Prop:=∃(hs:List HalfS) (q:List WordS) (me:Int),args= [.d (.sl 6 (rowsH hs)), .d (i64 me)]∧(hs.length<1000000∧q=toldS hs me 2 false)∧K (.d (.sl 8 (rowsW q)))
theorem cWords_ok:∀args K,cWords args K→∃x,PCall Tryd.prog 19 args x∧K x:=by
 rintro _ K ⟨hs,_,me,rfl,⟨hl,rfl⟩,hk⟩;exact ⟨_,pcWords hs me hl,hk⟩
def cProofs (args:List AV) (K:AV→Prop):Prop:=∃(hs:List HalfS) (q:List WordS) (me:Int),args= [.d (.sl 6 (rowsH hs)), .d (i64 me)]∧(hs.length<1000000∧q=toldS hs me 3 true)∧K (.d (.sl 8 (rowsW q)))
theorem cProofs_ok:∀args K,cProofs args K→∃x,PCall Tryd.prog 21 args x∧K x:=by
 rintro _ K ⟨hs,_,me,rfl,⟨hl,rfl⟩,hk⟩;exact ⟨_,pcProofs hs me hl,hk⟩
def TBr:List (Nat×(List AV→(AV→Prop)→Prop)):= [(62,cNextR),(61,cHalfR)]
theorem TBr_ok:CallsOk Tryd.prog TBr:=Zah cNextR_ok (Zah cHalfR_ok Zao)
theorem belowR_nf (x n:Int):wpFn Tryd.prog ⟨TBr, [],wl,y,false⟩ 100 Tryd.f53 [.d (u64 x), .d (i64 n)] b R=(BIf (decide (n<(1:Int))) (R (.d (i64 0)) b) (BIf (decide (n>(1000000000:Int))) (R (.d (i64 0)) b) (∃(x0:Int), [Zaf (u64 x)]= [Zaf (u64 x0)]∧∃(x1:Int), [Zaf (u64 (nextS x0))]= [Zaf (u64 x1)]∧BIf (decide (n=(0:Int))||false) False (R (.d (i64 (Int.tmod (halfS x1) n))) b)))):=by kernel_rfl
theorem idR_nf (n:Int):wpFn Tryd.prog ⟨[], [],wl,y,false⟩ 100 Tryd.f52 [.d (i64 n)] b R=(BIf (decide (n≥(0:Int))) (R (Zaf (bo (decide (n<(60:Int))))) b) (R (Zaf (bo false)) b)):=by kernel_rfl
theorem formedH_nf (h:HalfS):wpFn Tryd.prog ⟨[], [],wl,y,false⟩ 100 Tryd.f37 [halfA h] b R=(BIf (decide (HalfS.st h<(0:Int))) (R (.d (bo false)) b) (BIf (decide (HalfS.st h>(59:Int))) (R (.d (bo false)) b) (BIf (decide (HalfS.no h<(0:Int))) (R (.d (bo false)) b) (BIf (decide (HalfS.no h>(1000000000:Int))) (R (.d (bo false)) b) (BIf (decide (HalfS.ch h<(0:Int))) (R (.d (bo false)) b) (BIf (decide (HalfS.ch h>(1000000000:Int))) (R (.d (bo false)) b) (BIf (decide (HalfS.un h≥(0:Int))) (BIf (decide (HalfS.un h≤(1000000000:Int))) (BIf (decide (HalfS.ke h≥(0:Int))) (BIf (decide (HalfS.ke h≤(2000000:Int))) (BIf (HalfS.ke h==(0:Int)) (R (.d (bo true)) b) (R (.d (bo (HalfS.pr h))) b)) (R (.d (bo false)) b)) (R (.d (bo false)) b)) (R (.d (bo false)) b)) (R (.d (bo false)) b)))))))):=by kernel_rfl
theorem pcBelowR (x n:Int):PCall Tryd.prog 53 [.d (u64 x), .d (i64 n)] (.d (i64 (belowS x n))):=by
 refine Zbo (n:=100) (u:=false) mixed TBr_ok Zal Tryd.func53 (by rfl) (by rfl) fun Ev bb=> ?_
 rw [belowR_nf]
 refine Zas (fun h1=>by rw [belowS,if_pos (of_decide_eq_true h1)]) fun h1=>Zas (fun h2=>by rw [belowS,if_neg (of_decide_eq_false h1),if_pos (of_decide_eq_true h2)]) fun h2=>⟨x,rfl,_,rfl, ?_⟩
 have h1:=of_decide_eq_false h1
 rw [belowS,if_neg h1,if_neg (of_decide_eq_false h2)]
 exact BIf.f (by simp;omega) rfl
def cBelowR (args:List AV) (K:AV→Prop):Prop:=∃(x n z:Int),args= [.d (u64 x), .d (i64 n)]∧z=belowS x n∧K (.d (i64 z))
theorem cBelowR_ok:∀args K,cBelowR args K→∃x,PCall Tryd.prog 53 args x∧K x:=by
 rintro _ K ⟨x,n,_,rfl,rfl,hk⟩;exact ⟨_,pcBelowR x n,hk⟩
theorem pcIdR (n:Int):PCall Tryd.prog 52 [.d (i64 n)] (.d (bo (nodeJ n))):=by
 refine Zbo (n:=100) (u:=false) mixed Zao Zal Tryd.func52 (by rfl) (by rfl) fun Ev bb=> ?_
 rw [idR_nf]
 exact Zas (fun h1=>by rw [nodeJ,h1];rfl) fun h1=>by rw [nodeJ,h1];rfl
def cIdR (args:List AV) (K:AV→Prop):Prop:=∃(n:Int) (z:Bool),args= [.d (i64 n)]∧z=nodeJ n∧K (.d (bo z))
theorem cIdR_ok:∀args K,cIdR args K→∃x,PCall Tryd.prog 52 args x∧K x:=by
 rintro _ K ⟨n,_,rfl,rfl,hk⟩;exact ⟨_,pcIdR n,hk⟩
theorem pcFormedH (h:HalfS):PCall Tryd.prog 37 [halfA h] (.d (bo (halfOk h))):=by
 refine Zbo (n:=100) (u:=false) mixed Zao Zal Tryd.func37 (by rfl) (by rfl) fun Ev bb=> ?_
 rw [formedH_nf]
 have key:∀z:Bool,(z=halfOk h)→Zaf (bo z)=Zaf (bo (halfOk h)):=by rintro _ rfl;rfl
 refine Zas (fun h1=>key _ ?_) fun h1=>Zas (fun h2=>key _ ?_) fun h2=>Zas (fun h3=>key _ ?_) fun h3=>Zas (fun h4=>key _ ?_) fun h4=>Zas (fun h5=>key _ ?_) fun h5=>Zas (fun h6=>key _ ?_) fun h6=>Zas (fun h7=>Zas (fun h8=>Zas (fun h9=>Zas (fun h10=>Zas (fun h11=>key _ ?_) fun h11=>key _ ?_) fun h10=>key _ ?_) fun h9=>key _ ?_) fun h8=>key _ ?_) fun h7=>key _ ?_
 all_goals
   simp only [decide_eq_true_eq,decide_eq_false_iff_not,beq_iff_eq,beq_eq_false_iff_ne] at*
   rw [Bool.eq_iff_iff]
   simp only [halfOk,nodeN,inN,Zag,Bool.or_eq_true,decide_eq_true_eq,beq_iff_eq,Bool.false_eq_true,false_iff,true_iff,iff_true]
   cases h.pr<;>simp only [Bool.false_eq_true,false_or,true_or,and_true,false_iff,true_iff]<;>omega
def cFormedH (args:List AV) (K:AV→Prop):Prop:=∃(h:HalfS) (z:Bool),args= [halfA h]∧z=halfOk h∧K (.d (bo z))
theorem cFormedH_ok:∀args K,cFormedH args K→∃x,PCall Tryd.prog 37 args x∧K x:=by
 rintro _ K ⟨h,_,rfl,rfl,hk⟩;exact ⟨_,pcFormedH h,hk⟩
def TFr:List (Nat×(List AV→(AV→Prop)→Prop)):= [(52,cIdR)]
theorem TFr_ok:CallsOk Tryd.prog TFr:=Zah cIdR_ok Zao
theorem formedR_nf (w:WordS):wpFn Tryd.prog ⟨TFr, [],wl,y,false⟩ 100 Tryd.f33 [wordA w] b R=(∃(n0:Int) (z1:Bool), [Zaf (i64 (Zcl w))]= [Zaf (i64 n0)]∧z1=nodeJ n0∧BIf z1 (∃(n2:Int) (z3:Bool), [Zaf (i64 (WordS.sp w))]= [Zaf (i64 n2)]∧z3=nodeJ n2∧BIf z3 (BIf (Zcl w !=WordS.sp w) (BIf (decide (Zcm w≥(0:Int))) (BIf (decide (Zcm w≤(1000000000:Int))) (BIf (decide (Zdn w≥(0:Int))) (BIf (decide (Zdn w≤(1000000000:Int))) (BIf (decide (Zcs w≥(1:Int))) (R (.d (bo (decide (Zcs w≤(4:Int))))) b) (R (.d (bo false)) b)) (R (.d (bo false)) b)) (R (.d (bo false)) b)) (R (.d (bo false)) b)) (R (.d (bo false)) b)) (R (.d (bo false)) b)) (R (.d (bo false)) b)) (R (.d (bo false)) b)):=by kernel_rfl
theorem pcFormedR (w:WordS):PCall Tryd.prog 33 [wordA w] (.d (bo (formedW w))):=by
 refine Zbo (n:=100) (u:=false) mixed TFr_ok Zal Tryd.func33 (by rfl) (by rfl) fun Ev bb=> ?_
 rw [formedR_nf]
 have key:∀z:Bool,(z=formedW w)→Zaf (bo z)=Zaf (bo (formedW w)):=by rintro _ rfl;rfl
 refine ⟨_,_,rfl,rfl,Zas (fun h1=>⟨_,_,rfl,rfl,Zas (fun h2=>Zas (fun h3=>Zas (fun h4=>Zas (fun h5=>Zas (fun h6=>Zas (fun h7=>Zas (fun h8=>key _ ?_) fun h8=>key _ ?_) fun h7=>key _ ?_) fun h6=>key _ ?_) fun h5=>key _ ?_) fun h4=>key _ ?_) fun h3=>key _ ?_) fun h2=>key _ ?_⟩) fun h1=>key _ ?_⟩
 all_goals
   simp only [formedW, *,Bool.true_and,Bool.false_and,Bool.and_false]
   try (
     simp only [decide_eq_true_eq,decide_eq_false_iff_not] at*
     rw [Bool.eq_iff_iff]
     simp only [Zag,decide_eq_true_eq,Bool.false_eq_true,false_iff]
     split<;>split<;>omega)
def cFormedR (args:List AV) (K:AV→Prop):Prop:=∃(w:WordS) (z:Bool),args= [wordA w]∧z=formedW w∧K (.d (bo z))
theorem cFormedR_ok:∀args K,cFormedR args K→∃x,PCall Tryd.prog 33 args x∧K x:=by
 rintro _ K ⟨w,_,rfl,rfl,hk⟩;exact ⟨_,pcFormedR w,hk⟩
noncomputable def lpVr:Code:=sub [1,0,1,2,3] (code Tryd.f14)
def tmVr (hs:List HalfS) (z:Bool) (i:Int):List AV:= [.d (.sl 6 (rowsH hs)), .bad, .d (bo z), .d (i64 i)]++Zan 35 .bad
def TVr:List (Nat×(List AV→(AV→Prop)→Prop)):= [(37,cFormedH)]
theorem TVr_ok:CallsOk Tryd.prog TVr:=Zah cFormedH_ok Zao
noncomputable def lpOf:Code:=sub [1,0,1,2,3] (code Tryd.f23)
def tmOf (hs:List HalfS) (k:Int) (z:Bool) (i:Int):List AV:= [.d (.sl 6 (rowsH hs)), .d (i64 k), .bad, .bad, .ptr 0 0, .d (bo z), .d (i64 i)]++Zan 18 .bad
def halfB (h:HalfS):Blk:=⟨[.d (i64 h.st), .d (i64 h.no), .d (i64 h.ch), .d (i64 h.un), .d (bo h.pr), .d (i64 h.ke)],false,false,0⟩
abbrev Qz32 (v0:List HalfS) (v1:Int):=Zaf (Zax 6 (rowsH v0))::Zat::Zaf (bo false)::Zaf (i64 v1)::bds 35 []
theorem rVr (hs:List HalfS) (i:Int):wpc Tryd.prog ⟨TVr, [],wl,y,false⟩ 100 lpVr (tmVr hs false i) [] b (maskK 0 [0,2,3] K)=(BIf (decide (i<((Zae (rowsH hs):Nat):Int))) (BIf (true&&decide (0≤i)) (∃(x0:Int) (x1:Int) (x2:Int) (x3:Int) (b4:Bool) (x5:Int),(rowsH hs)[Zbf i]? =some (Qz13 x0 x1 x2 x3 b4 x5)∧∃(h8:HalfS) (z9:Bool), [Zbk (Qz15 x0 x1 x2 x3 b4 x5)]= [Zbk (Qz3 h8)]∧z9=halfOk h8∧BIf (!z9) (K .ret (Qz32 hs i) [] b) (BIf (decide (i>(0:Int))) (BIf (true&&decide ((0:Int)≤Zab .i64 (i - 1))) (∃(x10:Int) (x11:Int) (x12:Int) (x13:Int) (b14:Bool) (x15:Int),(rowsH hs)[Zbf (Zab .i64 (i - 1))]? =some (Qz13 x10 x11 x12 x13 b14 x15)∧BIf (true&&decide (0≤i)) (∃(x18:Int) (x19:Int) (x20:Int) (x21:Int) (b22:Bool) (x23:Int),(rowsH hs)[Zbf i]? =some (Qz13 x18 x19 x20 x21 b22 x23)∧BIf (decide (x10≥x18)) (K .ret (Qz32 hs i) [] b) (K .normal (Zaf (Zax 6 (rowsH hs))::Zat::Zaf (bo false)::Zaf (i64 (Zab .i64 (i+1)))::bds 35 []) [] b)) False) False) (K .normal (Zaf (Zax 6 (rowsH hs))::Zat::Zaf (bo false)::Zaf (i64 (Zab .i64 (i+1)))::bds 35 []) [] b))) False) (K (Exit.exit 0) (Qz32 hs i) [] b)):=by kernel_rfl
abbrev Qz16:List AV:= [Zaf (i64 0),Zaf (i64 0),Zaf (i64 0),Zaf (i64 0),Zaf (bo false),Zaf (i64 0)]
theorem rOf (hs:List HalfS) (k i:Int):wpc Tryd.prog ⟨[], [],wl,y,false⟩ 100 lpOf (tmOf hs k false i) [halfB zeroH] b (maskK 1 [0,1,4,5,6] K)=(BIf (decide (i<((Zae (rowsH hs):Nat):Int))) (BIf (true&&decide (0≤i)) (∃(x0:Int) (x1:Int) (x2:Int) (x3:Int) (b4:Bool) (x5:Int),(rowsH hs)[Zbf i]? =some (Qz13 x0 x1 x2 x3 b4 x5)∧BIf (x0==k) (BIf (true&&decide (0≤i)) (∃(x8:Int) (x9:Int) (x10:Int) (x11:Int) (b12:Bool) (x13:Int),(rowsH hs)[Zbf i]? =some (Qz13 x8 x9 x10 x11 b12 x13)∧K .ret (Zaf (Zax 6 (rowsH hs))::Zaf (i64 k)::Zat::Zat::Zde 0 0::Zaf (bo true)::Zaf (i64 i)::bds 18 []) [Blk.mk (Qz15 x8 x9 x10 x11 b12 x13) false false 0] b) False) (K .normal (Zaf (Zax 6 (rowsH hs))::Zaf (i64 k)::Zat::Zat::Zde 0 0::Zaf (bo false)::Zaf (i64 (Zab .i64 (i+1)))::bds 18 []) [Blk.mk Qz16 false false 0] b)) False) (K (Exit.exit 0) (Zaf (Zax 6 (rowsH hs))::Zaf (i64 k)::Zat::Zat::Zde 0 0::Zaf (bo false)::Zaf (i64 i)::bds 18 []) [Blk.mk Qz16 false false 0] b)):=by kernel_rfl
theorem wrVr {Ev:Env Tryd.prog} {b:Ev.β} {Q:Exit→St Ev.β→Prop} (hs:List HalfS) (hl:hs.length≤9223372036854775807) (h1:(List.range hs.length).any (badAt hs)=false→∀i:Int,Q (.exit 0) ⟨tmVr hs false i, [],b⟩)
   (h2:(List.range hs.length).any (badAt hs)=true→∀i:Int,Q .ret ⟨tmVr hs false i, [],b⟩):WR Ev lpVr (hs.length+1) ⟨tmVr hs false (0:Nat), [],b⟩ Q:=by
 refine WR.scanK (X:=⟨TVr, [],wlW Ev,Ev.Y,false⟩) (k:=100) [0,2,3] mixed (CX.Ok.of TVr_ok Zal) hs.length (badAt hs) (fun i=>tmVr hs false (i:Nat)) (fun i=>tmVr hs false (i:Nat)) [] 0 (fun i hi K k1 k2=> ?_) (fun K k1=> ?_) (fun h=>h1 h _) fun h i=>h2 h i
 · refine Eq.mpr (rVr _ _ _ K hs i) ?_
   rw [rowsH_len,Int.toNat_natCast,rowsH_at hi]
   refine Zcq (by simp<;>omega) (Zcq (by simp) ⟨_,_,_,_,_,_,rfl,nthH hs i,_,rfl,rfl, ?_⟩)
   refine Zas (fun g=>k1 (by rw [badAt,g];rfl)) fun g=>Zas (fun g2=> ?_) fun g2=> ?_
   · have h0:0<i:=by have:=of_decide_eq_true g2;omega
     rw [wrapP (by omega) h0,rowsH_at (by omega:i - 1<hs.length)]
     refine Zcq (by simp [wrapQ (by omega:i<9223372036854775807) h0]) ⟨_,_,_,_,_,_,rfl,Zcq (by simp) ⟨_,_,_,_,_,_,rfl,Zas (fun g3=>k1 (by rw [badAt,g,g2];exact g3)) fun g3=> ?_⟩⟩
     rw [wrapN (by omega)]
     exact k2 (by rw [badAt,g,g2];exact g3)
   · rw [wrapN (by omega)]
     exact k2 (by rw [badAt,g,g2];rfl)
 · refine Eq.mpr (rVr _ _ _ K hs _) ?_
   rw [rowsH_len]
   exact BIf.f (by simp) k1
def wlVr {β:Type}:WLT β:=fun t tm hp b K=>∃(hs:List HalfS) (z:Bool),t= .loop lpVr∧maskTm [0,2,3] 0 tm=tmVr hs false 0∧hp= []∧(hs.length≤9223372036854775807∧z=(List.range hs.length).any (badAt hs))∧
 BIf z (∀i:Int,K .ret (tmVr hs false i) [] b) (∀i:Int,K (.exit 0) (tmVr hs false i) [] b)
theorem wlVr_ok {Ev:Env Tryd.prog} (c:Code) (tm:List AV) (hp:List Blk) (b:Ev.β) (K:Exit→List AV→List Blk→Ev.β→Prop) (h:wlVr c tm hp b K):W Ev c ⟨tm,hp,b⟩ (fun e s=>K e s.tm s.hp s.b):=by
 obtain ⟨hs,z,rfl,htm,rfl,⟨hl,hz⟩,hK⟩:=h
 refine W.cast (htm▸maskTm_le _ tm 0) (Zby _) ?_
 exact W.rounds (wrVr (Q:=fun e s=>K e s.tm s.hp s.b) hs hl (fun h=>by rw [hz,h] at hK;exact hK) fun h=>by rw [hz,h] at hK;exact hK)
theorem validR_nf (hs:List HalfS):wpFn Tryd.prog ⟨TVr, [],wlVr,y,false⟩ 100 Tryd.f14 [.d (.sl 6 (rowsH hs))] b R=(∃(hs0:List HalfS) (z1:Bool),Zbw lpVr=Zbw lpVr∧(Zaf (Zax 6 (rowsH hs))::Zat::Zaf (bo false)::Zaf (i64 0)::bds 35 [])=(Zaf (Zax 6 (rowsH hs0))::Zat::Zaf (bo false)::Zaf (i64 0)::bds 35 [])∧([]:List Blk)= []∧(Zae hs0≤9223372036854775807∧z1=List.any (List.range (Zae hs0)) (badAt hs0))∧BIf z1 (∀(i:Int),R (.d (bo false)) b) (∀(i:Int),R (.d (bo (decide (((Zae (rowsH hs0):Nat):Int)≤(4:Int))))) b)):=by kernel_rfl
theorem pcValidR (hs:List HalfS) (hl:hs.length≤9223372036854775807):PCall Tryd.prog 14 [.d (.sl 6 (rowsH hs))] (.d (bo (validH hs))):=by
 refine Zdd (n:=100) (u:=false) (fun _=>wlVr) mixed TVr_ok Zal (fun Ev=>wlVr_ok) Tryd.func14 (by rfl) (by rfl) fun Ev bb=> ?_
 rw [validR_nf]
 refine ⟨hs,_,rfl,rfl,rfl,⟨hl,rfl⟩,Zas (fun h i=> ?_) fun h i=> ?_⟩
 · rw [validH,h];rfl
 · rw [validH,h,rowsH_len,show decide ((hs.length:Int)≤4)=decide (hs.length≤4) from decide_eq_decide.2 (by omega)];rfl
def cValidR (args:List AV) (K:AV→Prop):Prop:=∃(hs:List HalfS) (z:Bool),args= [.d (.sl 6 (rowsH hs))]∧(hs.length≤9223372036854775807∧z=validH hs)∧K (.d (bo z))
theorem cValidR_ok:∀args K,cValidR args K→∃x,PCall Tryd.prog 14 args x∧K x:=by
 rintro _ K ⟨hs,_,rfl,⟨hl,rfl⟩,h⟩;exact ⟨_,pcValidR hs hl,h⟩
theorem getH_not {k:Int} {hs:List HalfS} (h:hasH k hs=false):getH k hs=zeroH:=by
 have:hs.find? (fun h=>h.st==k)=none:=by
   rw [List.find?_eq_none]
   intro x hx
   simp only [hasH,List.any_eq_false] at h
   exact h x hx
 rw [getH,this];rfl
theorem getH_cons (k:Int) (h:HalfS) (r:List HalfS):getH k (h::r)=if (h.st==k)=true then h else getH k r:=by
 simp only [getH,List.find?_cons]
 cases h.st==k<;>rfl
theorem hasH_cons (k:Int) (h:HalfS) (r:List HalfS):hasH k (h::r)=(h.st==k||hasH k r):=rfl
theorem wrOf {Ev:Env Tryd.prog} {b:Ev.β} {Q:Exit→St Ev.β→Prop} (hs:List HalfS) (k:Int) (hl:hs.length≤9223372036854775807) (hQ1:hasH k hs=false→∀i:Int,Q (.exit 0) ⟨tmOf hs k false i, [halfB zeroH],b⟩)
   (hQ2:hasH k hs=true→∀i:Int,Q .ret ⟨tmOf hs k true i, [halfB (getH k hs)],b⟩):∀(rest:List HalfS) (i:Nat),hs.drop i=rest→i≤hs.length→getH k hs=getH k rest→hasH k hs=hasH k rest→
   WR Ev lpOf (rest.length+1) ⟨tmOf hs k false i, [halfB zeroH],b⟩ Q
 | [],i,hd,hi,hg,hh=>by
   refine Zco [0,1,4,5,6] mixed (CX.Ok.of (u:=false) Zao Zal) (k:=100) ?_
   refine Eq.mpr (rOf _ _ _ _ hs k i) ?_
   have:=List.drop_eq_nil_iff.1 hd
   rw [rowsH_len]
   exact BIf.f (by simp;omega) (hQ1 hh _)
 | h::rest,i,hd,hi,hg,hh=>by
   refine Zco [0,1,4,5,6] mixed (CX.Ok.of (u:=false) Zao Zal) (k:=100) ?_
   refine Eq.mpr (rOf _ _ _ _ hs k i) ?_
   obtain ⟨hi',hh',hd'⟩:=nthH_drop hd
   rw [rowsH_len,Int.toNat_natCast,rowsH_at hi']
   rw [getH_cons] at hg
   rw [hasH_cons] at hh
   rw [←hh'] at hg hh
   refine Zcq (by simp;omega) (Zcq (by simp) ⟨_,_,_,_,_,_,rfl,Zas (fun h1=>Zcq (by simp) ⟨_,_,_,_,_,_,rfl, ?_⟩) fun h1=> ?_⟩)
   · rw [if_pos h1] at hg
     rw [h1] at hh
     have:=hQ2 hh i
     rw [hg] at this
     exact this
   · rw [if_neg (by rw [h1];decide)] at hg
     rw [h1] at hh
     rw [wrapN (by omega)]
     exact wrOf hs k hl hQ1 hQ2 rest (i+1) hd' hi' hg hh
def wlOf {β:Type}:WLT β:=fun t tm hp b K=>∃(hs:List HalfS) (k:Int) (z:Bool) (h:HalfS),t= .loop lpOf∧maskTm [0,1,4,5,6] 0 tm=tmOf hs k false 0∧hp= [halfB zeroH]∧(hs.length≤9223372036854775807∧z=hasH k hs∧h=getH k hs)∧
 BIf z (∀i:Int,K .ret (tmOf hs k true i) [halfB h] b) (∀i:Int,K (.exit 0) (tmOf hs k false i) [halfB zeroH] b)
theorem wlOf_ok {Ev:Env Tryd.prog} (c:Code) (tm:List AV) (hp:List Blk) (b:Ev.β) (K:Exit→List AV→List Blk→Ev.β→Prop) (h:wlOf c tm hp b K):W Ev c ⟨tm,hp,b⟩ (fun e s=>K e s.tm s.hp s.b):=by
 obtain ⟨hs,k,z,h,rfl,htm,rfl,⟨hl,hz,rfl⟩,hK⟩:=h
 refine W.cast (htm▸maskTm_le _ tm 0) (Zby _) ?_
 exact W.rounds (wrOf (Q:=fun e s=>K e s.tm s.hp s.b) hs k hl (fun h=>by rw [hz,h] at hK;exact hK) (fun h=>by rw [hz,h] at hK;exact hK) hs 0 rfl (Nat.zero_le _) rfl rfl)
abbrev Qz40 (v0:List HalfS) (v1:Int):=Zaf (Zax 6 (rowsH v0))::Zaf (i64 v1)::Zat::Zat::Zde 0 0::Zaf (bo false)::Zaf (i64 0)::bds 18 []
theorem of_nf (hs:List HalfS) (k:Int):wpFn Tryd.prog ⟨[], [],wlOf,y,false⟩ 100 Tryd.f23 [.d (.sl 6 (rowsH hs)), .d (i64 k)] b R=(∃(hs0:List HalfS) (k1:Int) (z2:Bool) (h3:HalfS),Zbw lpOf=Zbw lpOf∧(Qz40 hs k)=(Qz40 hs0 k1)∧ [Blk.mk Qz16 false false 0]= [Blk.mk Qz16 false false 0]∧(Zae hs0≤9223372036854775807∧z2=hasH k1 hs0∧h3=getH k1 hs0)∧BIf z2 (∀(i:Int),R (.tup [Zbk (Qz3 h3),Zaf (bo true)]) b) (∀(i:Int),R (.tup [Zbk Qz16,Zaf (bo false)]) b)):=by kernel_rfl
theorem pcOf (hs:List HalfS) (k:Int) (hl:hs.length≤9223372036854775807):PCall Tryd.prog 23 [.d (.sl 6 (rowsH hs)), .d (i64 k)] (.tup [halfA (getH k hs), .d (bo (hasH k hs))]):=by
 refine Zdd (n:=100) (u:=false) (fun _=>wlOf) mixed Zao Zal (fun Ev=>wlOf_ok) Tryd.func23 (by rfl) (by rfl) fun Ev bb=> ?_
 rw [of_nf]
 refine ⟨hs,k,_,_,rfl,rfl,rfl,⟨hl,rfl,rfl⟩,Zas (fun h i=> ?_) fun h i=> ?_⟩
 · rw [h];rfl
 · rw [getH_not h,h];rfl
def cOf (args:List AV) (K:AV→Prop):Prop:=∃(hs:List HalfS) (k:Int) (h:HalfS) (z:Bool),args= [.d (.sl 6 (rowsH hs)), .d (i64 k)]∧(hs.length≤9223372036854775807∧h=getH k hs∧z=hasH k hs)∧K (.tup [halfA h, .d (bo z)])
theorem cOf_ok:∀args K,cOf args K→∃x,PCall Tryd.prog 23 args x∧K x:=by
 rintro _ K ⟨hs,k,_,_,rfl,⟨hl,rfl,rfl⟩,hk⟩;exact ⟨_,pcOf hs k hl,hk⟩
noncomputable def lpWi:Code:=sub [1,1,0,1,2,3] (code Tryd.f34)
def tmWi (hs:List HalfS) (acc:AV) (p:Int):List AV:= [.d (.sl 6 (rowsH hs)), .bad, .bad, .ptr 0 0, .bad,acc, .d (i64 p)]++Zan 26 .bad
def TWi:List (Nat×(List AV→(AV→Prop)→Prop)):= [(23,cOf)]
theorem TWi_ok:CallsOk Tryd.prog TWi:=Zah cOf_ok Zao
abbrev Qz20 (v0:List HalfS) (v1:Int):List AV:= [Zaf (Zax 6 (rowsH v0)),Zaf (i64 v1)]
theorem rWi (hs:List HalfS) (h:HalfS) (xs:List (List Dv)) (p:Int):wpc Tryd.prog ⟨TWi, [],wl,y,false⟩ 100 lpWi (tmWi hs (.own 40 6 xs) p) [halfB h] b (maskK 1 [0,3,5,6] K)=(BIf (decide (p<(60:Int))) (∃(hs0:List HalfS) (k1:Int) (h2:HalfS) (z3:Bool),(Qz20 hs p)=(Qz20 hs0 k1)∧(Zae hs0≤9223372036854775807∧h2=getH k1 hs0∧z3=hasH k1 hs0)∧BIf (p==HalfS.st h) (BIf (true&&decide ((Zae xs+1)*48≤140737488355328)) (K .normal (Zaf (Zax 6 (rowsH hs))::Zat::Zat::Zde 0 0::Zat::AV.own 40 6 (xs++(Qz22 h))::Zaf (i64 (Zab .i64 (p+1)))::bds 26 []) [Blk.mk (Qz3 h) false false 0] b) False) (BIf z3 (BIf (true&&decide ((Zae xs+1)*48≤140737488355328)) (K .normal (Zaf (Zax 6 (rowsH hs))::Zat::Zat::Zde 0 0::Zat::AV.own 40 6 (xs++(Qz22 h2))::Zaf (i64 (Zab .i64 (p+1)))::bds 26 []) [Blk.mk (Qz3 h) false false 0] b) False) (K .normal (Zaf (Zax 6 (rowsH hs))::Zat::Zat::Zde 0 0::Zat::AV.own 40 6 xs::Zaf (i64 (Zab .i64 (p+1)))::bds 26 []) [Blk.mk (Qz3 h) false false 0] b))) (K (Exit.exit 0) (Zaf (Zax 6 (rowsH hs))::Zat::Zat::Zde 0 0::Zat::AV.own 40 6 xs::Zaf (i64 p)::bds 26 []) [Blk.mk (Qz3 h) false false 0] b)):=by kernel_rfl
def stepWi (hs:List HalfS) (h:HalfS) (p:Nat):List HalfS:=if ((p:Int)==h.st)=true then [h] else if hasH p hs=true then [getH p hs] else []
def withS (hs:List HalfS) (h:HalfS):List HalfS:=gath 60 (stepWi hs h)
theorem stepWi_len (hs:List HalfS) (h:HalfS) (p:Nat):(stepWi hs h p).length≤1:=by unfold stepWi;split;simp;split<;>simp
theorem rowsH_app2 (a b:List HalfS):rowsH (a++b)=rowsH a++rowsH b:=by simp [rowsH]
theorem wrWi {Ev:Env Tryd.prog} {b:Ev.β} {Q:Exit→St Ev.β→Prop} (hs:List HalfS) (h:HalfS) (hl:hs.length<1000000) (hQ:∀i:Int,Q (.exit 0) ⟨tmWi hs (.own 40 6 (rowsH (withS hs h))) i, [halfB h],b⟩):
   WR Ev lpWi (60+1) ⟨tmWi hs (.own 40 6 (rowsH [])) (0:Nat), [halfB h],b⟩ Q:=by
 refine WR.gathK (X:=⟨TWi, [],wlW Ev,Ev.Y,false⟩) (k:=100) [0,3,5,6] mixed (CX.Ok.of TWi_ok Zal) 60 (stepWi hs h) (stepWi_len hs h) (fun acc i=>tmWi hs (.own 40 6 (rowsH acc)) (i:Nat)) [halfB h] 0 (fun p acc hi ha K k1=> ?_) (fun acc K k1=> ?_) (hQ _)
 · refine Eq.mpr (rWi _ _ _ K hs h _ p) ?_
   refine Zcq (by simp;omega) ⟨hs,p,_,_,rfl,⟨by omega,rfl,rfl⟩,Zas (fun h1=> ?_) fun h1=>Zas (fun h2=> ?_) fun h2=> ?_⟩
   · refine Zcq (by simp [rowsH];omega) ?_
     rw [stepWi,if_pos h1,rowsH_app2] at k1
     rw [wrapN (by omega)]
     exact k1
   · refine Zcq (by simp [rowsH];omega) ?_
     rw [stepWi,if_neg (by rw [h1];decide),if_pos h2,rowsH_app2] at k1
     rw [wrapN (by omega)]
     exact k1
   · rw [stepWi,if_neg (by rw [h1];decide),if_neg (by rw [h2];decide),List.append_nil] at k1
     rw [wrapN (by omega)]
     exact k1
 · refine Eq.mpr (rWi _ _ _ K hs h _ _) ?_
   exact BIf.f (by simp) k1
def wlWi {β:Type}:WLT β:=fun t tm hp b K=>∃(hs q:List HalfS) (h:HalfS),t= .loop lpWi∧maskTm [0,3,5,6] 0 tm=tmWi hs nilA 0∧hp= [halfB h]∧(hs.length<1000000∧q=withS hs h)∧∀i:Int,K (.exit 0) (tmWi hs (.own 40 6 (rowsH q)) i) [halfB h] b
theorem wlWi_ok {Ev:Env Tryd.prog} (c:Code) (tm:List AV) (hp:List Blk) (b:Ev.β) (K:Exit→List AV→List Blk→Ev.β→Prop) (h:wlWi c tm hp b K):W Ev c ⟨tm,hp,b⟩ (fun e s=>K e s.tm s.hp s.b):=by
 obtain ⟨hs,_,h,rfl,htm,rfl,⟨hl,rfl⟩,hK⟩:=h
 refine W.cast (htm▸maskTm_le _ tm 0) (Zby _) ?_
 refine W.cast (tm':=tmWi hs (.own 40 6 (rowsH [])) 0) (LeL.at [_,_,_,_,_] _ (LeA.nilOwn rfl)) (Zby _) ?_
 exact W.rounds (wrWi (Q:=fun e s=>K e s.tm s.hp s.b) hs h hl hK)
abbrev Qz33 (v0:List HalfS):=Zaf (Zax 6 (rowsH v0))::Zat::Zat::Zde 0 0::Zat::Zaf (Dv.s (.slice none 0 0))::Zaf (i64 0)::bds 26 []
theorem with_nf (hs:List HalfS) (h:HalfS):wpFn Tryd.prog ⟨TWi, [],wlWi,y,false⟩ 100 Tryd.f34 [.d (.sl 6 (rowsH hs)),halfA h] b R=(∃(hs0:List HalfS) (q1:List HalfS) (h2:HalfS),Zbw lpWi=Zbw lpWi∧(Qz33 hs)=(Qz33 hs0)∧ [Blk.mk (Qz3 h) false false 0]= [Blk.mk (Qz3 h2) false false 0]∧(Zae hs0<1000000∧q1=withS hs0 h2)∧∀(i:Int),R (.d (Zax 6 (rowsH q1))) b):=by kernel_rfl
theorem pcWith (hs:List HalfS) (h:HalfS) (hl:hs.length<1000000):PCall Tryd.prog 34 [.d (.sl 6 (rowsH hs)),halfA h] (.d (.sl 6 (rowsH (withS hs h)))):=by
 refine Zdd (n:=100) (u:=false) (fun _=>wlWi) mixed TWi_ok Zal (fun Ev=>wlWi_ok) Tryd.func34 (by rfl) (by rfl) fun Ev bb=> ?_
 rw [with_nf]
 exact ⟨hs,_,h,rfl,rfl,rfl,⟨hl,rfl⟩,fun i=>rfl⟩
def cWith (args:List AV) (K:AV→Prop):Prop:=∃(hs q:List HalfS) (h:HalfS),args= [.d (.sl 6 (rowsH hs)),halfA h]∧(hs.length<1000000∧q=withS hs h)∧K (.d (.sl 6 (rowsH q)))
theorem cWith_ok:∀args K,cWith args K→∃x,PCall Tryd.prog 34 args x∧K x:=by
 rintro _ K ⟨hs,_,h,rfl,⟨hl,rfl⟩,hk⟩;exact ⟨_,pcWith hs h hl,hk⟩
def TCh:List (Nat×(List AV→(AV→Prop)→Prop)):= [(53,cBelowR)]
theorem TCh_ok:CallsOk Tryd.prog TCh:=Zah cBelowR_ok Zao
theorem chal_nf (me st no fr:Int):wpFn Tryd.prog ⟨TCh, [],wl,y,false⟩ 100 Tryd.f35 [.d (i64 me), .d (i64 st), .d (i64 no), .d (i64 fr)] b R=(∃(x0:Int) (n1:Int) (z2:Int), [Zaf (u64 (Zab .u64 (Zab .u64 (Zab .u64 (Zab .u64 (Zab .u64 (Zab .i64 (Zab .i64 ((64:Int)*me)+st))*(1000003:Int))+Zab .u64 no)*(1000003:Int))+Zab .u64 fr))),Zaf (i64 1000000000)]= [Zaf (u64 x0),Zaf (i64 n1)]∧z2=belowS x0 n1∧R (.d (i64 z2)) b):=by kernel_rfl
def stepEx (fr:Int) (h:HalfS):List HalfS:=if decide (h.un≥fr)=true then [h] else []
noncomputable def lpEx:Code:=sub [1,1,0,1,2,3] (code Tryd.f17)
def tmEx (hs:List HalfS) (fr:Int) (acc:AV) (i:Int):List AV:= [.d (.sl 6 (rowsH hs)), .d (i64 fr), .bad, .bad, .bad,acc, .d (i64 i)]++Zan 21 .bad
noncomputable def lpKi:Code:=sub [1,1,0,1,2,3] (code Tryd.f42)
def tmKi (ws:List WordS) (kd:Int) (acc:AV) (i:Int):List AV:= [.d (.sl 8 (rowsW ws)), .d (i64 kd), .bad, .bad, .bad,acc, .d (i64 i)]++Zan 21 .bad
noncomputable def lpTr:Code:=sub [1,1,1,0,1,2,3] (code Tryd.f43)
def tmTr (hs:List HalfS) (me:Int) (acc:AV) (v:Bool) (i:Int):List AV:= [.d (.sl 6 (rowsH hs)), .d (i64 me), .bad, .bad, .bad,acc, .d (bo v), .d (i64 i)]++Zan 54 .bad
theorem rEx (hs:List HalfS) (xs:List (List Dv)) (fr i:Int):wpc Tryd.prog ⟨[], [],wl,y,false⟩ 100 lpEx (tmEx hs fr (.own 40 6 xs) i) [] b (maskK 0 [0,1,5,6] K)=(BIf (decide (i<((Zae (rowsH hs):Nat):Int))) (BIf (true&&decide (0≤i)) (∃(x0:Int) (x1:Int) (x2:Int) (x3:Int) (b4:Bool) (x5:Int),(rowsH hs)[Zbf i]? =some (Qz13 x0 x1 x2 x3 b4 x5)∧BIf (decide (x3≥fr)) (BIf (true&&decide (0≤i)) (∃(x8:Int) (x9:Int) (x10:Int) (x11:Int) (b12:Bool) (x13:Int),(rowsH hs)[Zbf i]? =some (Qz13 x8 x9 x10 x11 b12 x13)∧BIf (true&&decide ((Zae xs+1)*48≤140737488355328)) (K .normal (Zaf (Zax 6 (rowsH hs))::Zaf (i64 fr)::bds 3 (AV.own 40 6 (xs++ [Qz13 x8 x9 x10 x11 b12 x13])::Zaf (i64 (Zab .i64 (i+1)))::bds 21 [])) [] b) False) False) (K .normal (Zaf (Zax 6 (rowsH hs))::Zaf (i64 fr)::bds 3 (AV.own 40 6 xs::Zaf (i64 (Zab .i64 (i+1)))::bds 21 [])) [] b)) False) (K (Exit.exit 0) (Zaf (Zax 6 (rowsH hs))::Zaf (i64 fr)::bds 3 (AV.own 40 6 xs::Zaf (i64 i)::bds 21 [])) [] b)):=by kernel_rfl
theorem rKi (ws:List WordS) (xs:List (List Dv)) (kd i:Int):wpc Tryd.prog ⟨[], [],wl,y,false⟩ 100 lpKi (tmKi ws kd (.own 26 8 xs) i) [] b (maskK 0 [0,1,5,6] K)=(BIf (decide (i<((Zae (rowsW ws):Nat):Int))) (BIf (true&&decide (0≤i)) (∃(x0:Int) (x1:Int) (x2:Int) (x3:Int) (x4:Int) (x5:Int) (x6:Int) (x7:Int),(rowsW ws)[Zbf i]? =some [i64 x0,i64 x1,i64 x2,i64 x3,i64 x4,i64 x5,i64 x6,i64 x7]∧BIf (x0==kd) (BIf (true&&decide (0≤i)) (∃(x10:Int) (x11:Int) (x12:Int) (x13:Int) (x14:Int) (x15:Int) (x16:Int) (x17:Int),(rowsW ws)[Zbf i]? =some [i64 x10,i64 x11,i64 x12,i64 x13,i64 x14,i64 x15,i64 x16,i64 x17]∧BIf (true&&decide ((Zae xs+1)*64≤140737488355328)) (K .normal (Zaf (Zax 8 (rowsW ws))::Zaf (i64 kd)::bds 3 (AV.own 26 8 (xs++ [[i64 x10,i64 x11,i64 x12,i64 x13,i64 x14,i64 x15,i64 x16,i64 x17]])::Zaf (i64 (Zab .i64 (i+1)))::bds 21 [])) [] b) False) False) (K .normal (Zaf (Zax 8 (rowsW ws))::Zaf (i64 kd)::bds 3 (AV.own 26 8 xs::Zaf (i64 (Zab .i64 (i+1)))::bds 21 [])) [] b)) False) (K (Exit.exit 0) (Zaf (Zax 8 (rowsW ws))::Zaf (i64 kd)::bds 3 (AV.own 26 8 xs::Zaf (i64 i)::bds 21 [])) [] b)):=by kernel_rfl
abbrev Qz24 (v0:List HalfS) (v1:Int) (v2:List (List Dv)) (v3:Bool) (v4:Int):=Zaf (Zax 6 (rowsH v0))::Zaf (i64 v1)::bds 3 (AV.own 26 8 v2::Zaf (bo v3)::Zaf (i64 v4)::bds 54 [])
theorem rTr (hs:List HalfS) (xs:List (List Dv)) (me i:Int) (v:Bool):wpc Tryd.prog ⟨[], [],wl,y,false⟩ 100 lpTr (tmTr hs me (.own 26 8 xs) v i) [] b (maskK 0 [0,1,5,6,7] K)=(BIf (decide (i<((Zae (rowsH hs):Nat):Int))) (BIf v (BIf (decide (me≥(0:Int))) (BIf (decide (me≤(59:Int))) (BIf (true&&decide (0≤i)) (∃(x0:Int) (x1:Int) (x2:Int) (x3:Int) (b4:Bool) (x5:Int),(rowsH hs)[Zbf i]? =some (Qz13 x0 x1 x2 x3 b4 x5)∧BIf (true&&decide (0≤i)) (∃(x8:Int) (x9:Int) (x10:Int) (x11:Int) (b12:Bool) (x13:Int),(rowsH hs)[Zbf i]? =some (Qz13 x8 x9 x10 x11 b12 x13)∧BIf (true&&decide (0≤i)) (∃(x16:Int) (x17:Int) (x18:Int) (x19:Int) (b20:Bool) (x21:Int),(rowsH hs)[Zbf i]? =some (Qz13 x16 x17 x18 x19 b20 x21)∧BIf (true&&decide (0≤i)) (∃(x24:Int) (x25:Int) (x26:Int) (x27:Int) (b28:Bool) (x29:Int),(rowsH hs)[Zbf i]? =some (Qz13 x24 x25 x26 x27 b28 x29)∧BIf b28 (BIf (true&&decide (0≤i)) (∃(x32:Int) (x33:Int) (x34:Int) (x35:Int) (b36:Bool) (x37:Int),(rowsH hs)[Zbf i]? =some (Qz13 x32 x33 x34 x35 b36 x37)∧BIf (true&&decide ((Zae xs+1)*64≤140737488355328)) (K .normal (Zaf (Zax 6 (rowsH hs))::Zaf (i64 me)::bds 3 (AV.own 26 8 (xs++ [[i64 3,i64 x0,i64 me,i64 x9,i64 x18,i64 x37,i64 0,i64 0]])::Zaf (bo v)::Zaf (i64 (Zab .i64 (i+1)))::bds 54 [])) [] b) False) False) (BIf (true&&decide ((Zae xs+1)*64≤140737488355328)) (K .normal (Zaf (Zax 6 (rowsH hs))::Zaf (i64 me)::bds 3 (AV.own 26 8 (xs++ [[i64 2,i64 x0,i64 me,i64 x9,i64 x18,i64 0,i64 0,i64 0]])::Zaf (bo v)::Zaf (i64 (Zab .i64 (i+1)))::bds 54 [])) [] b) False)) False) False) False) False) (K (Exit.exit 0) (Qz24 hs me xs v i) [] b)) (K (Exit.exit 0) (Qz24 hs me xs v i) [] b)) (K (Exit.exit 0) (Qz24 hs me xs v i) [] b)) (K (Exit.exit 0) (Qz24 hs me xs v i) [] b)):=by kernel_rfl
theorem pcChal (me st no fr:Int) (w:WordS) (h1:w.sp=me) (h2:w.st=st) (h3:w.no=no):PCall Tryd.prog 35 [.d (i64 me), .d (i64 st), .d (i64 no), .d (i64 fr)] (.d (i64 (chalS fr w))):=by
 refine Zbo (n:=100) (u:=false) mixed TCh_ok Zal Tryd.func35 (by rfl) (by rfl) fun Ev bb=> ?_
 rw [chal_nf]
 refine ⟨_,_,_,rfl,rfl, ?_⟩
 rw [chalS,h1,h2,h3]
 congr 4
 rw [Int.mul_comm 1000003,Int.mul_comm 1000003]
def cChal (args:List AV) (K:AV→Prop):Prop:=∃(w:WordS) (fr z:Int),args= [.d (i64 w.sp), .d (i64 w.st), .d (i64 w.no), .d (i64 fr)]∧z=chalS fr w∧K (.d (i64 z))
theorem cChal_ok:∀args K,cChal args K→∃x,PCall Tryd.prog 35 args x∧K x:=by
 rintro _ K ⟨w,fr,_,rfl,rfl,hk⟩;exact ⟨_,pcChal _ _ _ fr w rfl rfl rfl,hk⟩
theorem stepEx_len (fr:Int) (h:HalfS):(stepEx fr h).length≤1:=by unfold stepEx;split<;>simp
theorem expire_eq (fr:Int) (hs:List HalfS):hs.flatMap (stepEx fr)=expireS hs fr:=by
 induction hs with
 |nil=>rfl
 | cons h r ih=>
   rw [List.flatMap_cons,ih]
   simp only [expireS,List.filter_cons,stepEx,keepH,lateB]
   by_cases hh:h.un<fr
   · rw [if_neg (by simpa using hh)];simp [hh]
   · rw [if_pos (by simpa using hh)];simp [hh]
theorem wrEx {Ev:Env Tryd.prog} {b:Ev.β} {Q:Exit→St Ev.β→Prop} (hs:List HalfS) (fr:Int) (hl:hs.length<1000000) (hQ:∀i:Int,Q (.exit 0) ⟨tmEx hs fr (.own 40 6 (rowsH (expireS hs fr))) i, [],b⟩):
   WR Ev lpEx (hs.length+1) ⟨tmEx hs fr (.own 40 6 (rowsH [])) (0:Nat), [],b⟩ Q:=by
 refine WR.gathK (X:=⟨[], [],wlW Ev,Ev.Y,false⟩) (k:=100) [0,1,5,6] mixed (CX.Ok.of Zao Zal) hs.length (fun i=>stepEx fr (nthH hs i)) (fun i=>stepEx_len fr _) (fun acc i=>tmEx hs fr (.own 40 6 (rowsH acc)) (i:Nat)) [] 0 (fun i acc hi ha K k1=> ?_) (fun acc K k1=> ?_) ?_
 · refine Eq.mpr (rEx _ _ _ K hs _ fr i) ?_
   rw [rowsH_len,Int.toNat_natCast,rowsH_at hi]
   refine Zcq (by simp;omega) (Zcq (by simp) ⟨_,_,_,_,_,_,rfl,Zas (fun h1=>Zcq (by simp) ⟨_,_,_,_,_,_,rfl,Zcq (by simp [rowsH];omega) ?_⟩) fun h1=> ?_⟩)
   · rw [stepEx,if_pos h1,rowsH_app2] at k1
     rw [wrapN (by omega)]
     exact k1
   · rw [stepEx,if_neg (by rw [h1];decide),List.append_nil] at k1
     rw [wrapN (by omega)]
     exact k1
 · refine Eq.mpr (rEx _ _ _ K hs _ fr _) ?_
   rw [rowsH_len]
   exact BIf.f (by simp) k1
 · rw [gath_nthH,expire_eq];exact hQ _
def wlEx {β:Type}:WLT β:=fun t tm hp b K=>∃(hs q:List HalfS) (fr:Int),t= .loop lpEx∧maskTm [0,1,5,6] 0 tm=tmEx hs fr nilA 0∧hp= []∧(hs.length<1000000∧q=expireS hs fr)∧∀i:Int,K (.exit 0) (tmEx hs fr (.own 40 6 (rowsH q)) i) [] b
theorem wlEx_ok {Ev:Env Tryd.prog} (c:Code) (tm:List AV) (hp:List Blk) (b:Ev.β) (K:Exit→List AV→List Blk→Ev.β→Prop) (h:wlEx c tm hp b K):W Ev c ⟨tm,hp,b⟩ (fun e s=>K e s.tm s.hp s.b):=by
 obtain ⟨hs,_,fr,rfl,htm,rfl,⟨hl,rfl⟩,hK⟩:=h
 refine W.cast (htm▸maskTm_le _ tm 0) (Zby _) ?_
 refine W.cast (tm':=tmEx hs fr (.own 40 6 (rowsH [])) 0) (LeL.at [_,_,_,_,_] _ (LeA.nilOwn rfl)) (Zby _) ?_
 exact W.rounds (wrEx (Q:=fun e s=>K e s.tm s.hp s.b) hs fr hl hK)
abbrev Qz27:=Zaf (Dv.s (.slice none 0 0))::Zaf (i64 0)::bds 21 []
theorem expireR_nf (hs:List HalfS) (fr:Int):wpFn Tryd.prog ⟨[], [],wlEx,y,false⟩ 100 Tryd.f17 [.d (.sl 6 (rowsH hs)), .d (i64 fr)] b R=(∃(hs0:List HalfS) (q1:List HalfS) (fr2:Int),Zbw lpEx=Zbw lpEx∧(Zaf (Zax 6 (rowsH hs))::Zaf (i64 fr)::bds 3 Qz27)=(Zaf (Zax 6 (rowsH hs0))::Zaf (i64 fr2)::bds 3 Qz27)∧([]:List Blk)= []∧(Zae hs0<1000000∧q1=expireS hs0 fr2)∧∀(i:Int),R (.d (Zax 6 (rowsH q1))) b):=by kernel_rfl
theorem pcExpireR (hs:List HalfS) (fr:Int) (hl:hs.length<1000000):PCall Tryd.prog 17 [.d (.sl 6 (rowsH hs)), .d (i64 fr)] (.d (.sl 6 (rowsH (expireS hs fr)))):=by
 refine Zdd (n:=100) (u:=false) (fun _=>wlEx) mixed Zao Zal (fun Ev=>wlEx_ok) Tryd.func17 (by rfl) (by rfl) fun Ev bb=> ?_
 rw [expireR_nf]
 exact ⟨hs,_,fr,rfl,rfl,rfl,⟨hl,rfl⟩,fun i=>rfl⟩
def cExpireR (args:List AV) (K:AV→Prop):Prop:=∃(hs q:List HalfS) (fr:Int),args= [.d (.sl 6 (rowsH hs)), .d (i64 fr)]∧(hs.length<1000000∧q=expireS hs fr)∧K (.d (.sl 6 (rowsH q)))
theorem cExpireR_ok:∀args K,cExpireR args K→∃x,PCall Tryd.prog 17 args x∧K x:=by
 rintro _ K ⟨hs,_,fr,rfl,⟨hl,rfl⟩,hk⟩;exact ⟨_,pcExpireR hs fr hl,hk⟩
def nthW (ws:List WordS) (i:Nat):WordS:=ws.getD i zeroW
theorem rowsW_at {ws:List WordS} {i:Nat} (h:i<ws.length):(rowsW ws)[i]? =some (wordR (nthW ws i)):=by
 simp [rowsW,nthW,h]
theorem gath_nthW {γ:Type} (f:WordS→List γ):∀(ws:List WordS),gath ws.length (fun i=>f (nthW ws i))=ws.flatMap f:=by
 intro ws
 have key:∀k,k≤ws.length→gath k (fun i=>f (nthW ws i))=(ws.take k).flatMap f:=by
   intro k
   induction k with
   |zero=>intro _;simp [gath]
   | succ k ih=>
     intro hk
     rw [gath_succ,ih (by omega),List.take_succ_eq_append_getElem (by omega),List.flatMap_append]
     simp [nthW,show k<ws.length by omega]
 rw [key _ (Nat.le_refl _),List.take_length]
def stepKi (kd:Int) (w:WordS):List WordS:=if (w.ki==kd)=true then [w] else []
def kindS (ws:List WordS) (kd:Int):List WordS:=ws.flatMap (stepKi kd)
theorem stepKi_len (kd:Int) (w:WordS):(stepKi kd w).length≤1:=by unfold stepKi;split<;>simp
theorem wrKi {Ev:Env Tryd.prog} {b:Ev.β} {Q:Exit→St Ev.β→Prop} (ws:List WordS) (kd:Int) (hl:ws.length<1000000) (hQ:∀i:Int,Q (.exit 0) ⟨tmKi ws kd (.own 26 8 (rowsW (kindS ws kd))) i, [],b⟩):
   WR Ev lpKi (ws.length+1) ⟨tmKi ws kd (.own 26 8 (rowsW [])) (0:Nat), [],b⟩ Q:=by
 refine WR.gathK (X:=⟨[], [],wlW Ev,Ev.Y,false⟩) (k:=100) [0,1,5,6] mixed (CX.Ok.of Zao Zal) ws.length (fun i=>stepKi kd (nthW ws i)) (fun i=>stepKi_len kd _) (fun acc i=>tmKi ws kd (.own 26 8 (rowsW acc)) (i:Nat)) [] 0 (fun i acc hi ha K k1=> ?_) (fun acc K k1=> ?_) ?_
 · refine Eq.mpr (rKi _ _ _ K ws _ kd i) ?_
   rw [rowsW_len,Int.toNat_natCast,rowsW_at hi]
   refine Zcq (by simp;omega) (Zcq (by simp) ⟨_,_,_,_,_,_,_,_,rfl,Zas (fun h1=>Zcq (by simp) ⟨_,_,_,_,_,_,_,_,rfl,Zcq (by simp [rowsW];omega) ?_⟩) fun h1=> ?_⟩)
   · rw [stepKi,if_pos h1,rowsW_app] at k1
     rw [wrapN (by omega)]
     exact k1
   · rw [stepKi,if_neg (by rw [h1];decide),List.append_nil] at k1
     rw [wrapN (by omega)]
     exact k1
 · refine Eq.mpr (rKi _ _ _ K ws _ kd _) ?_
   rw [rowsW_len]
   exact BIf.f (by simp) k1
 · rw [gath_nthW];exact hQ _
def wlKi {β:Type}:WLT β:=fun t tm hp b K=>∃(ws q:List WordS) (kd:Int),t= .loop lpKi∧maskTm [0,1,5,6] 0 tm=tmKi ws kd nilA 0∧hp= []∧(ws.length<1000000∧q=kindS ws kd)∧∀i:Int,K (.exit 0) (tmKi ws kd (.own 26 8 (rowsW q)) i) [] b
theorem wlKi_ok {Ev:Env Tryd.prog} (c:Code) (tm:List AV) (hp:List Blk) (b:Ev.β) (K:Exit→List AV→List Blk→Ev.β→Prop) (h:wlKi c tm hp b K):W Ev c ⟨tm,hp,b⟩ (fun e s=>K e s.tm s.hp s.b):=by
 obtain ⟨ws,_,kd,rfl,htm,rfl,⟨hl,rfl⟩,hK⟩:=h
 refine W.cast (htm▸maskTm_le _ tm 0) (Zby _) ?_
 refine W.cast (tm':=tmKi ws kd (.own 26 8 (rowsW [])) 0) (LeL.at [_,_,_,_,_] _ (LeA.nilOwn rfl)) (Zby _) ?_
 exact W.rounds (wrKi (Q:=fun e s=>K e s.tm s.hp s.b) ws kd hl hK)
theorem kind_nf (ws:List WordS) (kd:Int):wpFn Tryd.prog ⟨[], [],wlKi,y,false⟩ 100 Tryd.f42 [.d (.sl 8 (rowsW ws)), .d (i64 kd)] b R=(∃(ws0:List WordS) (q1:List WordS) (kd2:Int),Zbw lpKi=Zbw lpKi∧(Zaf (Zax 8 (rowsW ws))::Zaf (i64 kd)::bds 3 Qz27)=(Zaf (Zax 8 (rowsW ws0))::Zaf (i64 kd2)::bds 3 Qz27)∧([]:List Blk)= []∧(Zae ws0<1000000∧q1=kindS ws0 kd2)∧∀(i:Int),R (.d (Zax 8 (rowsW q1))) b):=by kernel_rfl
theorem pcKind (ws:List WordS) (kd:Int) (hl:ws.length<1000000):PCall Tryd.prog 42 [.d (.sl 8 (rowsW ws)), .d (i64 kd)] (.d (.sl 8 (rowsW (kindS ws kd)))):=by
 refine Zdd (n:=100) (u:=false) (fun _=>wlKi) mixed Zao Zal (fun Ev=>wlKi_ok) Tryd.func42 (by rfl) (by rfl) fun Ev bb=> ?_
 rw [kind_nf]
 exact ⟨ws,_,kd,rfl,rfl,rfl,⟨hl,rfl⟩,fun i=>rfl⟩
def cKind (args:List AV) (K:AV→Prop):Prop:=∃(ws q:List WordS) (kd:Int),args= [.d (.sl 8 (rowsW ws)), .d (i64 kd)]∧(ws.length<1000000∧q=kindS ws kd)∧K (.d (.sl 8 (rowsW q)))
theorem cKind_ok:∀args K,cKind args K→∃x,PCall Tryd.prog 42 args x∧K x:=by
 rintro _ K ⟨ws,_,kd,rfl,⟨hl,rfl⟩,hk⟩;exact ⟨_,pcKind ws kd hl,hk⟩
def tellW (me:Int) (h:HalfS):WordS:=if h.pr=true then ⟨3,h.st,me,h.no,h.ch,h.ke,0,0⟩ else ⟨2,h.st,me,h.no,h.ch,0,0,0⟩
def okTr (v:Bool) (me:Int):Bool:=v&&(decide (me≥0)&&decide (me≤59))
def tellS (hs:List HalfS) (me:Int) (v:Bool):List WordS:=if okTr v me=true then hs.map (tellW me) else []
theorem wrTr {Ev:Env Tryd.prog} {b:Ev.β} {Q:Exit→St Ev.β→Prop} (hs:List HalfS) (me:Int) (v:Bool) (hl:hs.length<1000000) (hQ:∀i:Int,Q (.exit 0) ⟨tmTr hs me (.own 26 8 (rowsW (tellS hs me v))) v i, [],b⟩):
   WR Ev lpTr (hs.length+1) ⟨tmTr hs me (.own 26 8 (rowsW [])) v (0:Nat), [],b⟩ Q:=by
 cases ho:okTr v me with
 | true=>
   have ho':=ho
   simp only [okTr,Zag] at ho'
   obtain ⟨o1,o2,o3⟩:=ho'
   refine WR.gathK (X:=⟨[], [],wlW Ev,Ev.Y,false⟩) (k:=100) [0,1,5,6,7] mixed (CX.Ok.of Zao Zal) hs.length (fun i=> [tellW me (nthH hs i)]) (fun i=>Nat.le_refl _) (fun acc i=>tmTr hs me (.own 26 8 (rowsW acc)) v (i:Nat)) [] 0 (fun i acc hi ha K k1=> ?_) (fun acc K k1=> ?_) ?_
   · refine Eq.mpr (rTr _ _ _ K hs _ me i v) ?_
     rw [rowsH_len,Int.toNat_natCast,rowsH_at hi]
     refine Zcq (by simp;omega) (Zcq o1 (Zcq o2 (Zcq o3 (Zcq (by simp) ⟨_,_,_,_,_,_,rfl,Zcq (by simp) ⟨_,_,_,_,_,_,rfl,Zcq (by simp) ⟨_,_,_,_,_,_,rfl,Zcq (by simp) ⟨_,_,_,_,_,_,rfl,Zas (fun h1=>Zcq (by simp) ⟨_,_,_,_,_,_,rfl,Zcq (by simp [rowsW];omega) ?_⟩) fun h1=>Zcq (by simp [rowsW];omega) ?_⟩⟩⟩⟩))))
     · rw [tellW,if_pos h1,rowsW_app] at k1
       rw [wrapN (by omega)]
       exact k1
     · rw [tellW,if_neg (by rw [h1];decide),rowsW_app] at k1
       rw [wrapN (by omega)]
       exact k1
   · refine Eq.mpr (rTr _ _ _ K hs _ me _ v) ?_
     rw [rowsH_len]
     exact BIf.f (by simp) k1
   · rw [gath_nthH (fun h=> [tellW me h]),show hs.flatMap (fun h=> [tellW me h])=tellS hs me v by rw [tellS,if_pos ho];exact List.map_eq_flatMap.symm];exact hQ _
 | false=>
   have hq:Q (.exit 0) ⟨tmTr hs me (.own 26 8 (rowsW [])) v (0:Nat), [],b⟩:=by
     have:=hQ (0:Nat)
     rw [tellS,if_neg (by rw [ho];decide)] at this
     exact this
   refine Zco (X:=⟨[], [],wlW Ev,Ev.Y,false⟩) [0,1,5,6,7] mixed (CX.Ok.of (u:=false) Zao Zal) (k:=100) ?_
   refine Eq.mpr (rTr _ _ _ _ hs _ me _ v) ?_
   refine Zas (fun h0=>Zas (fun h1=>Zas (fun h2=>Zas (fun h3=> ?_) fun _=>hq) fun _=>hq) fun _=>hq) fun _=>hq
   rw [okTr,h1,h2,h3] at ho;cases ho
def wlTr {β:Type}:WLT β:=fun t tm hp b K=>∃(hs:List HalfS) (q:List WordS) (me:Int) (v:Bool),t= .loop lpTr∧maskTm [0,1,5,6,7] 0 tm=tmTr hs me nilA v 0∧hp= []∧(hs.length<1000000∧q=tellS hs me v)∧∀i:Int,K (.exit 0) (tmTr hs me (.own 26 8 (rowsW q)) v i) [] b
theorem wlTr_ok {Ev:Env Tryd.prog} (c:Code) (tm:List AV) (hp:List Blk) (b:Ev.β) (K:Exit→List AV→List Blk→Ev.β→Prop) (h:wlTr c tm hp b K):W Ev c ⟨tm,hp,b⟩ (fun e s=>K e s.tm s.hp s.b):=by
 obtain ⟨hs,_,me,v,rfl,htm,rfl,⟨hl,rfl⟩,hK⟩:=h
 refine W.cast (htm▸maskTm_le _ tm 0) (Zby _) ?_
 refine W.cast (tm':=tmTr hs me (.own 26 8 (rowsW [])) v 0) (LeL.at [_,_,_,_,_] _ (LeA.nilOwn rfl)) (Zby _) ?_
 exact W.rounds (wrTr (Q:=fun e s=>K e s.tm s.hp s.b) hs me v hl hK)
def TTr:List (Nat×(List AV→(AV→Prop)→Prop)):= [(14,cValidR)]
theorem TTr_ok:CallsOk Tryd.prog TTr:=Zah cValidR_ok Zao
abbrev Qz44 (v0:List HalfS) (v1:Int) (v2:Bool):=Zaf (Zax 6 (rowsH v0))::Zaf (i64 v1)::bds 3 (Zaf (Dv.s (.slice none 0 0))::Zaf (bo v2)::Zaf (i64 0)::bds 54 [])
theorem tellR_nf (hs:List HalfS) (me:Int):wpFn Tryd.prog ⟨TTr, [],wlTr,y,false⟩ 100 Tryd.f43 [.d (.sl 6 (rowsH hs)), .d (i64 me)] b R=(∃(hs0:List HalfS) (z1:Bool), [Zaf (Zax 6 (rowsH hs))]= [Zaf (Zax 6 (rowsH hs0))]∧(Zae hs0≤9223372036854775807∧z1=validH hs0)∧∃(hs2:List HalfS) (q3:List WordS) (me4:Int) (v5:Bool),Zbw lpTr=Zbw lpTr∧(Qz44 hs me z1)=(Qz44 hs2 me4 v5)∧([]:List Blk)= []∧(Zae hs2<1000000∧q3=tellS hs2 me4 v5)∧∀(i:Int),R (.d (Zax 8 (rowsW q3))) b):=by kernel_rfl
def tellR (hs:List HalfS) (me:Int):List WordS:=tellS hs me (validH hs)
theorem tellS_len (hs:List HalfS) (me:Int) (v:Bool):(tellS hs me v).length≤hs.length:=by unfold tellS;split<;>simp
theorem pcTellR (hs:List HalfS) (me:Int) (hl:hs.length<1000000):PCall Tryd.prog 43 [.d (.sl 6 (rowsH hs)), .d (i64 me)] (.d (.sl 8 (rowsW (tellR hs me)))):=by
 refine Zdd (n:=100) (u:=false) (fun _=>wlTr) mixed TTr_ok Zal (fun Ev=>wlTr_ok) Tryd.func43 (by rfl) (by rfl) fun Ev bb=> ?_
 rw [tellR_nf]
 exact ⟨hs,_,rfl,⟨by omega,rfl⟩,hs,_,me,_,rfl,rfl,rfl,⟨hl,rfl⟩,fun i=>rfl⟩
def cTellR (args:List AV) (K:AV→Prop):Prop:=∃(hs:List HalfS) (q:List WordS) (me:Int),args= [.d (.sl 6 (rowsH hs)), .d (i64 me)]∧(hs.length<1000000∧q=tellR hs me)∧K (.d (.sl 8 (rowsW q)))
theorem cTellR_ok:∀args K,cTellR args K→∃x,PCall Tryd.prog 43 args x∧K x:=by
 rintro _ K ⟨hs,_,me,rfl,⟨hl,rfl⟩,hk⟩;exact ⟨_,pcTellR hs me hl,hk⟩
def TWr:List (Nat×(List AV→(AV→Prop)→Prop)):= [(43,cTellR),(42,cKind)]
theorem TWr_ok:CallsOk Tryd.prog TWr:=Zah cTellR_ok (Zah cKind_ok Zao)
theorem wordsR_nf (hs:List HalfS) (me:Int):wpFn Tryd.prog ⟨TWr, [],wl,y,false⟩ 100 Tryd.f20 [.d (.sl 6 (rowsH hs)), .d (i64 me)] b R=(∃(hs0:List HalfS) (q1:List WordS) (me2:Int),(Qz20 hs me)=(Qz20 hs0 me2)∧(Zae hs0<1000000∧q1=tellR hs0 me2)∧∃(ws3:List WordS) (q4:List WordS) (kd5:Int), [Zaf (Zax 8 (rowsW q1)),Zaf (i64 2)]= [Zaf (Zax 8 (rowsW ws3)),Zaf (i64 kd5)]∧(Zae ws3<1000000∧q4=kindS ws3 kd5)∧R (.d (Zax 8 (rowsW q4))) b):=by kernel_rfl
theorem proofsR_nf (hs:List HalfS) (me:Int):wpFn Tryd.prog ⟨TWr, [],wl,y,false⟩ 100 Tryd.f22 [.d (.sl 6 (rowsH hs)), .d (i64 me)] b R=(∃(hs0:List HalfS) (q1:List WordS) (me2:Int),(Qz20 hs me)=(Qz20 hs0 me2)∧(Zae hs0<1000000∧q1=tellR hs0 me2)∧∃(ws3:List WordS) (q4:List WordS) (kd5:Int), [Zaf (Zax 8 (rowsW q1)),Zaf (i64 3)]= [Zaf (Zax 8 (rowsW ws3)),Zaf (i64 kd5)]∧(Zae ws3<1000000∧q4=kindS ws3 kd5)∧R (.d (Zax 8 (rowsW q4))) b):=by kernel_rfl
theorem pcWordsR (hs:List HalfS) (me:Int) (hl:hs.length<1000000):PCall Tryd.prog 20 [.d (.sl 6 (rowsH hs)), .d (i64 me)] (.d (.sl 8 (rowsW (kindS (tellR hs me) 2)))):=by
 refine Zbo (n:=100) (u:=false) mixed TWr_ok Zal Tryd.func20 (by rfl) (by rfl) fun Ev bb=> ?_
 rw [wordsR_nf]
 exact ⟨hs,_,me,rfl,⟨hl,rfl⟩,_,_,2,rfl,⟨Nat.lt_of_le_of_lt (tellS_len _ _ _) hl,rfl⟩,rfl⟩
theorem pcProofsR (hs:List HalfS) (me:Int) (hl:hs.length<1000000):PCall Tryd.prog 22 [.d (.sl 6 (rowsH hs)), .d (i64 me)] (.d (.sl 8 (rowsW (kindS (tellR hs me) 3)))):=by
 refine Zbo (n:=100) (u:=false) mixed TWr_ok Zal Tryd.func22 (by rfl) (by rfl) fun Ev bb=> ?_
 rw [proofsR_nf]
 exact ⟨hs,_,me,rfl,⟨hl,rfl⟩,_,_,3,rfl,⟨Nat.lt_of_le_of_lt (tellS_len _ _ _) hl,rfl⟩,rfl⟩
def cWordsR (args:List AV) (K:AV→Prop):Prop:=∃(hs:List HalfS) (q:List WordS) (me:Int),args= [.d (.sl 6 (rowsH hs)), .d (i64 me)]∧(hs.length<1000000∧q=kindS (tellR hs me) 2)∧K (.d (.sl 8 (rowsW q)))
theorem cWordsR_ok:∀args K,cWordsR args K→∃x,PCall Tryd.prog 20 args x∧K x:=by
 rintro _ K ⟨hs,_,me,rfl,⟨hl,rfl⟩,hk⟩;exact ⟨_,pcWordsR hs me hl,hk⟩
def cProofsR (args:List AV) (K:AV→Prop):Prop:=∃(hs:List HalfS) (q:List WordS) (me:Int),args= [.d (.sl 6 (rowsH hs)), .d (i64 me)]∧(hs.length<1000000∧q=kindS (tellR hs me) 3)∧K (.d (.sl 8 (rowsW q)))
theorem cProofsR_ok:∀args K,cProofsR args K→∃x,PCall Tryd.prog 22 args x∧K x:=by
 rintro _ K ⟨hs,_,me,rfl,⟨hl,rfl⟩,hk⟩;exact ⟨_,pcProofsR hs me hl,hk⟩
noncomputable def lpSa:Code:=sub [1,1,0,1,2,3] (code Tryd.f15)
def tmSa (a c:List HalfS) (z:Bool) (i:Int):List AV:= [.d (.sl 6 (rowsH a)), .d (.sl 6 (rowsH c)), .bad, .bad, .d (bo z), .d (i64 i)]++Zan 20 .bad
noncomputable def lpSw:Code:=sub [1,1,0,1,2,3] (code Tryd.f18)
def tmSw (a c:List WordS) (z:Bool) (i:Int):List AV:= [.d (.sl 8 (rowsW a)), .d (.sl 8 (rowsW c)), .bad, .bad, .d (bo z), .d (i64 i)]++Zan 20 .bad
theorem rSa (a c:List HalfS) (i:Int):wpc Tryd.prog ⟨[], [],wl,y,false⟩ 100 lpSa (tmSa a c false i) [] b (maskK 0 [0,1,4,5] K)=(BIf (decide (i<((Zae (rowsH a):Nat):Int))) (BIf (true&&decide (0≤i)) (∃(x0:Int) (x1:Int) (x2:Int) (x3:Int) (b4:Bool) (x5:Int),(rowsH a)[Zbf i]? =some (Qz13 x0 x1 x2 x3 b4 x5)∧BIf (true&&decide (0≤i)) (∃(x8:Int) (x9:Int) (x10:Int) (x11:Int) (b12:Bool) (x13:Int),(rowsH c)[Zbf i]? =some (Qz13 x8 x9 x10 x11 b12 x13)∧BIf (!(x0==x8&&(x1==x9&&(x2==x10&&(x3==x11&&(b4==b12&&(x5==x13&&true))))))) (K .ret (Zaf (Zax 6 (rowsH a))::Zaf (Zax 6 (rowsH c))::Zat::Zat::Zaf (bo false)::Zaf (i64 i)::bds 20 []) [] b) (K .normal (Zaf (Zax 6 (rowsH a))::Zaf (Zax 6 (rowsH c))::Zat::Zat::Zaf (bo false)::Zaf (i64 (Zab .i64 (i+1)))::bds 20 []) [] b)) False) False) (K (Exit.exit 0) (Zaf (Zax 6 (rowsH a))::Zaf (Zax 6 (rowsH c))::Zat::Zat::Zaf (bo false)::Zaf (i64 i)::bds 20 []) [] b)):=by kernel_rfl
theorem rSw (a c:List WordS) (i:Int):wpc Tryd.prog ⟨[], [],wl,y,false⟩ 100 lpSw (tmSw a c false i) [] b (maskK 0 [0,1,4,5] K)=(BIf (decide (i<((Zae (rowsW a):Nat):Int))) (BIf (true&&decide (0≤i)) (∃(x0:Int) (x1:Int) (x2:Int) (x3:Int) (x4:Int) (x5:Int) (x6:Int) (x7:Int),(rowsW a)[Zbf i]? =some [i64 x0,i64 x1,i64 x2,i64 x3,i64 x4,i64 x5,i64 x6,i64 x7]∧BIf (true&&decide (0≤i)) (∃(x10:Int) (x11:Int) (x12:Int) (x13:Int) (x14:Int) (x15:Int) (x16:Int) (x17:Int),(rowsW c)[Zbf i]? =some [i64 x10,i64 x11,i64 x12,i64 x13,i64 x14,i64 x15,i64 x16,i64 x17]∧BIf (!(x0==x10&&(x1==x11&&(x2==x12&&(x3==x13&&(x4==x14&&(x5==x15&&(x6==x16&&(x7==x17&&true)&&true)))))))) (K .ret (Zaf (Zax 8 (rowsW a))::Zaf (Zax 8 (rowsW c))::Zat::Zat::Zaf (bo false)::Zaf (i64 i)::bds 20 []) [] b) (K .normal (Zaf (Zax 8 (rowsW a))::Zaf (Zax 8 (rowsW c))::Zat::Zat::Zaf (bo false)::Zaf (i64 (Zab .i64 (i+1)))::bds 20 []) [] b)) False) False) (K (Exit.exit 0) (Zaf (Zax 8 (rowsW a))::Zaf (Zax 8 (rowsW c))::Zat::Zat::Zaf (bo false)::Zaf (i64 i)::bds 20 []) [] b)):=by kernel_rfl
def SortH (l:List HalfS):Prop:=l.Pairwise fun a b=>a.st<b.st
theorem sort_ext:∀ {a b:List HalfS},SortH a→SortH b→(∀x,x∈a↔x∈b)→a=b
 | [], [],_,_,_=>rfl
 | [],y::b,_,_,h=>by have:=(h y).2 (by simp);simp at this
 |x::a, [],_,_,h=>by have:=(h x).1 (by simp);simp at this
 | x::a,y::b,ha,hb,h=>by
   obtain ⟨hx,ha'⟩:=List.pairwise_cons.1 ha
   obtain ⟨hy,hb'⟩:=List.pairwise_cons.1 hb
   have e:x=y:=by
     rcases List.mem_cons.1 ((h x).1 (by simp)) with h1|h1
     · exact h1
     · rcases List.mem_cons.1 ((h y).2 (by simp)) with h2|h2
       · exact h2.symm
       · have:=hx y h2;have:=hy x h1;omega
   subst e
   refine congrArg _ (sort_ext ha' hb' fun z=> ?_)
   constructor
   · intro hz
     rcases List.mem_cons.1 ((h z).1 (List.mem_cons_of_mem _ hz)) with h1|h1
     · subst h1;have:=hx z hz;omega
     · exact h1
   · intro hz
     rcases List.mem_cons.1 ((h z).2 (List.mem_cons_of_mem _ hz)) with h1|h1
     · subst h1;have:=hy z hz;omega
     · exact h1
theorem insH_sort {h:HalfS}:∀ {l:List HalfS},SortH l→(∀x∈l,x.st≠h.st)→SortH (insH h l)
 | [],_,_=>List.pairwise_singleton _ _
 | y::r,hl,hn=>by
   obtain ⟨hy,hr⟩:=List.pairwise_cons.1 hl
   simp only [insH]
   split
   · rename_i hlt
     refine List.pairwise_cons.2 ⟨fun x hx=> ?_,hl⟩
     rcases List.mem_cons.1 hx with rfl|hx
     · exact hlt
     · have:=hy x hx;omega
   · rename_i hlt
     refine List.pairwise_cons.2 ⟨fun x hx=> ?_,insH_sort hr fun x hx=>hn x (List.mem_cons_of_mem _ hx)⟩
     rcases mem_insH.1 hx with rfl|hx
     · have:=hn y (by simp);omega
     · exact hy x hx
theorem putH_sort {h:HalfS} {l:List HalfS} (hl:SortH l):SortH (putH h l):=
 insH_sort (hl.sublist List.filter_sublist) fun x hx=>by simpa using (List.mem_filter.1 hx).2
theorem valid_sort {hs:List HalfS} (hv:validH hs=true):SortH hs:=by
 simp only [validH,Zag,Bool.not_eq_true',List.any_eq_false,List.mem_range] at hv
 have hstep:∀i,i+1<hs.length→(nthH hs i).st<(nthH hs (i+1)).st:=by
   intro i hi
   have:=hv.1 (i+1) hi
   simp only [badAt,Bool.or_eq_true,Zag,decide_eq_true_eq,not_or,not_and] at this
   have h1:=this.2 (by omega)
   simp only [Nat.add_sub_cancel] at h1
   omega
 have hmono:∀(d i:Nat),i+d+1<hs.length→(nthH hs i).st<(nthH hs (i+d+1)).st:=by
   intro d
   induction d with
   |zero=>intro i hi;exact hstep i hi
   | succ d ih=>
     intro i hi
     have h1:=ih i (by omega)
     have h2:=hstep (i+d+1) (by omega)
     have e:i+(d+1)+1=i+d+1+1:=by omega
     rw [e];omega
 refine List.pairwise_iff_getElem.2 fun i j hi hj hij=> ?_
 have:=hmono (j - i - 1) i (by omega)
 have e:i+(j - i - 1)+1=j:=by omega
 rw [e] at this
 simpa [nthH,hi,hj] using this
theorem insH_last {h:HalfS}:∀ {l:List HalfS},(∀x∈l,x.st<h.st)→insH h l=l++ [h]
 | [],_=>rfl
 | y::r,hn=>by
   have:=hn y (by simp)
   simp only [insH]
   rw [if_neg (by omega),insH_last fun x hx=>hn x (List.mem_cons_of_mem _ hx)];rfl
theorem putH_last {h:HalfS} {l:List HalfS} (hn:∀x∈l,x.st<h.st):putH h l=l++ [h]:=by
 have e:l.filter (fun x=> !(x.st==h.st))=l:=List.filter_eq_self.2 fun x hx=>by have:=hn x hx;simp;omega
 rw [putH,e,insH_last hn]
theorem tab_sort {hs:List HalfS} (h:SortH hs):tabH hs=hs:=by
 have key:∀(l t:List HalfS),SortH (t++l)→l.foldl (fun t h=>putH h t) t=t++l:=by
   intro l
   induction l with
   |nil=>intro t _;simp
   | cons x r ih=>
     intro t ht
     have h1:putH x t=t++ [x]:=putH_last fun y hy=>(List.pairwise_append.1 ht).2.2 y hy x (by simp)
     rw [List.foldl_cons,h1,ih (t++ [x]) (by simpa using ht)]
     simp
 simpa [tabH] using key hs [] (by simpa using h)
theorem getH_self {l:List HalfS} (hl:SortH l) {x:HalfS} (hx:x∈l):getH x.st l=x:=by
 induction l with
 |nil=>cases hx
 | cons y r ih=>
   obtain ⟨hy,hr⟩:=List.pairwise_cons.1 hl
   rw [getH_cons]
   rcases List.mem_cons.1 hx with rfl|hx
   · rw [if_pos (by simp)]
   · have:=hy x hx
     rw [if_neg (by simp;omega)]
     exact ih hr hx
theorem list_sort {l:List HalfS} (hl:SortH l):listS l=l:=by
 have e:sortK (entH l)=l.map HalfS.st:=by
   have e1:(entH l).map (fun p=>Go.intOf p.1)=l.map HalfS.st:=by simp [entH,Function.comp_def,Go.intOf]
   rw [sortK,e1]
   refine List.mergeSort_of_pairwise (List.pairwise_map.2 (hl.imp fun {a b} h=> ?_))
   simp only [leI,decide_eq_true_eq];omega
 rw [listS,getsH,e,List.map_map]
 have:∀x∈l,((fun k=>getH k l) ∘ HalfS.st) x=id x:=fun x hx=>getH_self hl hx
 rw [List.map_congr_left this,List.map_id]
theorem gath_mem {γ:Type} {n:Nat} {step:Nat→List γ} {x:γ}:x∈gath n step↔∃i,i<n∧x∈step i:=by
 simp [gath,List.mem_flatMap]
theorem hasH_iff {k:Int} {l:List HalfS}:hasH k l=true↔∃x∈l,x.st=k:=by simp [hasH]
theorem with_put {hs:List HalfS} {h:HalfS} (hl:SortH hs) (hr:∀x∈hs,0≤x.st∧x.st<60) (hh:0≤h.st∧h.st<60):withS hs h=putH h hs:=by
 have hstep:∀(p:Nat) (x:HalfS),x∈stepWi hs h p↔x.st=p∧(x=h∨(x∈hs∧x.st≠h.st)):=by
   intro p x
   unfold stepWi
   split
   · rename_i h1
     have h1:(p:Int)=h.st:=by simpa using h1
     simp only [List.mem_singleton]
     constructor
     · rintro rfl;exact ⟨h1.symm, .inl rfl⟩
     · rintro ⟨h2,rfl|⟨_,h3⟩⟩
       · rfl
       · omega
   · rename_i h1
     have h1:¬(p:Int)=h.st:=by simpa using h1
     split
     · rename_i h2
       obtain ⟨y,hy,hy'⟩:=hasH_iff.1 h2
       have hg:getH p hs=y:=by rw [←hy'];exact getH_self hl hy
       simp only [List.mem_singleton,hg]
       constructor
       · rintro rfl;exact ⟨hy', .inr ⟨hy,by omega⟩⟩
       · rintro ⟨h3,rfl|⟨h4,_⟩⟩
         · omega
         · rw [←getH_self hl h4,←getH_self hl hy,h3,hy']
     · rename_i h2
       simp only [List.not_mem_nil,false_iff,not_and,not_or]
       intro h3
       refine ⟨?_,fun h4 _=>h2 (hasH_iff.2 ⟨x,h4,h3⟩)⟩
       rintro rfl;omega
 refine sort_ext ?_ (putH_sort hl) fun x=> ?_
 · have key:∀n,SortH (gath n (stepWi hs h)):=by
     intro n
     induction n with
     |zero=>exact List.Pairwise.nil
     | succ n ih=>
       rw [gath_succ]
       refine List.pairwise_append.2 ⟨ih, ?_,fun x hx y hy=> ?_⟩
       · have:=stepWi_len hs h n
         match hq:stepWi hs h n,this with
         | [],_=>exact List.Pairwise.nil
         | [z],_=>exact List.pairwise_singleton _ _
       · obtain ⟨i,hi,hx⟩:=gath_mem.1 hx
         have:=((hstep i x).1 hx).1
         have:=((hstep n y).1 hy).1
         omega
   exact key 60
 · rw [withS,gath_mem,mem_putH]
   constructor
   · rintro ⟨i,_,hx⟩;exact ((hstep i x).1 hx).2
   · intro hx
     have h2:0≤x.st∧x.st<60:=by
       rcases hx with rfl|⟨hx,_⟩
       · exact hh
       · exact hr x hx
     exact ⟨x.st.toNat,by omega,(hstep _ x).2 ⟨by omega,hx⟩⟩
theorem halfOk_range {h:HalfS} (hh:halfOk h=true):0≤h.st∧h.st<60:=by
 simp only [halfOk,Zag,nodeN,inN,decide_eq_true_eq] at hh
 omega
def handV (hs:List HalfS) (w:WordS) (fr:Int):List HalfS×Int:=
 if (1 !=w.ki)=true then (if (3 !=w.ki)=true then ([],9) else if ((provedS hs w).1 !=0)=true then ([],(provedS hs w).1) else ((provedS hs w).2,0))
 else if ((askedS hs fr w).1 !=0)=true then ([],(askedS hs fr w).1) else ((askedS hs fr w).2,0)
def hearV (hs:List HalfS) (me:Int) (w:WordS) (fr:Int):List HalfS×Int:=
 if (!validH hs)=true then ([],1) else if (!isWordS w)=true then ([],1) else if (w.sp !=me)=true then ([],1) else if (!inN w.ke 2000000)=true then ([],1) else if (!inN fr 999999988)=true then ([],1) else handV hs w fr
theorem askedS_sort {hs:List HalfS} {fr:Int} {w:WordS} (h:SortH hs):SortH (askedS hs fr w).2:=by
 unfold askedS
 repeat' split
 all_goals first|exact h|exact putH_sort h
theorem provedS_sort {hs:List HalfS} {w:WordS} (h:SortH hs):SortH (provedS hs w).2:=by
 unfold provedS
 simp only
 repeat' split
 all_goals first|exact h|exact putH_sort h
theorem hear_eq (hs:List HalfS) (me:Int) (w:WordS) (fr:Int):hearS hs me w fr=hearV hs me w fr:=by
 unfold hearS hearV handV
 cases hv:validH hs with
 |false=>rfl
 | true=>
   have hs1:=valid_sort hv
   rw [tab_sort hs1,list_sort (provedS_sort hs1),list_sort (askedS_sort hs1)]
theorem isWord_eq (w:WordS):isWordS w=formedW w:=by
 cases hf:formedW w with
 |false=>simp [isWordS,judgeS,hf]
 | true=>
   simp only [isWordS,judgeS,hf,Bool.not_true,Bool.false_eq_true,if_false]
   rw [if_neg (by decide),if_neg (by decide),if_neg (by decide)]
   repeat' split
   all_goals rfl
theorem putH_same {hs:List HalfS} (h:SortH hs) {x:HalfS} (hx:x∈hs):putH x hs=hs:=by
 refine sort_ext (putH_sort h) h fun y=> ?_
 rw [mem_putH]
 constructor
 · rintro (rfl|⟨h1,_⟩)
   · exact hx
   · exact h1
 · intro hy
   by_cases he:y.st=x.st
   · left
     rw [←getH_self h hy,←getH_self h hx,he]
   · exact .inr ⟨hy,he⟩
def cOfB (args:List AV) (K:AV→Prop):Prop:=∃(hs:List HalfS) (k:Int) (h:HalfS) (z:Bool),args= [.d (.sl 6 (rowsH hs)), .d (i64 k)]∧(hs.length≤9223372036854775807∧h=getH k hs∧z=hasH k hs)∧BIf z (K (.tup [halfA h, .d (bo true)])) (K (.tup [halfA h, .d (bo false)]))
theorem cOfB_ok:∀args K,cOfB args K→∃x,PCall Tryd.prog 23 args x∧K x:=by
 rintro _ K ⟨hs,k,_,z,rfl,⟨hl,rfl,hz⟩,hk⟩
 have:=pcOf hs k hl
 rw [←hz] at this
 cases z with
 |true=>exact ⟨_,this,hk⟩
 |false=>exact ⟨_,this,hk⟩
def THr2:List (Nat×(List AV→(AV→Prop)→Prop)):= [(14,cValidR),(33,cFormedR),(23,cOfB),(34,cWith),(35,cChal)]
theorem THr2_ok:CallsOk Tryd.prog THr2:=Zah cValidR_ok (Zah cFormedR_ok (Zah cOfB_ok (Zah cWith_ok (Zah cChal_ok Zao))))
abbrev Qz37 (v0:List HalfS) (v1:HalfS):List AV:= [Zaf (Zax 6 (rowsH v0)),Zbk (Qz3 v1)]
abbrev Qz39:List AV:= [Zaf (Dv.s (.slice none 0 0)),Zaf (i64 4)]
theorem hearR_nf (hs:List HalfS) (me fr:Int) (w:WordS):wpFn Tryd.prog ⟨THr2, [],wl,y,false⟩ 100 Tryd.f12 [.d (.sl 6 (rowsH hs)), .d (i64 me),wordA w, .d (i64 fr)] b R=(∃(hs0:List HalfS) (z1:Bool), [Zaf (Zax 6 (rowsH hs))]= [Zaf (Zax 6 (rowsH hs0))]∧(Zae hs0≤9223372036854775807∧z1=validH hs0)∧∃(w2:WordS) (z3:Bool), [Zbk (Qz1 w)]= [Zbk (Qz1 w2)]∧z3=formedW w2∧BIf (!z1) (R (.tup Qz12) b) (BIf (!z3) (R (.tup Qz12) b) (BIf (WordS.sp w !=me) (R (.tup Qz12) b) (BIf (decide (WordS.ke w<(0:Int))) (R (.tup Qz12) b) (BIf (decide (WordS.ke w>(2000000:Int))) (R (.tup Qz12) b) (BIf (decide (fr<(0:Int))) (R (.tup Qz12) b) (BIf (decide (fr>(999999988:Int))) (R (.tup Qz12) b) (∃(hs4:List HalfS) (k5:Int) (h6:HalfS) (z7:Bool), [Zaf (Zax 6 (rowsH hs)),Zaf (i64 (Zcl w))]=(Qz20 hs4 k5)∧(Zae hs4≤9223372036854775807∧h6=getH k5 hs4∧z7=hasH k5 hs4)∧BIf z7 (BIf (Zcs w==(1:Int)) (BIf (decide (HalfS.no h6>Zcm w)) (R (.tup [Zaf (Dv.s (.slice none 0 0)),Zaf (i64 14)]) b) (BIf (HalfS.no h6==Zcm w) (∃(hs8:List HalfS) (q9:List HalfS) (h10:HalfS),(Qz37 hs h6)=(Qz37 hs8 h10)∧(Zae hs8<1000000∧q9=withS hs8 h10)∧R (.tup (Qz29 q9)) b) (∃(w11:WordS) (fr12:Int) (z13:Int), [Zaf (i64 me),Zaf (i64 (Zcl w)),Zaf (i64 (Zcm w)),Zaf (i64 fr)]= [Zaf (i64 (WordS.sp w11)),Zaf (i64 (Zcl w11)),Zaf (i64 (Zcm w11)),Zaf (i64 fr12)]∧z13=chalS fr12 w11∧∃(hs14:List HalfS) (q15:List HalfS) (h16:HalfS), [Zaf (Zax 6 (rowsH hs)),Zbk [Zaf (i64 (Zcl w)),Zaf (i64 (Zcm w)),Zaf (i64 z13),Zaf (i64 (Zab .i64 (fr+12))),Zaf (bo false),Zaf (i64 0)]]=(Qz37 hs14 h16)∧(Zae hs14<1000000∧q15=withS hs14 h16)∧R (.tup (Qz29 q15)) b))) (BIf (Zcs w !=(3:Int)) (R (.tup Qz38) b) (BIf (HalfS.no h6 !=Zcm w) (R (.tup Qz39) b) (BIf (HalfS.ch h6 !=Zdn w) (R (.tup Qz39) b) (∃(hs17:List HalfS) (q18:List HalfS) (h19:HalfS), [Zaf (Zax 6 (rowsH hs)),Zbk (Qz34 h6 w)]=(Qz37 hs17 h19)∧(Zae hs17<1000000∧q18=withS hs17 h19)∧R (.tup (Qz29 q18)) b))))) (BIf (Zcs w==(1:Int)) (BIf (decide (((Zae (rowsH hs):Nat):Int)≥(4:Int))) (R (.tup [Zaf (Dv.s (.slice none 0 0)),Zaf (i64 10)]) b) (∃(w20:WordS) (fr21:Int) (z22:Int), [Zaf (i64 me),Zaf (i64 (Zcl w)),Zaf (i64 (Zcm w)),Zaf (i64 fr)]= [Zaf (i64 (WordS.sp w20)),Zaf (i64 (Zcl w20)),Zaf (i64 (Zcm w20)),Zaf (i64 fr21)]∧z22=chalS fr21 w20∧∃(hs23:List HalfS) (q24:List HalfS) (h25:HalfS), [Zaf (Zax 6 (rowsH hs)),Zbk [Zaf (i64 (Zcl w)),Zaf (i64 (Zcm w)),Zaf (i64 z22),Zaf (i64 (Zab .i64 (fr+12))),Zaf (bo false),Zaf (i64 0)]]=(Qz37 hs23 h25)∧(Zae hs23<1000000∧q24=withS hs23 h25)∧R (.tup (Qz29 q24)) b)) (BIf (Zcs w !=(3:Int)) (R (.tup Qz38) b) (R (.tup Qz39) b))))))))))):=by kernel_rfl
theorem pcHearR (hs:List HalfS) (me fr:Int) (w:WordS) (hl:hs.length≤9223372036854775807):PCall Tryd.prog 12 [.d (.sl 6 (rowsH hs)), .d (i64 me),wordA w, .d (i64 fr)] (.tup [.d (.sl 6 (rowsH (hearV hs me w fr).1)), .d (i64 (hearV hs me w fr).2)]):=by
 refine PCall.ofFnL (n:=100) (u:=false) (fun _=>wlNo _) mixed THr2_ok Zal (fun Ev=>wlNo_ok Ev) Tryd.func12 (by rfl) (by rfl) fun Ev bb=> ?_
 rw [hearR_nf]
 have keyN:∀e:Int,hearV hs me w fr=([],e)→LeT (.tup [nilA, .d (i64 e)]) (.tup [.d (.sl 6 (rowsH (hearV hs me w fr).1)), .d (i64 (hearV hs me w fr).2)]):=fun e h=>by rw [h];exact leNil
 have keyR:∀q:List HalfS,hearV hs me w fr=(q,0)→LeT (.tup [.d (.sl 6 (rowsH q)), .d (i64 0)]) (.tup [.d (.sl 6 (rowsH (hearV hs me w fr).1)), .d (i64 (hearV hs me w fr).2)]):=fun q h=>by rw [h];exact leRefl
 refine ⟨hs,_,rfl,⟨hl,rfl⟩,w,_,rfl,rfl,Zas (fun h1=>keyN _ ?_) fun h1=>Zas (fun h2=>keyN _ ?_) fun h2=>Zas (fun h3=>keyN _ ?_) fun h3=>Zas (fun h4=>keyN _ ?_) fun h4=>Zas (fun h5=>keyN _ ?_) fun h5=>Zas (fun h6=>keyN _ ?_) fun h6=>Zas (fun h7=>keyN _ ?_) fun h7=> ?_⟩
 · rw [hearV,if_pos h1]
 all_goals rw [←isWord_eq] at h2
 · rw [hearV,if_neg (by rw [h1];decide),if_pos h2]
 · rw [hearV,if_neg (by rw [h1];decide),if_neg (by rw [h2];decide),if_pos h3]
 · rw [hearV,if_neg (by rw [h1];decide),if_neg (by rw [h2];decide),if_neg (by rw [h3];decide),if_pos (by simp only [decide_eq_true_eq] at h4;simp [inN];omega)]
 · rw [hearV,if_neg (by rw [h1];decide),if_neg (by rw [h2];decide),if_neg (by rw [h3];decide),if_pos (by simp only [decide_eq_true_eq] at h5;simp [inN];omega)]
 · rw [hearV,if_neg (by rw [h1];decide),if_neg (by rw [h2];decide),if_neg (by rw [h3];decide)]
   split
   · rfl
   · rw [if_pos (by simp only [decide_eq_true_eq] at h6;simp [inN];omega)]
 · rw [hearV,if_neg (by rw [h1];decide),if_neg (by rw [h2];decide),if_neg (by rw [h3];decide)]
   split
   · rfl
   · rw [if_pos (by simp only [decide_eq_true_eq] at h7;simp [inN];omega)]
 have hv:validH hs=true:=by simpa using h1
 have hso:=valid_sort hv
 have hle4:=valid_len hv
 have hra:∀x∈hs,0≤x.st∧x.st<60:=fun x hx=>halfOk_range (valid_mem hv hx)
 have hws:0≤w.st∧w.st<60:=by
   have h2':isWordS w=true:=by simpa using h2
   rw [isWord_eq] at h2'
   simp only [formedW,Zag,nodeJ,decide_eq_true_eq] at h2'
   omega
 have hsp:w.sp=me:=by simpa using h3
 simp only [decide_eq_false_iff_not] at h4 h5 h6 h7
 have hV:hearV hs me w fr=handV hs w fr:=by
   rw [hearV,if_neg (by rw [h1];decide),if_neg (by rw [h2];decide),if_neg (by rw [h3];decide),if_neg (by simp [inN];omega),if_neg (by simp [inN];omega)]
 rw [hV] at keyN keyR ⊢
 have hfr:freshS fr w=⟨w.st,w.no,chalS fr w,Zab Zck (fr+12),false,0⟩:=rfl
 refine ⟨hs,w.st,_,_,rfl,⟨hl,rfl,rfl⟩,Zas (fun z1=>Zas (fun k1=>Zas (fun n1=>keyN _ ?_) fun n1=>Zas (fun n2=>⟨hs,_,getH w.st hs,rfl,⟨by omega,rfl⟩,keyR _ ?_⟩) fun n2=>⟨w,fr,_,by rw [hsp],rfl,hs,_,freshS fr w,rfl,⟨by omega,rfl⟩,keyR _ ?_⟩) fun k1=>Zas (fun k3=>keyN _ ?_) fun k3=>Zas (fun n1=>keyN _ ?_) fun n1=>Zas (fun n2=>keyN _ ?_) fun n2=>⟨hs,_,⟨(getH w.st hs).st,(getH w.st hs).no,(getH w.st hs).ch,(getH w.st hs).un,true,w.ke⟩,rfl,⟨by omega,rfl⟩,keyR _ ?_⟩)
   fun z1=>Zas (fun k1=>Zas (fun l1=>keyN _ ?_) fun l1=>⟨w,fr,_,by rw [hsp],rfl,hs,_,freshS fr w,rfl,⟨by omega,rfl⟩,keyR _ ?_⟩) fun k1=>Zas (fun k3=>keyN _ ?_) fun k3=>keyN _ ?_⟩
 all_goals simp only [decide_eq_true_eq,decide_eq_false_iff_not,beq_iff_eq,beq_eq_false_iff_ne,bne_iff_ne,ne_eq,bne_eq_false_iff_eq] at*
 · have ha:askedS hs fr w=(14,hs):=by rw [askedS,if_pos z1,if_pos n1]
   rw [handV,if_neg (by simp [k1]),ha];rfl
 · have hm:getH w.st hs∈hs:=by
     obtain ⟨x,hx,hx'⟩:=hasH_iff.1 z1
     rw [←hx',getH_self hso hx];exact hx
   have ha:askedS hs fr w=(0,hs):=by rw [askedS,if_pos z1,if_neg n1,if_pos (by simpa using n2)]
   rw [handV,if_neg (by simp [k1]),ha,with_put hso hra (hra _ hm),putH_same hso hm];rfl
 · have ha:askedS hs fr w=(0,putH (freshS fr w) hs):=by rw [askedS,if_pos z1,if_neg n1,if_neg (by simpa using n2)]
   rw [handV,if_neg (by simp [k1]),ha,with_put hso hra hws];rfl
 · rw [handV,if_pos (by simp;omega),if_pos (by simp;omega)]
 · have hp:provedS hs w=(4,hs):=by simp [provedS,z1,n1]
   rw [handV,if_pos (by simp;omega),if_neg (by simp;omega),hp];rfl
 · have hp:provedS hs w=(4,hs):=by simp [provedS,z1,n1,n2]
   rw [handV,if_pos (by simp;omega),if_neg (by simp;omega),hp];rfl
 · have hst:0≤(getH w.st hs).st∧(getH w.st hs).st<60:=by rw [getH_st z1];exact hws
   have hp:provedS hs w=(0,putH ⟨(getH w.st hs).st,(getH w.st hs).no,(getH w.st hs).ch,(getH w.st hs).un,true,w.ke⟩ hs):=by simp [provedS,z1,n1,n2]
   rw [handV,if_pos (by simp;omega),if_neg (by simp;omega),hp,with_put hso hra (h:=⟨(getH w.st hs).st,(getH w.st hs).no,(getH w.st hs).ch,(getH w.st hs).un,true,w.ke⟩) hst];rfl
 · have hlen:=valid_len hv
   rw [rowsH_len] at l1
   have ha:askedS hs fr w=(10,hs):=by rw [askedS,if_neg (by rw [z1];decide),if_pos (by simp;omega)]
   rw [handV,if_neg (by simp [k1]),ha];rfl
 · have hlen:=valid_len hv
   rw [rowsH_len] at l1
   have ha:askedS hs fr w=(0,putH (freshS fr w) hs):=by rw [askedS,if_neg (by rw [z1];decide),if_neg (by simp;omega)]
   rw [handV,if_neg (by simp [k1]),ha,with_put hso hra hws];rfl
 · rw [handV,if_pos (by simp;omega),if_pos (by simp;omega)]
 · have hp:provedS hs w=(4,hs):=by simp [provedS,z1]
   rw [handV,if_pos (by simp;omega),if_neg (by simp;omega),hp];rfl
def cHearR (args:List AV) (K:AV→Prop):Prop:=∃(hs q:List HalfS) (me fr e:Int) (w:WordS),args= [.d (.sl 6 (rowsH hs)), .d (i64 me),wordA w, .d (i64 fr)]∧(hs.length≤9223372036854775807∧q=(hearV hs me w fr).1∧e=(hearV hs me w fr).2)∧K (.tup [.d (.sl 6 (rowsH q)), .d (i64 e)])
theorem cHearR_ok:∀args K,cHearR args K→∃x,PCall Tryd.prog 12 args x∧K x:=by
 rintro _ K ⟨hs,_,me,fr,_,w,rfl,⟨hl,rfl,rfl⟩,hk⟩;exact ⟨_,pcHearR hs me fr w hl,hk⟩
theorem pcHearV (hs:List HalfS) (me fr:Int) (w:WordS) (hl:hs.length≤9223372036854775807):PCall Tryd.prog 11 [.d (.sl 6 (rowsH hs)), .d (i64 me),wordA w, .d (i64 fr)] (.tup [.d (.sl 6 (rowsH (hearV hs me w fr).1)), .d (i64 (hearV hs me w fr).2)]):=by
 have:=pcHear hs me fr w hl
 rwa [hear_eq] at this
def cHearV (args:List AV) (K:AV→Prop):Prop:=∃(hs q:List HalfS) (me fr e:Int) (w:WordS),args= [.d (.sl 6 (rowsH hs)), .d (i64 me),wordA w, .d (i64 fr)]∧(hs.length≤9223372036854775807∧q=(hearV hs me w fr).1∧e=(hearV hs me w fr).2)∧K (.tup [.d (.sl 6 (rowsH q)), .d (i64 e)])
theorem cHearV_ok:∀args K,cHearV args K→∃x,PCall Tryd.prog 11 args x∧K x:=by
 rintro _ K ⟨hs,_,me,fr,_,w,rfl,⟨hl,rfl,rfl⟩,hk⟩;exact ⟨_,pcHearV hs me fr w hl,hk⟩
theorem any_neG {α:Type} [DecidableEq α] (d:α) {a c:List α} (hl:a.length=c.length):(List.range a.length).any (fun i=> !decide (a.getD i d=c.getD i d))= !decide (a=c):=by
 rw [Bool.eq_iff_iff]
 simp only [List.any_eq_true,List.mem_range,Bool.not_eq_true',decide_eq_false_iff_not]
 constructor
 · rintro ⟨i,hi,h⟩ rfl;exact h rfl
 · intro h
   apply Classical.byContradiction
   intro hn
   refine h (List.ext_getElem hl fun i h1 h2=> ?_)
   have:=Classical.not_not.1 fun h3=>hn ⟨i,h1,h3⟩
   simpa [h1,h2] using this
theorem eqH (x y:HalfS):(x.st==y.st&&(x.no==y.no&&(x.ch==y.ch&&(x.un==y.un&&(x.pr==y.pr&&(x.ke==y.ke&&true))))))=decide (x=y):=by
 cases x;cases y
 rw [Bool.eq_iff_iff]
 simp
theorem eqW (x y:WordS):(x.ki==y.ki&&(x.st==y.st&&(x.sp==y.sp&&(x.no==y.no&&(x.ch==y.ch&&(x.ke==y.ke&&(x.rf==y.rf&&(x.rn==y.rn&&true)&&true)))))))=decide (x=y):=by
 cases x;cases y
 rw [Bool.eq_iff_iff]
 simp
theorem wrSa {Ev:Env Tryd.prog} {b:Ev.β} {Q:Exit→St Ev.β→Prop} (a c:List HalfS) (hl:a.length=c.length) (hb:a.length<1000000) (h1:a=c→∀i:Int,Q (.exit 0) ⟨tmSa a c false i, [],b⟩) (h2:a≠c→∀i:Int,Q .ret ⟨tmSa a c false i, [],b⟩):
   WR Ev lpSa (a.length+1) ⟨tmSa a c false (0:Nat), [],b⟩ Q:=by
 refine WR.scanK (X:=⟨[], [],wlW Ev,Ev.Y,false⟩) (k:=100) [0,1,4,5] mixed (CX.Ok.of Zao Zal) a.length (fun i=> !decide (nthH a i=nthH c i)) (fun i=>tmSa a c false (i:Nat)) (fun i=>tmSa a c false (i:Nat)) [] 0 (fun i hi K k1 k2=> ?_) (fun K k1=> ?_) (fun h=>h1 ?_ _) fun h i=>h2 ?_ i
 · refine Eq.mpr (rSa _ _ _ K a c i) ?_
   rw [rowsH_len,Int.toNat_natCast,rowsH_at hi,rowsH_at (by omega:i<c.length)]
   refine Zcq (by simp;omega) (Zcq (by simp) ⟨_,_,_,_,_,_,rfl,Zcq (by simp) ⟨_,_,_,_,_,_,rfl, ?_⟩⟩)
   rw [show ((nthH a i).st==(nthH c i).st&&((nthH a i).no==(nthH c i).no&&((nthH a i).ch==(nthH c i).ch&&((nthH a i).un==(nthH c i).un&&((nthH a i).pr==(nthH c i).pr&&((nthH a i).ke==(nthH c i).ke&&true))))))=decide (nthH a i=nthH c i) from eqH _ _]
   refine Zas (fun g=>k1 g) fun g=> ?_
   rw [wrapN (by omega)]
   exact k2 g
 · refine Eq.mpr (rSa _ _ _ K a c _) ?_
   rw [rowsH_len]
   exact BIf.f (by simp) k1
 · have:=any_neG zeroH hl
   unfold nthH at h
   rw [this] at h;simpa using h
 · have:=any_neG zeroH hl
   unfold nthH at h
   rw [this] at h;simpa using h
def wlSa {β:Type}:WLT β:=fun t tm hp b K=>∃(a c:List HalfS) (z:Bool),t= .loop lpSa∧maskTm [0,1,4,5] 0 tm=tmSa a c false 0∧hp= []∧(a.length=c.length∧a.length<1000000∧z=decide (a=c))∧BIf z (∀i:Int,K (.exit 0) (tmSa a c false i) [] b) (∀i:Int,K .ret (tmSa a c false i) [] b)
theorem wlSa_ok {Ev:Env Tryd.prog} (c:Code) (tm:List AV) (hp:List Blk) (b:Ev.β) (K:Exit→List AV→List Blk→Ev.β→Prop) (h:wlSa c tm hp b K):W Ev c ⟨tm,hp,b⟩ (fun e s=>K e s.tm s.hp s.b):=by
 obtain ⟨a,d,z,rfl,htm,rfl,⟨hl,hb,hz⟩,hK⟩:=h
 refine W.cast (htm▸maskTm_le _ tm 0) (Zby _) ?_
 exact W.rounds (wrSa (Q:=fun e s=>K e s.tm s.hp s.b) a d hl hb (fun h=>by rw [hz,decide_eq_true h] at hK;exact hK) fun h=>by rw [hz,decide_eq_false h] at hK;exact hK)
abbrev Qz41 (v0:List HalfS) (v1:List HalfS):=Zaf (Zax 6 (rowsH v0))::Zaf (Zax 6 (rowsH v1))::Zat::Zat::Zaf (bo false)::Zaf (i64 0)::bds 20 []
theorem Sa_nf (a c:List HalfS):wpFn Tryd.prog ⟨[], [],wlSa,y,false⟩ 100 Tryd.f15 [.d (.sl 6 (rowsH a)), .d (.sl 6 (rowsH c))] b R=(BIf (((Zae (rowsH a):Nat):Int) !=((Zae (rowsH c):Nat):Int)) (R (.d (bo false)) b) (∃(a0:List HalfS) (c1:List HalfS) (z2:Bool),Zbw lpSa=Zbw lpSa∧(Qz41 a c)=(Qz41 a0 c1)∧([]:List Blk)= []∧(Zae a0=Zae c1∧Zae a0<1000000∧z2=decide (a0=c1))∧BIf z2 (∀(i:Int),R (.d (bo true)) b) (∀(i:Int),R (.d (bo false)) b))):=by kernel_rfl
theorem pcSame (a c:List HalfS) (ha:a.length<1000000):PCall Tryd.prog 15 [.d (.sl 6 (rowsH a)), .d (.sl 6 (rowsH c))] (.d (bo (decide (a=c)))):=by
 refine Zdd (n:=100) (u:=false) (fun _=>wlSa) mixed Zao Zal (fun Ev=>wlSa_ok) Tryd.func15 (by rfl) (by rfl) fun Ev bb=> ?_
 rw [Sa_nf,rowsH_len,rowsH_len]
 refine Zas (fun g=> ?_) fun g=>⟨a,c,_,rfl,rfl,rfl,⟨by simp at g;omega,ha,rfl⟩,Zas (fun h i=>by rw [h]) fun h i=>by rw [h]⟩
 have:a≠c:=fun e=>by rw [e] at g;simp at g
 rw [decide_eq_false this]
def cSame (args:List AV) (K:AV→Prop):Prop:=∃(a c:List HalfS) (z:Bool),args= [.d (.sl 6 (rowsH a)), .d (.sl 6 (rowsH c))]∧(a.length<1000000∧z=decide (a=c))∧K (.d (bo z))
theorem cSame_ok:∀args K,cSame args K→∃x,PCall Tryd.prog 15 args x∧K x:=by
 rintro _ K ⟨a,c,_,rfl,⟨ha,rfl⟩,hk⟩;exact ⟨_,pcSame a c ha,hk⟩
theorem wrSw {Ev:Env Tryd.prog} {b:Ev.β} {Q:Exit→St Ev.β→Prop} (a c:List WordS) (hl:a.length=c.length) (hb:a.length<1000000) (h1:a=c→∀i:Int,Q (.exit 0) ⟨tmSw a c false i, [],b⟩) (h2:a≠c→∀i:Int,Q .ret ⟨tmSw a c false i, [],b⟩):
   WR Ev lpSw (a.length+1) ⟨tmSw a c false (0:Nat), [],b⟩ Q:=by
 refine WR.scanK (X:=⟨[], [],wlW Ev,Ev.Y,false⟩) (k:=100) [0,1,4,5] mixed (CX.Ok.of Zao Zal) a.length (fun i=> !decide (nthW a i=nthW c i)) (fun i=>tmSw a c false (i:Nat)) (fun i=>tmSw a c false (i:Nat)) [] 0 (fun i hi K k1 k2=> ?_) (fun K k1=> ?_) (fun h=>h1 ?_ _) fun h i=>h2 ?_ i
 · refine Eq.mpr (rSw _ _ _ K a c i) ?_
   rw [rowsW_len,Int.toNat_natCast,rowsW_at hi,rowsW_at (by omega:i<c.length)]
   refine Zcq (by simp;omega) (Zcq (by simp) ⟨_,_,_,_,_,_,_,_,rfl,Zcq (by simp) ⟨_,_,_,_,_,_,_,_,rfl, ?_⟩⟩)
   rw [show ((nthW a i).ki==(nthW c i).ki&&((nthW a i).st==(nthW c i).st&&((nthW a i).sp==(nthW c i).sp&&((nthW a i).no==(nthW c i).no&&((nthW a i).ch==(nthW c i).ch&&((nthW a i).ke==(nthW c i).ke&&((nthW a i).rf==(nthW c i).rf&&((nthW a i).rn==(nthW c i).rn&&true)&&true)))))))=decide (nthW a i=nthW c i) from eqW _ _]
   refine Zas (fun g=>k1 g) fun g=> ?_
   rw [wrapN (by omega)]
   exact k2 g
 · refine Eq.mpr (rSw _ _ _ K a c _) ?_
   rw [rowsW_len]
   exact BIf.f (by simp) k1
 · have:=any_neG zeroW hl
   unfold nthW at h
   rw [this] at h;simpa using h
 · have:=any_neG zeroW hl
   unfold nthW at h
   rw [this] at h;simpa using h
def wlSw {β:Type}:WLT β:=fun t tm hp b K=>∃(a c:List WordS) (z:Bool),t= .loop lpSw∧maskTm [0,1,4,5] 0 tm=tmSw a c false 0∧hp= []∧(a.length=c.length∧a.length<1000000∧z=decide (a=c))∧BIf z (∀i:Int,K (.exit 0) (tmSw a c false i) [] b) (∀i:Int,K .ret (tmSw a c false i) [] b)
theorem wlSw_ok {Ev:Env Tryd.prog} (c:Code) (tm:List AV) (hp:List Blk) (b:Ev.β) (K:Exit→List AV→List Blk→Ev.β→Prop) (h:wlSw c tm hp b K):W Ev c ⟨tm,hp,b⟩ (fun e s=>K e s.tm s.hp s.b):=by
 obtain ⟨a,d,z,rfl,htm,rfl,⟨hl,hb,hz⟩,hK⟩:=h
 refine W.cast (htm▸maskTm_le _ tm 0) (Zby _) ?_
 exact W.rounds (wrSw (Q:=fun e s=>K e s.tm s.hp s.b) a d hl hb (fun h=>by rw [hz,decide_eq_true h] at hK;exact hK) fun h=>by rw [hz,decide_eq_false h] at hK;exact hK)
abbrev Qz42 (v0:List WordS) (v1:List WordS):=Zaf (Zax 8 (rowsW v0))::Zaf (Zax 8 (rowsW v1))::Zat::Zat::Zaf (bo false)::Zaf (i64 0)::bds 20 []
theorem Sw_nf (a c:List WordS):wpFn Tryd.prog ⟨[], [],wlSw,y,false⟩ 100 Tryd.f18 [.d (.sl 8 (rowsW a)), .d (.sl 8 (rowsW c))] b R=(BIf (((Zae (rowsW a):Nat):Int) !=((Zae (rowsW c):Nat):Int)) (R (.d (bo false)) b) (∃(a0:List WordS) (c1:List WordS) (z2:Bool),Zbw lpSw=Zbw lpSw∧(Qz42 a c)=(Qz42 a0 c1)∧([]:List Blk)= []∧(Zae a0=Zae c1∧Zae a0<1000000∧z2=decide (a0=c1))∧BIf z2 (∀(i:Int),R (.d (bo true)) b) (∀(i:Int),R (.d (bo false)) b))):=by kernel_rfl
theorem pcSameW (a c:List WordS) (ha:a.length<1000000):PCall Tryd.prog 18 [.d (.sl 8 (rowsW a)), .d (.sl 8 (rowsW c))] (.d (bo (decide (a=c)))):=by
 refine Zdd (n:=100) (u:=false) (fun _=>wlSw) mixed Zao Zal (fun Ev=>wlSw_ok) Tryd.func18 (by rfl) (by rfl) fun Ev bb=> ?_
 rw [Sw_nf,rowsW_len,rowsW_len]
 refine Zas (fun g=> ?_) fun g=>⟨a,c,_,rfl,rfl,rfl,⟨by simp at g;omega,ha,rfl⟩,Zas (fun h i=>by rw [h]) fun h i=>by rw [h]⟩
 have:a≠c:=fun e=>by rw [e] at g;simp at g
 rw [decide_eq_false this]
def cSameW (args:List AV) (K:AV→Prop):Prop:=∃(a c:List WordS) (z:Bool),args= [.d (.sl 8 (rowsW a)), .d (.sl 8 (rowsW c))]∧(a.length<1000000∧z=decide (a=c))∧K (.d (bo z))
theorem cSameW_ok:∀args K,cSameW args K→∃x,PCall Tryd.prog 18 args x∧K x:=by
 rintro _ K ⟨a,c,_,rfl,⟨ha,rfl⟩,hk⟩;exact ⟨_,pcSameW a c ha,hk⟩
structure JoinS where
 ph:Int
 sp:Int
 no:Int
 si:Int
 tr:Int
def joinA (j:JoinS):AV:= .agg [.d (i64 j.ph), .d (i64 j.sp), .d (i64 j.no), .d (i64 j.si), .d (i64 j.tr)]
def joinD (j:JoinS):List Dv:= [i64 j.ph,i64 j.sp,i64 j.no,i64 j.si,i64 j.tr]
def joinB (j:JoinS):Blk:=⟨[.d (i64 j.ph), .d (i64 j.sp), .d (i64 j.no), .d (i64 j.si), .d (i64 j.tr)],false,false,0⟩
theorem jvalid_nf (j:JoinS):wpFn Tryd.prog ⟨[], [],wl,y,false⟩ 100 Tryd.f44 [.rptr (joinD j)] b R=(BIf (decide (JoinS.ph j≥(0:Int))) (BIf (decide (JoinS.ph j≤(3:Int))) (BIf (decide (JoinS.tr j≥(0:Int))) (BIf (decide (JoinS.tr j≤(255:Int))) (BIf (decide (JoinS.si j≥(0:Int))) (BIf (decide (JoinS.si j≤(1000000000:Int))) (BIf (decide (JoinS.no j≥(0:Int))) (BIf (decide (JoinS.no j≤(1000000000:Int))) (BIf (decide (JoinS.sp j≥(-1:Int))) (R (.d (bo (decide (JoinS.sp j<(60:Int))))) b) (R (.d (bo false)) b)) (R (.d (bo false)) b)) (R (.d (bo false)) b)) (R (.d (bo false)) b)) (R (.d (bo false)) b)) (R (.d (bo false)) b)) (R (.d (bo false)) b)) (R (.d (bo false)) b)) (R (.d (bo false)) b)):=by kernel_rfl
abbrev Qz5 (v0:JoinS):List AV:= [Zaf (i64 (JoinS.ph v0)),Zaf (i64 (JoinS.sp v0)),Zaf (i64 (JoinS.no v0)),Zaf (i64 (JoinS.si v0)),Zaf (i64 (JoinS.tr v0))]
abbrev Qz9 (v0:WordS) (v1:Int):List AV:= [Zaf (i64 3),Zaf (i64 (Zcl v0)),Zaf (i64 (WordS.sp v0)),Zaf (i64 (Zcm v0)),Zaf (i64 (Zdn v0)),Zaf (i64 v1),Zaf (i64 0),Zaf (i64 0)]
abbrev Qz36 (v0:JoinS):List AV:= [Zaf (i64 2),Zaf (i64 (JoinS.sp v0)),Zaf (i64 (JoinS.no v0)),Zaf (i64 (JoinS.si v0)),Zaf (i64 (JoinS.tr v0))]
theorem jhear_nf (b0 b1 b2 b3 b5:Blk) (j:JoinS) (w:WordS) (own:Int):wpc Tryd.prog ⟨[], [],wl,y,false⟩ 100 (code Tryd.f46) (startTm Tryd.f46 [.ptr 4 0,wordA w, .d (i64 own)]) [b0,b1,b2,b3,joinB j,b5] b (fnKS Tryd.prog Tryd.f46 RS)=(BIf (Zcs w==(2:Int)) (BIf (JoinS.ph j !=(1:Int)) (BIf (JoinS.ph j !=(2:Int)) (RS (AV.tup [Zbk Qz2,Zaf (bo false)]) [b0,b1,b2,b3,Blk.mk (Qz5 j) false false 0,b5,Blk.mk (Qz1 w) false false 0,Blk.mk Qz2 false false 0,Blk.mk Qz2 false false 0] b) (RS (AV.tup [Zbk (Qz9 w own),Zaf (bo true)]) [b0,b1,b2,b3,Blk.mk (Qz36 j) false false 0,b5,Blk.mk (Qz1 w) false false 0,Blk.mk (Qz9 w own) false false 0,Blk.mk (Qz9 w own) false false 0] b)) (RS (AV.tup [Zbk (Qz9 w own),Zaf (bo true)]) [b0,b1,b2,b3,Blk.mk (Qz36 j) false false 0,b5,Blk.mk (Qz1 w) false false 0,Blk.mk (Qz9 w own) false false 0,Blk.mk (Qz9 w own) false false 0] b)) (BIf (Zcs w==(4:Int)) (BIf (JoinS.ph j==(2:Int)) (BIf (WordS.ke w==own) (RS (AV.tup [Zbk Qz2,Zaf (bo true)]) [b0,b1,b2,b3,Blk.mk [Zaf (i64 3),Zaf (i64 (JoinS.sp j)),Zaf (i64 (JoinS.no j)),Zaf (i64 (JoinS.si j)),Zaf (i64 (JoinS.tr j))] false false 0,b5,Blk.mk (Qz1 w) false false 0,Blk.mk Qz2 false false 0,Blk.mk Qz2 false false 0] b) (RS (AV.tup [Zbk Qz2,Zaf (bo false)]) [b0,b1,b2,b3,Blk.mk (Qz5 j) false false 0,b5,Blk.mk (Qz1 w) false false 0,Blk.mk Qz2 false false 0,Blk.mk Qz2 false false 0] b)) (RS (AV.tup [Zbk Qz2,Zaf (bo false)]) [b0,b1,b2,b3,Blk.mk (Qz5 j) false false 0,b5,Blk.mk (Qz1 w) false false 0,Blk.mk Qz2 false false 0,Blk.mk Qz2 false false 0] b)) (RS (AV.tup [Zbk Qz2,Zaf (bo false)]) [b0,b1,b2,b3,Blk.mk (Qz5 j) false false 0,b5,Blk.mk (Qz1 w) false false 0,Blk.mk Qz2 false false 0,Blk.mk Qz2 false false 0] b))):=by kernel_rfl
theorem lask_nf (st no:Int):wpFn Tryd.prog ⟨[], [],wl,y,false⟩ 100 Tryd.f27 [.d (i64 st), .d (i64 no)] b R=(R (.agg [Zaf (i64 1),Zaf (i64 st),Zaf (i64 2),Zaf (i64 no),Zaf (i64 0),Zaf (i64 0),Zaf (i64 0),Zaf (i64 0)]) b):=by kernel_rfl
def jvalidB (j:JoinS):Bool:=decide (j.ph≥0)&&(decide (j.ph≤3)&&(decide (j.tr≥0)&&(decide (j.tr≤255)&&(decide (j.si≥0)&&(decide (j.si≤1000000000)&&(decide (j.no≥0)&&(decide (j.no≤1000000000)&&(decide (j.sp≥ -1)&&decide (j.sp<60)))))))))
theorem pcJvalid (j:JoinS):PCall Tryd.prog 44 [.rptr (joinD j)] (.d (bo (jvalidB j))):=by
 refine Zbo (n:=100) (u:=false) mixed Zao Zal Tryd.func44 (by rfl) (by rfl) fun Ev bb=> ?_
 rw [jvalid_nf]
 refine Zas (fun h1=>Zas (fun h2=>Zas (fun h3=>Zas (fun h4=>Zas (fun h5=>Zas (fun h6=>Zas (fun h7=>Zas (fun h8=>Zas (fun h9=> ?_) fun h9=> ?_) fun h8=> ?_) fun h7=> ?_) fun h6=> ?_) fun h5=> ?_) fun h4=> ?_) fun h3=> ?_) fun h2=> ?_) fun h1=> ?_
 all_goals simp only [jvalidB, *,Bool.true_and,Bool.false_and,Bool.and_false]
def cJvalid (args:List AV) (K:AV→Prop):Prop:=∃(j:JoinS) (z:Bool),args= [.rptr (joinD j)]∧z=jvalidB j∧K (.d (bo z))
theorem cJvalid_ok:∀args K,cJvalid args K→∃x,PCall Tryd.prog 44 args x∧K x:=by
 rintro _ K ⟨j,_,rfl,rfl,hk⟩;exact ⟨_,pcJvalid j,hk⟩
def jhearS (j:JoinS) (w:WordS) (own:Int):JoinS×WordS×Bool:=
 if (w.ki==2)=true then (if (j.ph !=1)=true then (if (j.ph !=2)=true then (j,zeroW,false) else (⟨2,j.sp,j.no,j.si,j.tr⟩,⟨3,w.st,w.sp,w.no,w.ch,own,0,0⟩,true)) else (⟨2,j.sp,j.no,j.si,j.tr⟩,⟨3,w.st,w.sp,w.no,w.ch,own,0,0⟩,true))
 else if (w.ki==4)=true then (if (j.ph==2)=true then (if (w.ke==own)=true then (⟨3,j.sp,j.no,j.si,j.tr⟩,zeroW,true) else (j,zeroW,false)) else (j,zeroW,false)) else (j,zeroW,false)
theorem jhear_body:Tryd.f46.body=some (code Tryd.f46):=by rfl
theorem scJhear (b0 b1 b2 b3 b5:Blk) (j:JoinS) (w:WordS) (own:Int):SCall Tryd.prog 46 [.ptr 4 0,wordA w, .d (i64 own)] [b0,b1,b2,b3,joinB j,b5] (.tup [wordA (jhearS j w own).2.1, .d (bo (jhearS j w own).2.2)])
   [b0,b1,b2,b3,joinB (jhearS j w own).1,b5,wordB w,wordB (jhearS j w own).2.1,wordB (jhearS j w own).2.1]:=by
 refine SCall.ofWp (n:=100) (u:=false) mixed Zao Zal Tryd.func46 jhear_body (by rfl) fun Ev b=> ?_
 rw [jhear_nf]
 have key:∀q:JoinS×WordS×Bool,jhearS j w own=q→(AV.tup [wordA q.2.1, .d (bo q.2.2)]=AV.tup [wordA (jhearS j w own).2.1, .d (bo (jhearS j w own).2.2)]∧ [b0,b1,b2,b3,joinB q.1,b5,wordB w,wordB q.2.1,wordB q.2.1]= [b0,b1,b2,b3,joinB (jhearS j w own).1,b5,wordB w,wordB (jhearS j w own).2.1,wordB (jhearS j w own).2.1]):=by
   rintro _ rfl;exact ⟨rfl,rfl⟩
 refine Zas (fun h1=>Zas (fun h2=>Zas (fun h3=>key (j,zeroW,false) ?_) fun h3=>key (⟨2,j.sp,j.no,j.si,j.tr⟩,⟨3,w.st,w.sp,w.no,w.ch,own,0,0⟩,true) ?_) fun h2=>key (⟨2,j.sp,j.no,j.si,j.tr⟩,⟨3,w.st,w.sp,w.no,w.ch,own,0,0⟩,true) ?_)
   fun h1=>Zas (fun h2=>Zas (fun h3=>Zas (fun h4=>key (⟨3,j.sp,j.no,j.si,j.tr⟩,zeroW,true) ?_) fun h4=>key (j,zeroW,false) ?_) fun h3=>key (j,zeroW,false) ?_) fun h2=>key (j,zeroW,false) ?_
 all_goals simp only [jhearS, *,if_true,Bool.false_eq_true,if_false]
def sJhear (args:List AV) (hp:List Blk) (K:AV→List Blk→Prop):Prop:=match hp with
 | [b0,b1,b2,b3,b4,b5]=>∃(j j':JoinS) (w a:WordS) (own:Int) (z:Bool),args= [.ptr 4 0,wordA w, .d (i64 own)]∧b4=joinB j∧(j'=(jhearS j w own).1∧a=(jhearS j w own).2.1∧z=(jhearS j w own).2.2)∧K (.tup [wordA a, .d (bo z)]) [b0,b1,b2,b3,joinB j',b5,wordB w,wordB a,wordB a]
 |_=>False
theorem sJhear_ok:∀args hp K,sJhear args hp K→∃x hp',SCall Tryd.prog 46 args hp x hp'∧K x hp':=by
 intro args hp K h
 unfold sJhear at h
 split at h
 · obtain ⟨j,_,w,_,own,_,rfl,rfl,⟨rfl,rfl,rfl⟩,h⟩:=h
   exact ⟨_,_,scJhear _ _ _ _ _ j w own,h⟩
 · exact h.elim
def TJh:List (Nat×(List AV→(AV→Prop)→Prop)):= [(47,cOwn),(48,cFormed)]
theorem TJh_ok:CallsOk Tryd.prog TJh:=Zah cOwn_ok (Zah cFormed_ok Zao)
def UJh:List (Nat×(List AV→List Blk→(AV→List Blk→Prop)→Prop)):= [(44,lendC cJvalid),(46,sJhear)]
theorem UJh_ok:SCallsOk Tryd.prog UJh:=Zcg (lendC_ok cJvalid_ok) (Zcg sJhear_ok Zal)
def TJa:List (Nat×(List AV→(AV→Prop)→Prop)):= [(45,cNodeJ)]
theorem TJa_ok:CallsOk Tryd.prog TJa:=Zah cNodeJ_ok Zao
def UJa:List (Nat×(List AV→List Blk→(AV→List Blk→Prop)→Prop)):= [(44,lendC cJvalid)]
theorem UJa_ok:SCallsOk Tryd.prog UJa:=Zcg (lendC_ok cJvalid_ok) Zal
abbrev Qz19 (v0:JoinS):List AV:= [AV.rptr [i64 (JoinS.ph v0),i64 (JoinS.sp v0),i64 (JoinS.no v0),i64 (JoinS.si v0),i64 (JoinS.tr v0)]]
abbrev Qz26 (v0:JoinS):List AV:= [Zbk (Qz5 v0),Zbk Qz2,Zaf (bo false)]
theorem jHear_nf (j:JoinS) (me fr:Int) (w:WordS):wpFn Tryd.prog ⟨TJh,UJh,wl,y,false⟩ 100 Tryd.f25 [joinA j, .d (i64 me),wordA w, .d (i64 fr)] b R=(∃(n0:Int) (k1:Int) (e2:Int), [Zaf (i64 me)]= [Zaf (i64 n0)]∧(k1=ownK n0∧e2=ownE n0)∧∃(j3:JoinS) (z4:Bool),(Qz19 j)=(Qz19 j3)∧z4=jvalidB j3∧BIf (!z4) (R (.tup (Qz26 j)) b) (∃(w5:WordS) (z6:Bool), [Zbk (Qz1 w)]= [Zbk (Qz1 w5)]∧z6=formedW w5∧BIf (!z6) (R (.tup (Qz26 j)) b) (BIf (decide (fr<(0:Int))) (R (.tup (Qz26 j)) b) (BIf (decide (fr>(1000000000:Int))) (R (.tup (Qz26 j)) b) (BIf (!(Zcs w==Zcs w&&(Zcl w==me&&(WordS.sp w==JoinS.sp j&&(Zcm w==JoinS.no j&&(Zdn w==Zdn w&&(WordS.ke w==WordS.ke w&&(WordS.rf w==WordS.rf w&&(WordS.rn w==WordS.rn w&&true)&&true)))))))) (R (.tup (Qz26 j)) b) (BIf (e2 !=(0:Int)) (R (.tup (Qz26 j)) b) (∃(j7:JoinS) (j8:JoinS) (w9:WordS) (a10:WordS) (own11:Int) (z12:Bool), [Zde 4 0,Zbk (Qz1 w),Zaf (i64 k1)]= [Zde 4 0,Zbk (Qz1 w9),Zaf (i64 own11)]∧Blk.mk (Qz5 j) false false 0=Blk.mk (Qz5 j7) false false 0∧(j8=Prod.fst (jhearS j7 w9 own11)∧a10=Prod.fst (Prod.snd (jhearS j7 w9 own11))∧z12=Prod.snd (Prod.snd (jhearS j7 w9 own11)))∧R (.tup [Zbk (Qz5 j8),Zbk (Qz1 a10),Zaf (bo z12)]) b))))))):=by kernel_rfl
abbrev Qz10:List AV:= [Zbk [Zaf (i64 0),Zaf (i64 0),Zaf (i64 0),Zaf (i64 0),Zaf (i64 0)],Zbk Qz2,Zaf (i64 1)]
abbrev Qz43:List AV:= [Zaf (i64 0),Zaf (i64 0),Zaf (i64 0),Zaf (i64 0),Zaf (i64 0)]
theorem jAsk_nf (j:JoinS) (me boot sp fr:Int):wpFn Tryd.prog ⟨TJa,UJa,wl,y,false⟩ 100 Tryd.f24 [joinA j, .d (i64 me), .d (i64 boot), .d (i64 sp), .d (i64 fr)] b R=(∃(j0:JoinS) (z1:Bool),(Qz19 j)=(Qz19 j0)∧z1=jvalidB j0∧BIf (!z1) (R (.tup Qz10) b) (∃(n2:Int) (z3:Bool), [Zaf (i64 me)]= [Zaf (i64 n2)]∧z3=nodeJ n2∧BIf (!z3) (R (.tup Qz10) b) (∃(n4:Int) (z5:Bool), [Zaf (i64 sp)]= [Zaf (i64 n4)]∧z5=nodeJ n4∧BIf (!z5) (R (.tup Qz10) b) (BIf (me==sp) (R (.tup Qz10) b) (BIf (decide (boot<(0:Int))) (R (.tup Qz10) b) (BIf (decide (boot>(1000000:Int))) (R (.tup Qz10) b) (BIf (decide (fr<(0:Int))) (R (.tup Qz10) b) (BIf (decide (fr>(1000000000:Int))) (R (.tup Qz10) b) (BIf (JoinS.ph j !=(0:Int)) (R (.tup [Zbk Qz43,Zbk Qz2,Zaf (i64 6)]) b) (BIf (JoinS.tr j==(255:Int)) (R (.tup [Zbk Qz43,Zbk Qz2,Zaf (i64 2)]) b) (R (.tup [Zbk [Zaf (i64 1),Zaf (i64 sp),Zaf (i64 (Zab .i64 (Zab .i64 ((256:Int)*boot)+Zab .i64 (JoinS.tr j+(1:Int))))),Zaf (i64 fr),Zaf (i64 (Zab .i64 (JoinS.tr j+(1:Int))))],Zbk [Zaf (i64 1),Zaf (i64 me),Zaf (i64 sp),Zaf (i64 (Zab .i64 (Zab .i64 ((256:Int)*boot)+Zab .i64 (JoinS.tr j+(1:Int))))),Zaf (i64 0),Zaf (i64 0),Zaf (i64 0),Zaf (i64 0)],Zaf (i64 0)]) b))))))))))):=by kernel_rfl
def jHearV (j:JoinS) (me:Int) (w:WordS) (fr:Int):JoinS×WordS×Bool:=
 if (!jvalidB j)=true then (j,zeroW,false) else if (!formedW w)=true then (j,zeroW,false) else if fr<0 then (j,zeroW,false) else if fr>1000000000 then (j,zeroW,false)
 else if (w.st==me&&(w.sp==j.sp&&w.no==j.no))=false then (j,zeroW,false) else if (ownE me !=0)=true then (j,zeroW,false) else jhearS j w (ownK me)
theorem pcjHear (j:JoinS) (me fr:Int) (w:WordS):PCall Tryd.prog 25 [joinA j, .d (i64 me),wordA w, .d (i64 fr)] (.tup [joinA (jHearV j me w fr).1,wordA (jHearV j me w fr).2.1, .d (bo (jHearV j me w fr).2.2)]):=by
 refine Zbo (n:=100) (u:=false) mixed TJh_ok UJh_ok Tryd.func25 (by rfl) (by rfl) fun Ev bb=> ?_
 rw [jHear_nf]
 have key:∀q:JoinS×WordS×Bool,jHearV j me w fr=q→AV.tup [joinA q.1,wordA q.2.1, .d (bo q.2.2)]=AV.tup [joinA (jHearV j me w fr).1,wordA (jHearV j me w fr).2.1, .d (bo (jHearV j me w fr).2.2)]:=by
   rintro _ rfl;rfl
 have he:(w.ki==w.ki&&(w.st==me&&(w.sp==j.sp&&(w.no==j.no&&(w.ch==w.ch&&(w.ke==w.ke&&(w.rf==w.rf&&(w.rn==w.rn&&true)&&true)))))))=(w.st==me&&(w.sp==j.sp&&w.no==j.no)):=by simp
 rw [he]
 refine ⟨me,_,_,rfl,⟨rfl,rfl⟩,j,_,rfl,rfl,Zas (fun h1=>key (j,zeroW,false) ?_) fun h1=>⟨w,_,rfl,rfl,Zas (fun h2=>key (j,zeroW,false) ?_) fun h2=>Zas (fun h3=>key (j,zeroW,false) ?_) fun h3=>Zas (fun h4=>key (j,zeroW,false) ?_) fun h4=>Zas (fun h5=>key (j,zeroW,false) ?_) fun h5=>Zas (fun h6=>key (j,zeroW,false) ?_) fun h6=>⟨j,_,w,_,_,_,rfl,rfl,⟨rfl,rfl,rfl⟩,key (jhearS j w (ownK me)) ?_⟩⟩⟩
 · rw [jHearV,if_pos h1]
 · rw [jHearV,if_neg (by rw [h1];decide),if_pos h2]
 · rw [jHearV,if_neg (by rw [h1];decide),if_neg (by rw [h2];decide),if_pos (of_decide_eq_true h3)]
 · rw [jHearV,if_neg (by rw [h1];decide),if_neg (by rw [h2];decide),if_neg (of_decide_eq_false h3),if_pos (of_decide_eq_true h4)]
 all_goals rw [jHearV,if_neg (by rw [h1];decide),if_neg (by rw [h2];decide),if_neg (of_decide_eq_false h3),if_neg (of_decide_eq_false h4)]
 · rw [if_pos (by simpa only [Bool.not_eq_true'] using h5)]
 · rw [if_neg (by simp only [Bool.not_eq_false'] at h5;rw [h5];decide),if_pos h6]
 · rw [if_neg (by simp only [Bool.not_eq_false'] at h5;rw [h5];decide),if_neg (by rw [h6];decide)]
def cjHear (args:List AV) (K:AV→Prop):Prop:=∃(j j':JoinS) (me fr:Int) (w a:WordS) (z:Bool),args= [joinA j, .d (i64 me),wordA w, .d (i64 fr)]∧(j'=(jHearV j me w fr).1∧a=(jHearV j me w fr).2.1∧z=(jHearV j me w fr).2.2)∧K (.tup [joinA j',wordA a, .d (bo z)])
theorem cjHear_ok:∀args K,cjHear args K→∃x,PCall Tryd.prog 25 args x∧K x:=by
 rintro _ K ⟨j,_,me,fr,w,_,_,rfl,⟨rfl,rfl,rfl⟩,hk⟩;exact ⟨_,pcjHear j me fr w,hk⟩
def zeroJ:JoinS:=⟨0,0,0,0,0⟩
def askTr (j:JoinS):Int:=Zab Zck (j.tr+1)
def askNo (j:JoinS) (boot:Int):Int:=Zab Zck (Zab Zck (256*boot)+askTr j)
def jAskV (j:JoinS) (me boot sp fr:Int):JoinS×WordS×Int:=
 if (!jvalidB j)=true then (zeroJ,zeroW,1) else if (!nodeJ me)=true then (zeroJ,zeroW,1) else if (!nodeJ sp)=true then (zeroJ,zeroW,1) else if (me==sp)=true then (zeroJ,zeroW,1)
 else if boot<0 then (zeroJ,zeroW,1) else if boot>1000000 then (zeroJ,zeroW,1) else if fr<0 then (zeroJ,zeroW,1) else if fr>1000000000 then (zeroJ,zeroW,1)
 else if (j.ph !=0)=true then (zeroJ,zeroW,6) else if (j.tr==255)=true then (zeroJ,zeroW,2)
 else (⟨1,sp,askNo j boot,fr,askTr j⟩,⟨1,me,sp,askNo j boot,0,0,0,0⟩,0)
theorem pcjAsk (j:JoinS) (me boot sp fr:Int):PCall Tryd.prog 24 [joinA j, .d (i64 me), .d (i64 boot), .d (i64 sp), .d (i64 fr)] (.tup [joinA (jAskV j me boot sp fr).1,wordA (jAskV j me boot sp fr).2.1, .d (i64 (jAskV j me boot sp fr).2.2)]):=by
 refine Zbo (n:=100) (u:=false) mixed TJa_ok UJa_ok Tryd.func24 (by rfl) (by rfl) fun Ev bb=> ?_
 rw [jAsk_nf]
 have key:∀q:JoinS×WordS×Int,jAskV j me boot sp fr=q→AV.tup [joinA q.1,wordA q.2.1, .d (i64 q.2.2)]=AV.tup [joinA (jAskV j me boot sp fr).1,wordA (jAskV j me boot sp fr).2.1, .d (i64 (jAskV j me boot sp fr).2.2)]:=by
   rintro _ rfl;rfl
 refine ⟨j,_,rfl,rfl,Zas (fun h1=>key (zeroJ,zeroW,1) ?_) fun h1=>⟨me,_,rfl,rfl,Zas (fun h2=>key (zeroJ,zeroW,1) ?_) fun h2=>⟨sp,_,rfl,rfl,Zas (fun h3=>key (zeroJ,zeroW,1) ?_) fun h3=>Zas (fun h4=>key (zeroJ,zeroW,1) ?_) fun h4=>Zas (fun h5=>key (zeroJ,zeroW,1) ?_) fun h5=>Zas (fun h6=>key (zeroJ,zeroW,1) ?_) fun h6=>Zas (fun h7=>key (zeroJ,zeroW,1) ?_) fun h7=>Zas (fun h8=>key (zeroJ,zeroW,1) ?_) fun h8=>
   Zas (fun h9=>key (zeroJ,zeroW,6) ?_) fun h9=>Zas (fun h10=>key (zeroJ,zeroW,2) ?_) fun h10=>key (⟨1,sp,askNo j boot,fr,askTr j⟩,⟨1,me,sp,askNo j boot,0,0,0,0⟩,0) ?_⟩⟩⟩
 all_goals
   try simp only [decide_eq_true_eq,decide_eq_false_iff_not] at*
   simp only [jAskV, *,if_true,if_false,Bool.false_eq_true]
def cjAsk (args:List AV) (K:AV→Prop):Prop:=∃(j j':JoinS) (me boot sp fr e:Int) (a:WordS),args= [joinA j, .d (i64 me), .d (i64 boot), .d (i64 sp), .d (i64 fr)]∧(j'=(jAskV j me boot sp fr).1∧a=(jAskV j me boot sp fr).2.1∧e=(jAskV j me boot sp fr).2.2)∧K (.tup [joinA j',wordA a, .d (i64 e)])
theorem cjAsk_ok:∀args K,cjAsk args K→∃x,PCall Tryd.prog 24 args x∧K x:=by
 rintro _ K ⟨j,_,me,boot,sp,fr,_,_,rfl,⟨rfl,rfl,rfl⟩,hk⟩;exact ⟨_,pcjAsk j me boot sp fr,hk⟩
theorem pcAskL (st no:Int):PCall Tryd.prog 27 [.d (i64 st), .d (i64 no)] (wordA ⟨1,st,2,no,0,0,0,0⟩):=by
 refine Zbo (n:=100) (u:=false) mixed Zao Zal Tryd.func27 (by rfl) (by rfl) fun Ev bb=> ?_
 rw [lask_nf];rfl
set_option maxRecDepth 100000
def asH:List Dv→Option HalfS
 | [.s (.int .i64 a), .s (.int .i64 b), .s (.int .i64 c), .s (.int .i64 d), .s (.bool p), .s (.int .i64 e)]=>some ⟨a,b,c,d,p,e⟩
 |_=>none
def asHs:List (List Dv)→Option (List HalfS)
 | []=>some []
 | r::rs=>match asH r,asHs rs with
   |some h,some hs=>some (h::hs)
   |_,_=>none
theorem asH_ok {r:List Dv} {h:HalfS} (e:asH r=some h):r=halfR h:=by
 unfold asH at e
 split at e
 · cases e;rfl
 · cases e
theorem asHs_ok:∀ {rs:List (List Dv)} {hs:List HalfS},asHs rs=some hs→rs=rowsH hs
 | [],hs,e=>by cases e;rfl
 | r::rs,hs,e=>by
   simp only [asHs] at e
   split at e
   · rename_i h hs' h1 h2
     cases e
     rw [asH_ok h1,asHs_ok h2];rfl
   · cases e
def asL:AV→Option (List HalfS)
 | .d (.sl 6 rs)=>asHs rs
 | .full 6 rs=>asHs rs
 | .d (.s (.slice none 0 0))=>some []
 |_=>none
theorem asL_ok {x:AV} {hs:List HalfS} (e:asL x=some hs):LeV x (.d (.sl 6 (rowsH hs))):=by
 unfold asL at e
 split at e
 · rw [asHs_ok e];exact .rfl
 · rw [asHs_ok e];exact .full
 · cases e;exact .nil rfl
 · cases e
def asW:AV→Option WordS
 | .agg [.d (.s (.int .i64 a)), .d (.s (.int .i64 b)), .d (.s (.int .i64 c)), .d (.s (.int .i64 d)), .d (.s (.int .i64 e)), .d (.s (.int .i64 f)), .d (.s (.int .i64 g)), .d (.s (.int .i64 h))]=>some ⟨a,b,c,d,e,f,g,h⟩
 |_=>none
theorem asW_ok {x:AV} {w:WordS} (e:asW x=some w):x=wordA w:=by
 unfold asW at e
 split at e
 · cases e;rfl
 · cases e
structure Small (n:Nat):Prop where
 lt:n<1000000
structure IsP (a b:List HalfS×Int):Prop where
 eq:a=b
structure IsH (a b:List HalfS):Prop where
 eq:a=b
structure IsW (a b:List WordS):Prop where
 eq:a=b
def headT (hs:List HalfS) (me:Int) (w:WordS) (fr:Int):List HalfS×Int:=
 if fr==10 then (match hs with
   | []=>([⟨7,300,300425718,22,false,0⟩],0)
   |_=>([],10))
 else if fr==15 then (if w.no==300 then ([⟨7,300,300425718,22,false,0⟩],0) else ([],14))
 else if me==3 then ([],1) else if w.ch==300425718 then ([⟨7,300,300425718,22,true,1000007⟩],0) else ([],4)
abbrev HVt:=List HalfS→Int→WordS→Int→List HalfS×Int
abbrev EXt:=List HalfS→Int→List HalfS
abbrev TOt:=List HalfS→Int→Int→Bool→List WordS
def hHear (HV:HVt) (args:List AV) (K:AV→Prop):Prop:=match args with
 | [l, .d (.s (.int .i64 me)),x, .d (.s (.int .i64 fr))]=>match asL l,asW x with
   |some hs,some w=>if fr==12 then (if me==3 then Small hs.length∧IsP (HV hs me w fr) ([],1)∧K (.tup [.d (.sl 6 []), .d (i64 1)])
      else (BIf (decide (w.ch=300425718)) (Small hs.length∧IsP (HV hs me w fr) ([⟨7,300,300425718,22,true,1000007⟩],0)∧K (.tup [.d (.sl 6 [[i64 7,i64 300,i64 300425718,i64 22,bo true,i64 1000007]]), .d (i64 0)]))
         (Small hs.length∧IsP (HV hs me w fr) ([],4)∧K (.tup [.d (.sl 6 []), .d (i64 4)])))) else match headT hs me w fr with
     |(q,e)=>Small hs.length∧IsP (HV hs me w fr) (q,e)∧K (.tup [.d (.sl 6 (rowsH q)), .d (i64 e)])
   |_,_=>False
 |_=>False
theorem hHear_fin {l x:AV} {hs q:List HalfS} {w:WordS} {me fr e:Int} {K:AV→Prop} (h1:asL l=some hs) (h2:asW x=some w) (h:Small hs.length∧IsP (hearV hs me w fr) (q,e)∧K (.tup [.d (.sl 6 (rowsH q)), .d (i64 e)])):∃y,PCall Tryd.prog 11 [l, .d (i64 me),x, .d (i64 fr)] y∧K y:=by
 obtain ⟨⟨hl⟩,⟨hq⟩,hk⟩:=h
 rw [asW_ok h2]
 have:=pcHearV hs me fr w (by omega)
 rw [hq] at this
 exact ⟨_,PCall.leArgsV (.cons (asL_ok h1) (.cons .rfl (.cons .rfl (.cons .rfl .nil)))) this,hk⟩
theorem hHear_ok:∀args K,hHear hearV args K→∃x,PCall Tryd.prog 11 args x∧K x:=by
 intro args K h
 unfold hHear at h
 split at h
 · rename_i l me x fr
   split at h
   · rename_i hs w h1 h2
     split at h
     · split at h
       · exact hHear_fin (q:= []) h1 h2 h
       · rcases BIf.elim h with ⟨_,h⟩|⟨_,h⟩
         · exact hHear_fin (q:= [⟨7,300,300425718,22,true,1000007⟩]) h1 h2 h
         · exact hHear_fin (q:= []) h1 h2 h
     · exact hHear_fin h1 h2 h
   · exact h.elim
 · exact h.elim
def hSame (args:List AV) (K:AV→Prop):Prop:=match args with
 | [l,m]=>match asL l,asL m with
   |some a,some c=>Small a.length∧IsH a c∧K (.d (bo true))
   |_,_=>False
 |_=>False
theorem hSame_ok:∀args K,hSame args K→∃x,PCall Tryd.prog 15 args x∧K x:=by
 intro args K h
 unfold hSame at h
 split at h
 · split at h
   · rename_i a c h1 h2
     obtain ⟨⟨hl⟩,⟨hq⟩,hk⟩:=h
     have:=pcSame a c hl
     rw [decide_eq_true hq] at this
     exact ⟨_,PCall.leArgsV (.cons (asL_ok h1) (.cons (asL_ok h2) .nil)) this,hk⟩
   · exact h.elim
 · exact h.elim
def hExpire (EX:EXt) (args:List AV) (K:AV→Prop):Prop:=match args with
 | [l, .d (.s (.int .i64 fr))]=>match asL l with
   | some a=>match (if fr==22 then a else []) with
     |q=>Small a.length∧IsH (EX a fr) q∧K (.d (.sl 6 (rowsH q)))
   |_=>False
 |_=>False
theorem hExpire_ok:∀args K,hExpire expireS args K→∃x,PCall Tryd.prog 16 args x∧K x:=by
 intro args K h
 unfold hExpire at h
 split at h
 · rename_i l fr
   split at h
   · rename_i a h1
     obtain ⟨⟨hl⟩,⟨hq⟩,hk⟩:=h
     have:=pcExpire a fr hl
     rw [hq] at this
     exact ⟨_,PCall.leArgsV (.cons (asL_ok h1) (.cons .rfl .nil)) this,hk⟩
   · exact h.elim
 · exact h.elim
def hWords (TO:TOt) (args:List AV) (K:AV→Prop):Prop:=match args with
 | [l, .d (.s (.int .i64 me))]=>match asL l with
   |some a=>Small a.length∧IsW (TO a me 2 false) [⟨2,7,2,300,300425718,0,0,0⟩]∧K (.d (.sl 8 (rowsW [⟨2,7,2,300,300425718,0,0,0⟩])))
   |_=>False
 |_=>False
theorem hWords_ok:∀args K,hWords toldS args K→∃x,PCall Tryd.prog 19 args x∧K x:=by
 intro args K h
 unfold hWords at h
 split at h
 · rename_i l me
   split at h
   · rename_i a h1
     obtain ⟨⟨hl⟩,⟨hq⟩,hk⟩:=h
     have:=pcWords a me hl
     rw [hq] at this
     exact ⟨_,PCall.leArgsV (.cons (asL_ok h1) (.cons .rfl .nil)) this,hk⟩
   · exact h.elim
 · exact h.elim
def proofT:List HalfS→List WordS
 |h::_=>if h.pr then [⟨3,7,2,300,300425718,1000007,0,0⟩] else []
 | []=> []
def hProofs (TO:TOt) (args:List AV) (K:AV→Prop):Prop:=match args with
 | [l, .d (.s (.int .i64 me))]=>match asL l with
   | some a=>match proofT a with
     |q=>Small a.length∧IsW (TO a me 3 true) q∧K (.d (.sl 8 (rowsW q)))
   |_=>False
 |_=>False
theorem hProofs_ok:∀args K,hProofs toldS args K→∃x,PCall Tryd.prog 21 args x∧K x:=by
 intro args K h
 unfold hProofs at h
 split at h
 · rename_i l me
   split at h
   · rename_i a h1
     obtain ⟨⟨hl⟩,⟨hq⟩,hk⟩:=h
     have:=pcProofs a me hl
     rw [hq] at this
     exact ⟨_,PCall.leArgsV (.cons (asL_ok h1) (.cons .rfl .nil)) this,hk⟩
   · exact h.elim
 · exact h.elim
def hAskL (args:List AV) (K:AV→Prop):Prop:=match args with
 | [.d (.s (.int .i64 st)), .d (.s (.int .i64 no))]=>K (.agg [.d (i64 1), .d (i64 st), .d (i64 2), .d (i64 no), .d (i64 0), .d (i64 0), .d (i64 0), .d (i64 0)])
 |_=>False
theorem hAskL_ok:∀args K,hAskL args K→∃x,PCall Tryd.prog 27 args x∧K x:=by
 intro args K h
 unfold hAskL at h
 split at h
 · rename_i st no
   exact ⟨_,pcAskL st no,h⟩
 · exact h.elim
def THd (HV:HVt) (EX:EXt) (TO:TOt):List (Nat×(List AV→(AV→Prop)→Prop)):= [(27,hAskL),(11,hHear HV),(15,hSame),(16,hExpire EX),(19,hWords TO),(21,hProofs TO)]
theorem THd_ok:CallsOk Tryd.prog (THd hearV expireS toldS):=Zah hAskL_ok (Zah hHear_ok (Zah hSame_ok (Zah hExpire_ok (Zah hWords_ok (Zah hProofs_ok Zao)))))
def rowL:List (List Dv):= [[i64 7,i64 300,i64 300425718,i64 22,bo false,i64 0]]
def rowP:List (List Dv):= [[i64 7,i64 300,i64 300425718,i64 22,bo true,i64 1000007]]
noncomputable def rg12:Code:=sub [1,1,1,1,1,1,1,1,1,1,1,0] (code Tryd.f10)
noncomputable def rg13:Code:=sub [1,1,1,1,1,1,1,1,1,1,1,1,0] (code Tryd.f10)
def tm12:List AV:= [.bad, .d (.sl 6 rowL), .bad, .d (.sl 6 rowL), .d (i64 0), .bad, .d (i64 14), .bad, .d (i64 10), .bad, .d (.sl 6 rowP), .d (i64 0), .bad, .d (i64 4), .bad, .d (i64 1)]++Zan 169 .bad
def tm13:List AV:= [.bad, .d (.sl 6 rowL), .bad, .bad, .bad, .bad, .bad, .bad, .bad, .bad, .d (.sl 6 rowP), .bad, .bad, .bad, .bad, .bad, .d (bo true)]++Zan 168 .bad
def tm14:List AV:= [.d (bo true)]++Zan 184 .bad
abbrev Qz4:= [HalfS.mk (7:Int) (300:Int) (300425718:Int) (22:Int) false (0:Int)]
abbrev Qz7:=Zat::Zaf (Zax 6 rowL)::bds 8 (Zaf (Zax 6 rowP)::bds 5 (Zaf (bo true)::bds 168 []))
abbrev Qz17:= [i64 7,i64 300,i64 300425718,i64 22,bo false,i64 0]
abbrev Qz18:=Zat::Zaf (Zax 6 rowL)::bds 8 (Zaf (Zax 6 rowP)::bds 5 (Zaf (bo false)::bds 168 []))
theorem r12_nf (HV:HVt) (EX:EXt) (TO:TOt) (bw:Blk):wpc Tryd.prog ⟨THd HV EX TO, [],wl,y,false⟩ 100 rg12 tm12 [bw] b (maskT [1,10,16] K)=(∃(x0:Int) (x1:Int) (x2:Int) (x3:Int) (b4:Bool) (x5:Int),some Qz17=some (Qz13 x0 x1 x2 x3 b4 x5)∧BIf (x0==(7:Int)) (∃(x6:Int) (x7:Int) (x8:Int) (x9:Int) (b10:Bool) (x11:Int),some Qz17=some (Qz13 x6 x7 x8 x9 b10 x11)∧BIf (x7==(300:Int)) (∃(x12:Int) (x13:Int) (x14:Int) (x15:Int) (b16:Bool) (x17:Int),some Qz17=some (Qz13 x12 x13 x14 x15 b16 x17)∧BIf (x15==(22:Int)) (∃(x18:Int) (x19:Int) (x20:Int) (x21:Int) (b22:Bool) (x23:Int),some Qz17=some (Qz13 x18 x19 x20 x21 b22 x23)∧BIf (!b22) (Small 1∧IsH Qz4 Qz4∧K .normal Qz7 [bw] b) (K .normal Qz18 [bw] b)) (K .normal Qz18 [bw] b)) (K .normal Qz18 [bw] b)) (K .normal Qz18 [bw] b)):=by kernel_rfl
abbrev Qz11:= [HalfS.mk (7:Int) (300:Int) (300425718:Int) (22:Int) true (1000007:Int)]
abbrev Qz25:= [i64 7,i64 300,i64 300425718,i64 22,bo true,i64 1000007]
theorem r13_nf (HV:HVt) (EX:EXt) (TO:TOt) (bw:Blk):wpc Tryd.prog ⟨THd HV EX TO, [],wl,y,false⟩ 100 rg13 tm13 [bw] b (maskT [0] K)=(∃(x0:Int) (x1:Int) (x2:Int) (x3:Int) (b4:Bool) (x5:Int),some Qz25=some (Qz13 x0 x1 x2 x3 b4 x5)∧BIf b4 (∃(x6:Int) (x7:Int) (x8:Int) (x9:Int) (b10:Bool) (x11:Int),some Qz25=some (Qz13 x6 x7 x8 x9 b10 x11)∧BIf (x11==(1000007:Int)) (Small 1∧IsW (TO Qz4 (2:Int) (2:Int) false) [WordS.mk (2:Int) (7:Int) (2:Int) (300:Int) (300425718:Int) (0:Int) (0:Int) (0:Int)]∧Small 1∧IsW (TO Qz4 (2:Int) (3:Int) true) (proofT Qz4)∧Small 1∧IsW (TO Qz11 (2:Int) (3:Int) true) (proofT Qz11)∧Small 1∧IsH (EX Qz11 (22:Int)) (if true=true then Qz11 else [])∧Small 1∧IsH (EX Qz11 (23:Int)) (if false=true then Qz11 else [])∧K .normal (Zaf (bo true)::bds 184 []) [bw] b) (K .normal (Zaf (bo false)::bds 184 []) [bw] b)) (K .normal (Zaf (bo false)::bds 184 []) [bw] b)):=by kernel_rfl
def wlHd {β:Type}:WLT β:=fun c tm hp b K=>match cidO c with
 |13=>∃bw,c=rg12∧maskTm [1,3,4,6,8,10,11,13,15] 0 tm=tm12∧hp= [bw]∧K .normal tm13 [bw] b
 |14=>∃bw,c=rg13∧maskTm [1,10,16] 0 tm=tm13∧hp= [bw]∧K .normal tm14 [bw] b
 |_=>False
theorem wlHd_ok {Ev:Env Tryd.prog} (c:Code) (tm:List AV) (hp:List Blk) (b:Ev.β) (K:Exit→List AV→List Blk→Ev.β→Prop) (h:wlHd c tm hp b K):W Ev c ⟨tm,hp,b⟩ (fun e s=>K e s.tm s.hp s.b):=by
 have key:∀ {c:Code} {tm0 tm1:List AV} {bw:Blk} {keep:List Nat},(∀K':Exit→List AV→List Blk→Ev.β→Prop,K' .normal tm1 [bw] b→wpc Tryd.prog ⟨THd hearV expireS toldS, [],wlW Ev,Ev.Y,false⟩ 100 c tm0 [bw] b (maskT keep K'))→
     K .normal tm1 [bw] b→W Ev c ⟨tm0, [bw],b⟩ (fun e s=>K e s.tm s.hp s.b):=fun hr hk=>
   W.castPost (wpc_sound mixed (CX.Ok.of THd_ok Zal) (hr (fun e tm hp b'=>K e tm hp b') hk) fun e tm hp b hK=>⟨_,hp,maskTm_le _ tm 0,Zby _,hK⟩)
 unfold wlHd at h
 split at h
 · obtain ⟨bw,rfl,htm,rfl,hK⟩:=h
   refine W.cast (htm▸maskTm_le _ tm 0) (Zby _) (key (keep:= [1,10,16]) (fun K' hk=> ?_) hK)
   rw [r12_nf _ _ _ K' hearV expireS toldS bw]
   repeat (first
     |exact hk
     |refine ⟨⟨by kernel_rfl⟩, ?_⟩
     |refine ⟨⟨by decide⟩, ?_⟩
     |refine ⟨_,_,_,_,_,_,rfl, ?_⟩
     |refine Zcq (by decide) ?_
     |refine BIf.f (by decide) ?_)
 · obtain ⟨bw,rfl,htm,rfl,hK⟩:=h
   refine W.cast (htm▸maskTm_le _ tm 0) (Zby _) (key (keep:= [0]) (fun K' hk=> ?_) hK)
   rw [r13_nf _ _ _ K' hearV expireS toldS bw]
   repeat (first
     |exact hk
     |refine ⟨⟨by kernel_rfl⟩, ?_⟩
     |refine ⟨⟨by decide⟩, ?_⟩
     |refine ⟨_,_,_,_,_,_,rfl, ?_⟩
     |refine Zcq (by decide) ?_
     |refine BIf.f (by decide) ?_)
 · exact h.elim
def THm (HV:HVt) (EX:EXt) (TO:TOt):List (Nat×(List AV→(AV→Prop)→Prop)):= [(27,hAskL),(11,hHear HV),(4000012,cNone),(4000013,cNone)]
theorem THm_ok:CallsOk Tryd.prog (THm hearV expireS toldS):=Zah hAskL_ok (Zah hHear_ok (Zah cNone_ok (Zah cNone_ok Zao)))
abbrev Qz8:=Zat::Zaf (Zax 6 rowL)::Zat::Zaf (Zax 6 rowL)::Zaf (i64 0)::Zat::Zaf (i64 14)::Zat::Zaf (i64 10)::Zat::Zaf (Zax 6 rowP)::Zaf (i64 0)::Zat::Zaf (i64 4)::Zat::Zaf (i64 1)::bds 169 []
theorem head_nf (HV:HVt) (EX:EXt) (TO:TOt):wpFn Tryd.prog ⟨THm HV EX TO, [],wlHd,y,false⟩ 100 Tryd.f10 [] b R=(Small 0∧IsP (HV [] (2:Int) (WordS.mk (1:Int) (7:Int) (2:Int) (300:Int) (0:Int) (0:Int) (0:Int) (0:Int)) (10:Int)) (Qz4,(0:Int))∧Small 1∧IsP (HV Qz4 (2:Int) (WordS.mk (1:Int) (7:Int) (2:Int) (300:Int) (0:Int) (0:Int) (0:Int) (0:Int)) (15:Int)) (Qz4,(0:Int))∧Small 1∧IsP (HV Qz4 (2:Int) (WordS.mk (1:Int) (7:Int) (2:Int) (299:Int) (0:Int) (0:Int) (0:Int) (0:Int)) (15:Int)) ([],(14:Int))∧Small 4∧IsP (HV [HalfS.mk (0:Int) (0:Int) (0:Int) (0:Int) false (0:Int),HalfS.mk (1:Int) (0:Int) (0:Int) (0:Int) false (0:Int),HalfS.mk (3:Int) (0:Int) (0:Int) (0:Int) false (0:Int),HalfS.mk (4:Int) (0:Int) (0:Int) (0:Int) false (0:Int)] (2:Int) (WordS.mk (1:Int) (7:Int) (2:Int) (300:Int) (0:Int) (0:Int) (0:Int) (0:Int)) (10:Int)) ([],(10:Int))∧∃(x0:Int) (x1:Int) (x2:Int) (x3:Int) (b4:Bool) (x5:Int),some Qz17=some (Qz13 x0 x1 x2 x3 b4 x5)∧BIf (decide (Zdn (WordS.mk (3:Int) (7:Int) (2:Int) (300:Int) x2 (1000007:Int) (0:Int) (0:Int))=(300425718:Int))) (Small 1∧IsP (HV Qz4 (2:Int) (WordS.mk (3:Int) (7:Int) (2:Int) (300:Int) x2 (1000007:Int) (0:Int) (0:Int)) (12:Int)) (Qz11,(0:Int))∧∃(x6:Int) (x7:Int) (x8:Int) (x9:Int) (b10:Bool) (x11:Int),some Qz17=some (Qz13 x6 x7 x8 x9 b10 x11)∧BIf (decide (Zdn (WordS.mk (3:Int) (7:Int) (2:Int) (300:Int) (Int.tmod (Zab .i64 (x8+1)) (1000000000:Int)) (1000007:Int) (0:Int) (0:Int))=(300425718:Int))) (Small 1∧IsP (HV Qz4 (2:Int) (WordS.mk (3:Int) (7:Int) (2:Int) (300:Int) (Int.tmod (Zab .i64 (x8+1)) (1000000000:Int)) (1000007:Int) (0:Int) (0:Int)) (12:Int)) (Qz11,(0:Int))∧Small 1∧IsP (HV Qz4 (3:Int) (WordS.mk (3:Int) (7:Int) (2:Int) (300:Int) (Int.tmod (Zab .i64 (x8+1)) (1000000000:Int)) (1000007:Int) (0:Int) (0:Int)) (12:Int)) ([],(1:Int))∧∃(bw12:Blk),rg12=rg12∧(Zat::Zaf (Zax 6 (rowsH Qz4))::Zat::Zaf (Zax 6 (rowsH Qz4))::Zaf (i64 0)::Zat::Zaf (i64 14)::Zat::Zaf (i64 10)::Zat::Zaf (Zax 6 [Qz25])::Zaf (i64 0)::Zat::Zaf (i64 0)::Zat::Zaf (i64 1)::bds 169 [])=Qz8∧ [Blk.mk [Zaf (i64 3),Zaf (i64 7),Zaf (i64 2),Zaf (i64 300),Zaf (i64 (Int.tmod (Zab .i64 (x8+1)) (1000000000:Int))),Zaf (i64 1000007),Zaf (i64 0),Zaf (i64 0)] false false 0]= [bw12]∧∃(bw13:Blk),rg13=rg13∧Qz7=Qz7∧ [bw12]= [bw13]∧R (.d (bo true)) b) (Small 1∧IsP (HV Qz4 (2:Int) (WordS.mk (3:Int) (7:Int) (2:Int) (300:Int) (Int.tmod (Zab .i64 (x8+1)) (1000000000:Int)) (1000007:Int) (0:Int) (0:Int)) (12:Int)) ([],(4:Int))∧Small 1∧IsP (HV Qz4 (3:Int) (WordS.mk (3:Int) (7:Int) (2:Int) (300:Int) (Int.tmod (Zab .i64 (x8+1)) (1000000000:Int)) (1000007:Int) (0:Int) (0:Int)) (12:Int)) ([],(1:Int))∧∃(bw14:Blk),rg12=rg12∧(Zat::Zaf (Zax 6 (rowsH Qz4))::Zat::Zaf (Zax 6 (rowsH Qz4))::Zaf (i64 0)::Zat::Zaf (i64 14)::Zat::Zaf (i64 10)::Zat::Zaf (Zax 6 [Qz25])::Zaf (i64 0)::Zat::Zaf (i64 4)::Zat::Zaf (i64 1)::bds 169 [])=Qz8∧ [Blk.mk [Zaf (i64 3),Zaf (i64 7),Zaf (i64 2),Zaf (i64 300),Zaf (i64 (Int.tmod (Zab .i64 (x8+1)) (1000000000:Int))),Zaf (i64 1000007),Zaf (i64 0),Zaf (i64 0)] false false 0]= [bw14]∧∃(bw15:Blk),rg13=rg13∧Qz7=Qz7∧ [bw14]= [bw15]∧R (.d (bo true)) b)) (Small 1∧IsP (HV Qz4 (2:Int) (WordS.mk (3:Int) (7:Int) (2:Int) (300:Int) x2 (1000007:Int) (0:Int) (0:Int)) (12:Int)) ([],(4:Int))∧∃(x16:Int) (x17:Int) (x18:Int) (x19:Int) (b20:Bool) (x21:Int),some Qz17=some (Qz13 x16 x17 x18 x19 b20 x21)∧BIf (decide (Zdn (WordS.mk (3:Int) (7:Int) (2:Int) (300:Int) (Int.tmod (Zab .i64 (x18+1)) (1000000000:Int)) (1000007:Int) (0:Int) (0:Int))=(300425718:Int))) (Small 1∧IsP (HV Qz4 (2:Int) (WordS.mk (3:Int) (7:Int) (2:Int) (300:Int) (Int.tmod (Zab .i64 (x18+1)) (1000000000:Int)) (1000007:Int) (0:Int) (0:Int)) (12:Int)) (Qz11,(0:Int))∧Small 1∧IsP (HV Qz4 (3:Int) (WordS.mk (3:Int) (7:Int) (2:Int) (300:Int) (Int.tmod (Zab .i64 (x18+1)) (1000000000:Int)) (1000007:Int) (0:Int) (0:Int)) (12:Int)) ([],(1:Int))∧∃(bw22:Blk),rg12=rg12∧(Zat::Zaf (Zax 6 (rowsH Qz4))::Zat::Zaf (Zax 6 (rowsH Qz4))::Zaf (i64 0)::Zat::Zaf (i64 14)::Zat::Zaf (i64 10)::Zat::Zaf (Zax 6 [])::Zaf (i64 4)::Zat::Zaf (i64 0)::Zat::Zaf (i64 1)::bds 169 [])=Qz8∧ [Blk.mk [Zaf (i64 3),Zaf (i64 7),Zaf (i64 2),Zaf (i64 300),Zaf (i64 (Int.tmod (Zab .i64 (x18+1)) (1000000000:Int))),Zaf (i64 1000007),Zaf (i64 0),Zaf (i64 0)] false false 0]= [bw22]∧∃(bw23:Blk),rg13=rg13∧Qz7=Qz7∧ [bw22]= [bw23]∧R (.d (bo true)) b) (Small 1∧IsP (HV Qz4 (2:Int) (WordS.mk (3:Int) (7:Int) (2:Int) (300:Int) (Int.tmod (Zab .i64 (x18+1)) (1000000000:Int)) (1000007:Int) (0:Int) (0:Int)) (12:Int)) ([],(4:Int))∧Small 1∧IsP (HV Qz4 (3:Int) (WordS.mk (3:Int) (7:Int) (2:Int) (300:Int) (Int.tmod (Zab .i64 (x18+1)) (1000000000:Int)) (1000007:Int) (0:Int) (0:Int)) (12:Int)) ([],(1:Int))∧∃(bw24:Blk),rg12=rg12∧(Zat::Zaf (Zax 6 (rowsH Qz4))::Zat::Zaf (Zax 6 (rowsH Qz4))::Zaf (i64 0)::Zat::Zaf (i64 14)::Zat::Zaf (i64 10)::Zat::Zaf (Zax 6 [])::Zaf (i64 4)::Zat::Zaf (i64 4)::Zat::Zaf (i64 1)::bds 169 [])=Qz8∧ [Blk.mk [Zaf (i64 3),Zaf (i64 7),Zaf (i64 2),Zaf (i64 300),Zaf (i64 (Int.tmod (Zab .i64 (x18+1)) (1000000000:Int))),Zaf (i64 1000007),Zaf (i64 0),Zaf (i64 0)] false false 0]= [bw24]∧∃(bw25:Blk),rg13=rg13∧Qz7=Qz7∧ [bw24]= [bw25]∧R (.d (bo true)) b))):=by kernel_rfl
theorem pcHead:PCall Tryd.prog 10 [] (.d (bo true)):=by
 refine Zdd (n:=100) (u:=false) (fun _=>wlHd) mixed THm_ok Zal (fun Ev=>wlHd_ok) Tryd.func10 (by rfl) (by rfl) fun Ev bb=> ?_
 rw [head_nf _ _ _ hearV expireS toldS]
 repeat (first
   |exact rfl
   |refine ⟨⟨by kernel_rfl⟩, ?_⟩
   |refine ⟨⟨by decide⟩, ?_⟩
   |refine ⟨_,_,_,_,_,_,rfl, ?_⟩
   |refine Zcq (by decide) ?_
   |refine BIf.f (by decide) ?_
   |refine ⟨_,rfl,rfl,rfl, ?_⟩)
def cHead (args:List AV) (K:AV→Prop):Prop:=args= []∧K (.d (bo true))
theorem cHead_ok:∀args K,cHead args K→∃x,PCall Tryd.prog 10 args x∧K x:=by
 rintro _ K ⟨rfl,hk⟩;exact ⟨_,pcHead,hk⟩
set_option maxRecDepth 20000
theorem nodeN_iff (me:Int):nodeN me=true↔0≤me∧me≤59:=by simp [nodeN,inN]
def TL:List (Nat×(List AV→(AV→Prop)→Prop)):= [(10,cHead),(11,cHearV),(12,cHearR),(13,cValid),(14,cValidR),(15,cSame),(16,cExpire),(17,cExpireR),(18,cSameW),(19,cWords),(20,cWordsR),(21,cProofs),(22,cProofsR),(23,cOf),(24,cjAsk),(25,cjHear),(26,cJudge)]
theorem TL_ok:CallsOk Tryd.prog TL:=Zah cHead_ok (Zah cHearV_ok (Zah cHearR_ok (Zah cValid_ok (Zah cValidR_ok (Zah cSame_ok (Zah cExpire_ok (Zah cExpireR_ok (Zah cSameW_ok (Zah cWords_ok (Zah cWordsR_ok (Zah cProofs_ok (Zah cProofsR_ok (Zah cOf_ok (Zah cjAsk_ok (Zah cjHear_ok (Zah cJudge_ok Zao))))))))))))))))
set_option maxHeartbeats 0
noncomputable def lp8:Code:=sub [1,1,1,1,1,1,1,1,0,1,2,3] (code Tryd.f8)
def tm8 (hs:List HalfS) (ws ps:List WordS) (me i k n:Int):List AV:= [.d (.sl 6 (rowsH hs)), .d (i64 me), .bad, .bad, .bad, .d (bo true), .bad, .d (.sl 8 (rowsW ws)), .d (.sl 8 (rowsW ps)), .d (i64 i), .d (i64 k), .d (i64 n)]++Zan 90 .bad
abbrev Qz14 (v0:List WordS) (v1:List WordS) (v2:Int) (v3:Int) (v4:Int):=Zaf (bo true)::Zat::Zaf (Zax 8 (rowsW v0))::Zaf (Zax 8 (rowsW v1))::Zaf (i64 v2)::Zaf (i64 v3)::Zaf (i64 v4)::bds 90 []
theorem r8 (hs:List HalfS) (ws ps:List WordS) (me i k n:Int):wpc Tryd.prog ⟨TL, [],wl,y,false⟩ 100 lp8 (tm8 hs ws ps me i k n) [] b (maskK 0 [0,1,5,7,8,9,10,11] K)=(BIf (decide (n<((Zae (rowsH hs):Nat):Int))) (BIf (true&&decide (0≤n)) (∃(x0:Int) (x1:Int) (x2:Int) (x3:Int) (b4:Bool) (x5:Int),(rowsH hs)[Zbf n]? =some (Qz13 x0 x1 x2 x3 b4 x5)∧BIf b4 (BIf (decide (k≥((Zae (rowsW ps):Nat):Int))) (K .ret (Zaf (Zax 6 (rowsH hs))::Zaf (i64 me)::bds 3 (Qz14 ws ps i k n)) [] b) (BIf (true&&decide (0≤k)) (∃(x8:Int) (x9:Int) (x10:Int) (x11:Int) (x12:Int) (x13:Int) (x14:Int) (x15:Int),(rowsW ps)[Zbf k]? =some [i64 x8,i64 x9,i64 x10,i64 x11,i64 x12,i64 x13,i64 x14,i64 x15]∧BIf (!(x8==(3:Int)&&(x9==x0&&(x10==me&&(x11==x1&&(x12==x2&&(x13==x5&&(x14==(0:Int)&&(x15==(0:Int)&&true)&&true)))))))) (K .ret (Zaf (Zax 6 (rowsH hs))::Zaf (i64 me)::bds 3 (Qz14 ws ps i k n)) [] b) (K .normal (Zaf (Zax 6 (rowsH hs))::Zaf (i64 me)::bds 3 (Zaf (bo true)::Zat::Zaf (Zax 8 (rowsW ws))::Zaf (Zax 8 (rowsW ps))::Zaf (i64 i)::Zaf (i64 (Zab .i64 (k+1)))::Zaf (i64 (Zab .i64 (n+1)))::bds 90 [])) [] b)) False)) (BIf (decide (i≥((Zae (rowsW ws):Nat):Int))) (K .ret (Zaf (Zax 6 (rowsH hs))::Zaf (i64 me)::bds 3 (Qz14 ws ps i k n)) [] b) (BIf (true&&decide (0≤i)) (∃(x18:Int) (x19:Int) (x20:Int) (x21:Int) (x22:Int) (x23:Int) (x24:Int) (x25:Int),(rowsW ws)[Zbf i]? =some [i64 x18,i64 x19,i64 x20,i64 x21,i64 x22,i64 x23,i64 x24,i64 x25]∧BIf (!(x18==(2:Int)&&(x19==x0&&(x20==me&&(x21==x1&&(x22==x2&&(x23==(0:Int)&&(x24==(0:Int)&&(x25==(0:Int)&&true)&&true)))))))) (K .ret (Zaf (Zax 6 (rowsH hs))::Zaf (i64 me)::bds 3 (Qz14 ws ps i k n)) [] b) (K .normal (Zaf (Zax 6 (rowsH hs))::Zaf (i64 me)::bds 3 (Zaf (bo true)::Zat::Zaf (Zax 8 (rowsW ws))::Zaf (Zax 8 (rowsW ps))::Zaf (i64 (Zab .i64 (i+1)))::Zaf (i64 k)::Zaf (i64 (Zab .i64 (n+1)))::bds 90 [])) [] b)) False))) False) (K (Exit.exit 0) (Zaf (Zax 6 (rowsH hs))::Zaf (i64 me)::bds 3 (Qz14 ws ps i k n)) [] b)):=by kernel_rfl
set_option maxHeartbeats 1000000
theorem toldV {hs:List HalfS} {me:Int} (hv:validH hs=true) (hn:nodeN me=true) (kd:Int) (pr:Bool):toldS hs me kd pr=toldW hs me kd pr:=by
 rw [toldS,if_neg (by rw [hv];decide),if_neg (by rw [hn];decide)]
theorem toldW_app (a c:List HalfS) (me kd:Int) (pr:Bool):toldW (a++c) me kd pr=toldW a me kd pr++toldW c me kd pr:=by simp [toldW]
theorem toldW_cons (h:HalfS) (c:List HalfS) (me kd:Int) (pr:Bool):toldW (h::c) me kd pr=stepTo me kd pr h++toldW c me kd pr:=by simp [toldW]
theorem toldW_lenle (me kd:Int) (pr:Bool):∀l:List HalfS,(toldW l me kd pr).length≤l.length
 | []=>Nat.le_refl _
 | h::r=>by
   have:=toldW_lenle me kd pr r
   have h1:=stepTo_len me kd pr h
   rw [toldW_cons,List.length_append,List.length_cons];omega
theorem rowsW_ap {ws a c:List WordS} {x:WordS} (h:ws=a++x::c):(rowsW ws)[Zbf ((a.length:Nat):Int)]? =some (wordR x):=by subst h;simp [rowsW]
theorem wr8 {Ev:Env Tryd.prog} {b:Ev.β} {Q:Exit→St Ev.β→Prop} (hs:List HalfS) (me:Int) (hv:validH hs=true)
   (hQ:Q (.exit 0) ⟨tm8 hs (toldW hs me 2 false) (toldW hs me 3 true) me (toldW hs me 2 false).length (toldW hs me 3 true).length hs.length, [],b⟩):∀(rest pre:List HalfS),hs=pre++rest→
   WR Ev lp8 (rest.length+1) ⟨tm8 hs (toldW hs me 2 false) (toldW hs me 3 true) me (toldW pre me 2 false).length (toldW pre me 3 true).length pre.length, [],b⟩ Q
 | [],pre,hp=>by
   refine Zco [0,1,5,7,8,9,10,11] mixed (CX.Ok.of (u:=false) TL_ok Zal) (k:=100) ?_
   refine Eq.mpr (r8 _ _ _ _ hs _ _ me _ _ _) ?_
   have hp:hs=pre:=by simpa using hp
   rw [←hp,rowsH_len]
   exact BIf.f (by simp) hQ
 | h::rest,pre,hp=>by
   refine Zco [0,1,5,7,8,9,10,11] mixed (CX.Ok.of (u:=false) TL_ok Zal) (k:=100) ?_
   refine Eq.mpr (r8 _ _ _ _ hs _ _ me _ _ _) ?_
   have hok:=valid_mem hv (x:=h) (by rw [hp];simp)
   have hlen:=valid_len hv
   have hpl:hs.length=pre.length+rest.length+1:=by rw [hp];simp;omega
   have e0:(rowsH hs)[Zbf ((pre.length:Nat):Int)]? =some (halfR h):=by rw [hp];simp [rowsH]
   have ih:=wr8 hs me hv hQ rest (pre++ [h]) (by rw [hp];simp)
   have n2:toldW [] me 2 false= []:=rfl
   have n3:toldW [] me 3 true= []:=rfl
   have l2:=toldW_lenle me 2 false pre
   have l3:=toldW_lenle me 3 true pre
   rw [rowsH_len,e0]
   refine Zcq (by simp;omega) (Zcq (by simp) ⟨_,_,_,_,_,_,rfl,Zas (fun hp1=> ?_) fun hp1=> ?_⟩)
   · have ews:toldW hs me 3 true=toldW pre me 3 true++wordOf me 3 h::toldW rest me 3 true:=by rw [hp,toldW_app,toldW_cons];simp [stepTo,hp1]
     rw [rowsW_len,rowsW_ap ews]
     refine BIf.f (by rw [ews];simp;omega) (Zcq (by simp) ⟨_,_,_,_,_,_,_,_,rfl,BIf.f (by simp [wordOf]) ?_⟩)
     rw [wrapN (by omega),wrapN (by omega)]
     have i2:(toldW (pre++ [h]) me 2 false).length=(toldW pre me 2 false).length:=by rw [toldW_app,toldW_cons];simp [stepTo,hp1,n2]
     have i3:(toldW (pre++ [h]) me 3 true).length=(toldW pre me 3 true).length+1:=by rw [toldW_app,toldW_cons];simp [stepTo,hp1,n3]
     rw [i2,i3,List.length_append] at ih
     exact ih
   · have hke:h.ke=0:=by
       simp only [halfOk,Zag,Bool.or_eq_true,beq_iff_eq] at hok
       have hok:=hok.2.2.2.2.2
       rw [show h.pr=false from hp1] at hok
       simpa using hok
     have ews:toldW hs me 2 false=toldW pre me 2 false++wordOf me 2 h::toldW rest me 2 false:=by rw [hp,toldW_app,toldW_cons];simp [stepTo,hp1]
     rw [rowsW_len,rowsW_ap ews]
     refine BIf.f (by rw [ews];simp;omega) (Zcq (by simp) ⟨_,_,_,_,_,_,_,_,rfl,BIf.f (by simp [wordOf,hke]) ?_⟩)
     rw [wrapN (by omega),wrapN (by omega)]
     have i2:(toldW (pre++ [h]) me 2 false).length=(toldW pre me 2 false).length+1:=by rw [toldW_app,toldW_cons];simp [stepTo,hp1,n2]
     have i3:(toldW (pre++ [h]) me 3 true).length=(toldW pre me 3 true).length:=by rw [toldW_app,toldW_cons];simp [stepTo,hp1,n3]
     rw [i2,i3,List.length_append] at ih
     exact ih
def wlL8 {β:Type}:WLT β:=fun t tm hp b K=>∃(hs:List HalfS) (ws ps:List WordS) (me:Int),t= .loop lp8∧maskTm [0,1,5,7,8,9,10,11] 0 tm=tm8 hs ws ps me 0 0 0∧hp= []∧(validH hs=true∧ws=toldW hs me 2 false∧ps=toldW hs me 3 true)∧
 K (.exit 0) (tm8 hs ws ps me ws.length ps.length hs.length) [] b
theorem wlL8_ok {Ev:Env Tryd.prog} (c:Code) (tm:List AV) (hp:List Blk) (b:Ev.β) (K:Exit→List AV→List Blk→Ev.β→Prop) (h:wlL8 c tm hp b K):W Ev c ⟨tm,hp,b⟩ (fun e s=>K e s.tm s.hp s.b):=by
 obtain ⟨hs,_,_,me,rfl,htm,rfl,⟨hv,rfl,rfl⟩,hK⟩:=h
 refine W.cast (htm▸maskTm_le _ tm 0) (Zby _) ?_
 exact W.rounds (wr8 (Q:=fun e s=>K e s.tm s.hp s.b) hs me hv hK hs [] rfl)
def TL8:List (Nat×(List AV→(AV→Prop)→Prop)):= [(10,cHead),(14,cValidR),(19,cWords),(21,cProofs)]
theorem TL8_ok:CallsOk Tryd.prog TL8:=Zah cHead_ok (Zah cValidR_ok (Zah cWords_ok (Zah cProofs_ok Zao)))
abbrev Qz35 (v0:List HalfS) (v1:Int) (v2:List WordS) (v3:List WordS):=Zaf (Zax 6 (rowsH v0))::Zaf (i64 v1)::bds 3 (Zaf (bo true)::Zat::Zaf (Zax 8 (rowsW v2))::Zaf (Zax 8 (rowsW v3))::Zaf (i64 0)::Zaf (i64 0)::Zaf (i64 0)::bds 90 [])
theorem law8_nf (hs:List HalfS) (me:Int):wpFn Tryd.prog ⟨TL8, [],wlL8,y,false⟩ 100 Tryd.f8 [.d (.sl 6 (rowsH hs)), .d (i64 me)] b R=(([]:List AV)= []∧∃(hs0:List HalfS) (z1:Bool), [Zaf (Zax 6 (rowsH hs))]= [Zaf (Zax 6 (rowsH hs0))]∧(Zae hs0≤9223372036854775807∧z1=validH hs0)∧BIf (!z1) (R (.d (bo true)) b) (BIf (decide (me<(0:Int))) (R (.d (bo true)) b) (BIf (decide (me≥(60:Int))) (R (.d (bo true)) b) (∃(hs2:List HalfS) (q3:List WordS) (me4:Int),(Qz20 hs me)=(Qz20 hs2 me4)∧(Zae hs2<1000000∧q3=toldS hs2 me4 (2:Int) false)∧∃(hs5:List HalfS) (q6:List WordS) (me7:Int),(Qz20 hs me)=(Qz20 hs5 me7)∧(Zae hs5<1000000∧q6=toldS hs5 me7 (3:Int) true)∧∃(hs8:List HalfS) (ws9:List WordS) (ps10:List WordS) (me11:Int),Zbw lp8=Zbw lp8∧(Qz35 hs me q3 q6)=(Qz35 hs8 me11 ws9 ps10)∧([]:List Blk)= []∧(validH hs8=true∧ws9=toldW hs8 me11 (2:Int) false∧ps10=toldW hs8 me11 (3:Int) true)∧BIf (((Zae ws9:Nat):Int)==((Zae (rowsW ws9):Nat):Int)) (R (.d (bo (((Zae ps10:Nat):Int)==((Zae (rowsW ps10):Nat):Int)))) b) (R (.d (bo false)) b))))):=by kernel_rfl
theorem pcLaw8 (hs:List HalfS) (me:Int) (hl:hs.length≤9223372036854775807):PCall Tryd.prog 8 [.d (.sl 6 (rowsH hs)), .d (i64 me)] (.d (bo true)):=by
 refine Zdd (n:=100) (u:=false) (fun _=>wlL8) mixed TL8_ok Zal (fun Ev=>wlL8_ok) Tryd.func8 (by rfl) (by rfl) fun Ev bb=> ?_
 rw [law8_nf]
 refine ⟨rfl,hs,_,rfl,⟨hl,rfl⟩,Zas (fun _=>rfl) fun h1=>Zas (fun _=>rfl) fun h2=>Zas (fun _=>rfl) fun h3=> ?_⟩
 have hv:validH hs=true:=by simpa using h1
 have h2:=of_decide_eq_false h2
 have h3:=of_decide_eq_false h3
 have hn:nodeN me=true:=(nodeN_iff me).2 (by omega)
 have hlen:=valid_len hv
 refine ⟨hs,_,me,rfl,⟨by omega,rfl⟩,hs,_,me,rfl,⟨by omega,rfl⟩,hs,_,_,me,rfl,rfl,rfl,⟨hv,toldV hv hn ..,toldV hv hn ..⟩,Zcq (by rw [rowsW_len];simp) ?_⟩
 rw [rowsW_len]
 simp only [BEq.rfl]
end Go.Proofs.YtlnenbbmhidjeaaDoor.Am
