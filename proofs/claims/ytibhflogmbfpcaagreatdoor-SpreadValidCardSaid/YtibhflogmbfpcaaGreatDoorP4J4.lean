import Derived.Test.YtibhflogmbfpcaaGreatDoorP4J3
import Derived.Test.YtibhflogmbfpcaaGreatDoorP4J2
set_option linter.unusedSimpArgs false
set_option linter.unusedVariables false
namespace Go.Proofs.YtibhflogmbfpcaaGreatDoor.Am
open Go Go.RowKit Go.Proofs Tryz
open AV renaming agg → Zbp, bad → Zav, d → Zae, own → Zes, ptr → Zaz, rptr → Zbu
open BIf renaming f → Zct, of → Zan, t → Zbl
open BitVec renaming ofInt → Zao
open Bool renaming and_eq_true → Zak, eq_false_iff → Zcr
open CallsOk renaming cons → Zag, nil → Zah
open Go.Code renaming loop → Zbd
open Dv renaming sl → Zam
open Go.Exit renaming exit → Zet
open FCall renaming ofFnF → Zey
open Int renaming eq_ofNat_of_zero_le → Zby, tdiv → Zbi, tdiv_eq_ediv_of_nonneg → Zcs, toNat → Zap, toNat_natCast → Zax
open Go.IntKind renaming i64 → Zaq, wrap → Zaa
open LeH renaming refl → Zbw
open LeV renaming tups → Zdo
open List renaming all_eq_true → Zbf, append_assoc → Zco, dropWhile_cons → Zdj, dropWhile_sublist → Zev, getElem?_eq_getElem → Zbj, isEmpty → Zdr, length → Zab, length_append → Zdd, map_cons → Zcv, mem_append → Zce, mem_cons → Zcj, mem_cons_of_mem → Zau, mem_cons_self → Zaw, mem_map → Zbh, mem_of_getElem? → Zbg, range → Zbe, replicate → Zaf, take_succ_eq_append_getElem → Zdx
open Nat renaming le_refl → Zbc, le_trans → Zbs, zero_le → Zeh
open PCall renaming ofFn → Zba, ofFnV → Zdh, ofFnW → Zcp
open SCall renaming ofWp → Zeq
open SCallsOk renaming cons → Zbt, nil → Zad
open Go.Value renaming slice → Zbo
open WR renaming ofMask → Zcm, ofMaskT → Zcq, scan → Zex
variable {β:Type} (wl:WLT β) (y:YieldT β) (b:β) (R:AV→β→Prop) (RS:AV→List Blk→β→Prop) (K:Exit→List AV→List Blk→β→Prop) (Kh:Exit→List Blk→β→Prop) (Q:β→Prop)
open AV (bad)
set_option linter.unusedVariables false
set_option maxRecDepth 20000
def padS (p:List Int):List Int:=p++Zaf (256 - p.length) 0
theorem padS_len {p:List Int} (h:p.length≤256):(padS p).length=256:=by simp [padS];omega
theorem padS_cells (p:List Int) (h:p.length≤256):flatA ((bytesR p).take 256)++(flatA (Zaf 256 [u8 0])).drop ((bytesR p).take 256).length=flatA (bytesR (padS p)):=by
 have e:Zaf 256 [u8 0]=bytesR (Zaf 256 0):=by simp only [bytesR,List.map_replicate]
 rw [e,bytesR_take,bytesR_len,List.take_of_length_le h]
 have key:∀q:List Int,flatA (bytesR q)=q.map fun x=>Zae (u8 x):=by
   intro q
   induction q with
   |nil=>rfl
   | cons a q ih=>
     rw [show bytesR (a::q)= [u8 a]::bytesR q from rfl]
     simp only [flatA,List.flatten_cons,List.map_append] at ih ⊢
     rw [ih];rfl
 rw [key,key,key,padS,List.map_append,←List.map_drop,List.drop_replicate]
theorem chunkD_map {α γ:Type} (f:α→γ) (m:Nat):∀(n:Nat) (xs:List α),chunkD m n (xs.map f)=(chunkD m n xs).map (List.map f)
 |0,xs=>rfl
 | n+1,xs=>by
   rw [chunkD,chunkD]
   cases xs with
   |nil=>rfl
   | cons a xs=>
     rw [if_neg (by simp),if_neg (by simp),←List.map_take,←List.map_drop,chunkD_map f m n];rfl
theorem chunkD_len {α:Type} (m:Nat):∀(n:Nat) (xs:List α),(∀c∈chunkD m n xs,c.length≤m)∧(chunkD m n xs).length≤n
 |0,xs=>by simp [chunkD]
 | n+1,xs=>by
   rw [chunkD]
   split
   · simp
   · obtain ⟨h1,h2⟩:=chunkD_len m n (xs.drop m)
     refine ⟨fun c hc=> ?_,by simp;omega⟩
     rcases Zcj.1 hc with rfl|hc
     · simp;omega
     · exact h1 c hc
def GByte:List (Nat×(List AV→List Blk→(AV→List Blk→Prop)→Prop)):= [(1000000+5,fun _ _ _=>False)]
theorem GByte_ok:SCallsOk prog GByte:=Zbt (fun _ _ _ h=>h.elim) Zad
theorem sp_round (ps xs x:List (List Dv)):wpcY prog ⟨[],GByte,wl,y,false⟩ 100 #[13] (assignOf rfSp) (bodyOf rfSp) (tmSp ps) [.full 1 x] [cellV (.own 33 1 xs)] b (takeK 1 Kh)=(
 0 =0∧0=0∧∃(xs0:List (List Dv)),flatA (x.take 256)++(flatA (Zaf 256 [u8 0])).drop (x.take 256).length=flatA xs0∧xs0.length=256∧(∀r∈xs0,r.length=1)∧
   BIf (true&&decide ((xs.length+1)*24≤140737488355328)) (Kh .normal [cellV (.own 33 1 (xs++ [[.sl 1 xs0]]))] b) False):=by kernel_rfl
theorem parts_app (ps:List (List Int)) (p:List Int):partsR ps++ [[.sl 1 (bytesR p)]]=partsR (ps++ [p]):=by simp [partsR]
def itemBI (p:List Int):List AV:= [.full 1 (bytesR p)]
theorem rangeSp {Ev:Env prog} {b:Ev.β} {Q:Exit→St Ev.β→Prop} (ps:List (List Dv)):∀(l acc:List (List Int)),(∀p∈l,p.length≤256)→acc.length+l.length≤1000000→Q .normal ⟨tmSp ps, [cellV (.own 33 1 (partsR (acc++l.map padS)))],b⟩→
   YList (YBody Ev (tmSp ps) #[13] (assignOf rfSp) (bodyOf rfSp) 1) (l.map itemBI) ([cellV (.own 33 1 (partsR acc))],b,none) (rangeQ (tmSp ps) Q)
 | [],acc,hl,hb,h=>by rw [List.map_nil,List.append_nil] at h;exact h
 | p::l,acc,hl,hb,h=>by
   rw [Zcv]
   refine YList.step (X:=⟨[],GByte,wlW Ev,Ev.Y,false⟩) (k:=100) mixed (CX.Ok.of Zah GByte_ok) rfl ?_
   show wpcY _ _ _ _ _ _ _ [.full 1 (bytesR p)] [cellV _] b (takeK 1 _)
   rw [sp_round]
   have hp:=hl p (Zaw ..)
   refine ⟨rfl,rfl,bytesR (padS p),padS_cells p hp,by rw [bytesR_len,padS_len hp],fun r hr=> ?_,Zbl (by simp [partsR_len] at hb ⊢;omega) ?_⟩
   · simp only [bytesR,Zbh] at hr
     obtain ⟨_,_,rfl⟩:=hr;rfl
   rw [parts_app]
   refine rangeSp ps l (acc++ [padS p]) (fun q hq=>hl q (Zau _ hq)) (by simp at hb ⊢;omega) ?_
   rw [Zco];exact h
def splitS (p:List Int):List (List Int):=(chunkD 256 p.length p).map padS
def wlSp {β:Type}:WLT β:=fun c tm hp b K=>∃(p:List Int) (q:List (List Int)),c=rfSp∧maskTm [4,12] 0 tm=tmSp (bytesR p)∧hp= [cellV (.d (.s (.slice none 0 0)))]∧(p.length≤1000000∧q=splitS p)∧K .normal (tmSp (bytesR p)) [cellV (.own 33 1 (partsR q))] b
theorem wlSp_ok {Ev:Env prog} (c:Code) (tm:List AV) (hp:List Blk) (b:Ev.β) (K:Exit→List AV→List Blk→Ev.β→Prop) (h:wlSp c tm hp b K):W Ev c ⟨tm,hp,b⟩ (fun e s=>K e s.tm s.hp s.b):=by
 obtain ⟨p,q,rfl,htm,rfl,⟨hl,rfl⟩,hK⟩:=h
 refine W.cast (htm▸maskTm_le _ tm 0) (hp':= [cellV (.own 33 1 (partsR []))]) (.cons (.cons (LeA.nilOwn rfl) .nil) .nil) ?_
 rw [rfSp_shape]
 refine W.range (s:=⟨tmSp (bytesR p),_,b⟩) (k:=147) (first:= []) (caps:= [.rptr [.sl 1 (bytesR p)], .rptr [i64 256]]) rfl rfl rfl (ic57 (bytesR p) 256 (by omega) (by rw [bytesR_len];omega)) ?_
 have e:(chunkD 256 (bytesR p).length (bytesR p)).map itemC=(chunkD 256 p.length p).map itemBI:=by
   rw [bytesR_len,bytesR,chunkD_map,List.map_map];rfl
 rw [e]
 have:=chunkD_len 256 p.length p
 exact rangeSp (bytesR p) _ [] this.1 (by simp;omega) (by simpa [splitS] using hK)
def TSp:List (Nat×(List AV→(AV→Prop)→Prop)):= [(85,cSized),(86,cChunkB)]
theorem TSp_ok:CallsOk prog TSp:=Zag cSized_ok (Zag cChunkB_ok Zah)
noncomputable def lp61:Code:=sub [1,0,2,3] (code f197)
noncomputable def lp62:Code:=sub [1,0,2,3] (code f198)
def tm61 (p:List (List Dv)) (c:Int):List AV:= [.d (.sl 1 p), .d (u8 c)]++Zaf 19 .bad
def tm62 (p:List (List Dv)) (c:Int):List AV:= [.d (.sl 1 p), .d (u8 c)]++Zaf 22 .bad
noncomputable def lp38a:Code:=sub [1,1,0,1,2,3] (code f149)
noncomputable def lp38b:Code:=sub [1,1,1,1,0,1,2,3] (code f149)
def tm38a (ps:List (List Dv)) (s n i:Int):List AV:= [.d (.sl 1 ps), .bad, .bad, .d (i64 s), .bad, .bad, .bad, .bad, .bad, .d (.sl 1 ps), .d (i64 n), .d (i64 i)]++Zaf 24 .bad
def tm38b (ps:List (List Dv)) (v m:Nat) (n i:Int):List AV:= [.bad, .bad, .bad, .bad, .bad, .bad, .gref 0 v m 1]++Zaf 18 .bad++ [.d (.sl 1 ps), .d (i64 n), .d (i64 i)]++Zaf 8 .bad
def bds:Nat→List AV→List AV|0,l=>l|n+1,l=>Zav::bds n l
theorem r61 (p:List (List Dv)) (c:Int):wpc prog ⟨[], [],wl,y,false⟩ 100 lp61 (tm61 p c) [] b (maskK 0 [0,1] K)=(BIf (decide (((Zab p:Nat):Int)>(0:Int))) (∃(x0:Int),p[0]? =some [u8 x0]∧BIf (x0==c) (BIf (true&&decide ((0:Int)≤(1:Int)∧(1:Int)≤((Zab p:Nat):Int)∧((Zab p:Nat):Int)≤((Zab p:Nat):Int)∧((Zab p:Nat):Int)≤((Zab p:Nat):Int))) (K .normal (Zae (Zam 1 (List.take (Zap ((Zab p:Nat):Int) - Zap (1:Int)) (List.drop (Zap (1:Int)) p)))::Zae (u8 c)::bds 19 []) [] b) False) (K (Zet 0) (Zae (Zam 1 p)::Zae (u8 c)::bds 19 []) [] b)) (K (Zet 0) (Zae (Zam 1 p)::Zae (u8 c)::bds 19 []) [] b)):=by kernel_rfl
theorem r62 (p:List (List Dv)) (c:Int):wpc prog ⟨[], [],wl,y,false⟩ 100 lp62 (tm62 p c) [] b (maskK 0 [0,1] K)=(BIf (decide (((Zab p:Nat):Int)>(0:Int))) (BIf (true&&decide ((0:Int)≤Zaa .i64 (((Zab p:Nat):Int) - (1:Int)))) (∃(x0:Int),p[Zap (Zaa .i64 (((Zab p:Nat):Int) - (1:Int)))]? =some [u8 x0]∧BIf (x0==c) (BIf (true&&decide ((0:Int)≤(0:Int)∧(0:Int)≤Zaa .i64 (((Zab p:Nat):Int) - (1:Int))∧Zaa .i64 (((Zab p:Nat):Int) - (1:Int))≤((Zab p:Nat):Int)∧((Zab p:Nat):Int)≤((Zab p:Nat):Int))) (K .normal (Zae (Zam 1 (List.take (Zap (Zaa .i64 (((Zab p:Nat):Int) - (1:Int))) - Zap (0:Int)) (List.drop (Zap (0:Int)) p)))::Zae (u8 c)::bds 22 []) [] b) False) (K (Zet 0) (Zae (Zam 1 p)::Zae (u8 c)::bds 22 []) [] b)) False) (K (Zet 0) (Zae (Zam 1 p)::Zae (u8 c)::bds 22 []) [] b)):=by kernel_rfl
theorem r38a (ps:List (List Dv)) (s n i:Int):wpc prog ⟨[], [],wl,y,false⟩ 100 lp38a (tm38a ps s n i) [] b (maskK 0 [0,3,9,10,11] K)=(BIf (decide (i<n)) (BIf (true&&decide (0≤i)) (∃(xs0:List (List Dv)),ps[Zap i]? =some [Zam 1 xs0]∧BIf (decide (Zaa .i64 (s+((Zab xs0:Nat):Int))<(0:Int))) False (K .normal (Zae (Zam 1 ps)::Zav::Zav::Zae (i64 (Zaa .i64 (s+((Zab xs0:Nat):Int))))::bds 5 (Zae (Zam 1 ps)::Zae (i64 n)::Zae (i64 (Zaa .i64 (i+1)))::bds 24 [])) [] b)) False) (K (Zet 0) (Zae (Zam 1 ps)::Zav::Zav::Zae (i64 s)::bds 5 (Zae (Zam 1 ps)::Zae (i64 n)::Zae (i64 i)::bds 24 [])) [] b)):=by kernel_rfl
theorem r38b (ps:List (List Dv)) (cs:List AV) (v m:Nat) (n i:Int):wpc prog ⟨[],GByte,wl,y,false⟩ 100 lp38b (tm38b ps v m n i) [blkG cs v] b (maskT [6,25,26,27] K)=(BIf (decide (i<n)) (BIf (true&&decide (0≤i)) (∃(xs0:List (List Dv)),ps[Zap i]? =some [Zam 1 xs0]∧v=v∧BIf (decide ((m+Zab xs0)*1≤140737488355328)) (K .normal (bds 6 (AV.gref 0 (v+1) (m+Zab xs0) 1::bds 18 (Zae (Zam 1 ps)::Zae (i64 n)::Zae (i64 (Zaa .i64 (i+1)))::bds 8 []))) [Blk.mk (cs++flatA xs0) false true (v+1)] b) False) False) (K (Zet 2) (bds 6 (AV.gref 0 v m 1::bds 18 (Zae (Zam 1 ps)::Zae (i64 n)::Zae (i64 i)::bds 8 []))) [Blk.mk cs false true v] b)):=by kernel_rfl
abbrev Qz28:List AV:= [Zae (Dv.s (.slice none 0 0)),Zae (i64 1)]
theorem split_nf (xs:List (List Dv)):wpFn prog ⟨TSp, [],wlSp,y,false⟩ 100 f27 [.d (.sl 1 xs)] b R=(∃(n0:Int) (z1:Bool), [Zae (i64 ((Zab xs:Nat):Int))]= [Zae (i64 n0)]∧z1=sizedS n0∧BIf (!z1) (R (.tup Qz28) b) (∃(xs2:List (List Dv)), [Zae (Zam 1 xs),Zae (i64 256)]= [Zae (Zam 1 xs2),Zae (i64 256)]∧∃(p3:List Int) (q4:List (List Int)),rfSp=rfSp∧(bds 4 (Zaz 0 0::bds 7 (AV.fn (Fn.func 147) [] [Zbu [Zam 1 xs2],Zbu [i64 256]]::bds 10 [])))=(bds 4 (Zaz 0 0::bds 7 (AV.fn (Fn.func 147) [] [Zbu [Zam 1 (bytesR p3)],Zbu [i64 256]]::bds 10 [])))∧ [Blk.mk [Zae (Dv.s (.slice none 0 0))] false false 0]= [Blk.mk [Zae (Dv.s (.slice none 0 0))] false false 0]∧(Zab p3≤1000000∧q4=splitS p3)∧R (.tup [Zae (Zam 1 (partsR q4)),Zae (i64 0)]) b)):=by kernel_rfl
theorem pcSplit (p:List Int) (hl:p.length≤9223372036854775807):PCall prog 27 [.d (.sl 1 (bytesR p))] (if sizedS p.length then .tup [.d (.sl 1 (partsR (splitS p))), .d (i64 0)] else .tup [.d (.sl 1 []), .d (i64 1)]):=by
 refine Zdh (n:=100) (u:=false) (fun _=>wlSp) mixed TSp_ok Zad (fun Ev=>wlSp_ok) func27 (by rfl) (by rfl) fun Ev bb=> ?_
 rw [split_nf,bytesR_len]
 refine ⟨_,_,rfl,rfl,Zan (fun h=> ?_) fun h=>⟨_,rfl,p,_,rfl,rfl,rfl,⟨?_,rfl⟩, ?_⟩⟩
 · rw [if_neg (by simpa using h)]
   exact Zdo (.cons (.nil rfl) (.cons .rfl .nil))
 · simp [sizedS] at h;omega
 · rw [if_pos (by simpa using h)];exact .rfl
def cSplit (args:List AV) (K:AV→Prop):Prop:=∃(p:List Int),args= [.d (.sl 1 (bytesR p))]∧p.length≤9223372036854775807∧∃(z:Bool) (q:List (List Int)),z=sizedS p.length∧q=splitS p∧
 BIf z (K (.tup [.d (.sl 1 (partsR q)), .d (i64 0)])) (K (.tup [.d (.sl 1 []), .d (i64 1)]))
theorem cSplit_ok:∀args K,cSplit args K→∃x,PCall prog 27 args x∧K x:=by
 rintro _ K ⟨p,rfl,hl,z,q,hz,rfl,h⟩
 refine ⟨_,pcSplit p hl, ?_⟩
 rw [←hz]
 cases z<;>exact h
def trimR (c:Int) (p:List Int):List Int:=(p.reverse.dropWhile (· ==c)).reverse
theorem trimR_app (c a:Int) (l:List Int):trimR c (l++ [a])=if (a==c)=true then trimR c l else l++ [a]:=by
 simp only [trimR,List.reverse_append,List.reverse_cons,List.reverse_nil,List.nil_append,List.singleton_append,Zdj]
 split<;>simp
theorem wr61 {Ev:Env prog} {b:Ev.β} {Q:Exit→St Ev.β→Prop} (c:Int):∀(p:List Int),p.length≤9223372036854775807→Q (.exit 0) ⟨tm61 (bytesR (p.dropWhile (· ==c))) c, [],b⟩→WR Ev lp61 (p.length+1) ⟨tm61 (bytesR p) c, [],b⟩ Q
 | [],hl,h=>by
   refine Zcm [0,1] mixed (CX.Ok.of (u:=false) Zah Zad) (k:=100) ?_
   show wpc _ _ _ _ _ _ _ (maskK 0 _ _)
   rw [r61]
   exact Zct (by simp [bytesR_len]) h
 | a::p,hl,h=>by
   refine Zcm [0,1] mixed (CX.Ok.of (u:=false) Zah Zad) (k:=100) ?_
   show wpc _ _ _ _ _ _ _ (maskK 0 _ _)
   rw [r61,bytesR_len]
   refine Zbl (by simp<;>omega) ⟨a,rfl,Zan (fun g=>Zbl (by simp<;>omega) ?_) fun g=> ?_⟩
   · rw [Zdj,if_pos g] at h
     have e:List.take (Zap ((a::p).length:Int) - Zap 1) (List.drop (Zap 1) (bytesR (a::p)))=bytesR p:=by
       rw [show Zap 1=1 from rfl,show (bytesR (a::p)).drop 1=bytesR p from rfl]
       exact List.take_of_length_le (by rw [bytesR_len];simp)
     rw [e]
     exact wr61 c p (by simp at hl<;>omega) h
   · rw [Zdj,if_neg (by rw [g];simp)] at h
     exact h
theorem wr62 {Ev:Env prog} {b:Ev.β} {Q:Exit→St Ev.β→Prop} (c:Int):∀(n:Nat) (p:List Int),p.length≤n→n≤9223372036854775807→Q (.exit 0) ⟨tm62 (bytesR (trimR c p)) c, [],b⟩→WR Ev lp62 (n+1) ⟨tm62 (bytesR p) c, [],b⟩ Q
 | n,p,hn,hl,h=>by
   refine Zcm [0,1] mixed (CX.Ok.of (u:=false) Zah Zad) (k:=100) ?_
   show wpc _ _ _ _ _ _ _ (maskK 0 _ _)
   rw [r62,bytesR_len]
   rcases List.eq_nil_or_concat p with rfl|⟨l,a,rfl⟩
   · exact Zct (by simp) h
   · rw [List.concat_eq_append] at*
     rw [trimR_app] at h
     have e0:Zaa Zaq (((l++ [a]).length:Int) - 1)=l.length:=by
       rw [wrap_i64 (by simp<;>omega) (by simp at hn ⊢<;>omega)];simp
     rw [e0,Zax]
     refine Zbl (by simp<;>omega) (Zbl (by simp) ⟨a,by simp [bytesR],Zan (fun g=>Zbl (by simp<;>omega) ?_) fun g=> ?_⟩)
     · rw [if_pos g] at h
       have e:List.take (l.length - Zap 0) (List.drop (Zap 0) (bytesR (l++ [a])))=bytesR l:=by
         rw [show Zap 0=0 from rfl,List.drop_zero,Nat.sub_zero,bytesR_take,List.take_left'];rfl
       rw [e]
       cases n with
       |zero=>simp at hn
       |succ n=>exact wr62 c n l (by simp at hn<;>omega) (by omega) h
     · rw [if_neg (by rw [g];simp)] at h
       exact h
def wl61 {β:Type}:WLT β:=fun c tm hp b K=>∃(p:List Int) (x:Int) (z:List Int),c= .loop lp61∧maskTm [0,1] 0 tm=tm61 (bytesR p) x∧hp= []∧(p.length≤9223372036854775807∧z=p.dropWhile (· ==x))∧K (.exit 0) (tm61 (bytesR z) x) [] b
theorem wl61_ok {Ev:Env prog} (c:Code) (tm:List AV) (hp:List Blk) (b:Ev.β) (K:Exit→List AV→List Blk→Ev.β→Prop) (h:wl61 c tm hp b K):W Ev c ⟨tm,hp,b⟩ (fun e s=>K e s.tm s.hp s.b):=by
 obtain ⟨p,x,z,rfl,htm,rfl,⟨hl,rfl⟩,hK⟩:=h
 refine W.cast (htm▸maskTm_le _ tm 0) (Zbw _) ?_
 exact W.rounds (wr61 (Q:=fun e s=>K e s.tm s.hp s.b) x p hl hK)
def wl62 {β:Type}:WLT β:=fun c tm hp b K=>∃(p:List Int) (x:Int) (z:List Int),c= .loop lp62∧maskTm [0,1] 0 tm=tm62 (bytesR p) x∧hp= []∧(p.length≤9223372036854775807∧z=trimR x p)∧K (.exit 0) (tm62 (bytesR z) x) [] b
theorem wl62_ok {Ev:Env prog} (c:Code) (tm:List AV) (hp:List Blk) (b:Ev.β) (K:Exit→List AV→List Blk→Ev.β→Prop) (h:wl62 c tm hp b K):W Ev c ⟨tm,hp,b⟩ (fun e s=>K e s.tm s.hp s.b):=by
 obtain ⟨p,x,z,rfl,htm,rfl,⟨hl,rfl⟩,hK⟩:=h
 refine W.cast (htm▸maskTm_le _ tm 0) (Zbw _) ?_
 exact W.rounds (wr62 (Q:=fun e s=>K e s.tm s.hp s.b) x p.length p (Zbc _) hl hK)
def strZ:ByteArray:=⟨#[0]⟩
theorem f61_nf (p:List (List Dv)) (x:Int):wpFn prog ⟨[], [],wl61,y,false⟩ 100 f197 [.d (.sl 1 p), .d (u8 x)] b R=(∃(p0:List Int) (x1:Int) (z2:List Int),Zbd lp61=Zbd lp61∧(Zae (Zam 1 p)::Zae (u8 x)::bds 19 [])=(Zae (Zam 1 (bytesR p0))::Zae (u8 x1)::bds 19 [])∧([]:List Blk)= []∧(Zab p0≤9223372036854775807∧z2=List.dropWhile (fun (x3:Int)=>x3==x1) p0)∧BIf (((Zab (bytesR z2):Nat):Int)==(0:Int)) (R (.d (Dv.s (.slice none 0 0))) b) (R (.d (Zam 1 (bytesR z2))) b)):=by kernel_rfl
theorem f62_nf (p:List (List Dv)) (x:Int):wpFn prog ⟨[], [],wl62,y,false⟩ 100 f198 [.d (.sl 1 p), .d (u8 x)] b R=(∃(p0:List Int) (x1:Int) (z2:List Int),Zbd lp62=Zbd lp62∧(Zae (Zam 1 p)::Zae (u8 x)::bds 22 [])=(Zae (Zam 1 (bytesR p0))::Zae (u8 x1)::bds 22 [])∧([]:List Blk)= []∧(Zab p0≤9223372036854775807∧z2=trimR x1 p0)∧R (.d (Zam 1 (bytesR z2))) b):=by kernel_rfl
theorem pcTl (p:List Int) (x:Int) (hl:p.length≤9223372036854775807):PCall prog 197 [.d (.sl 1 (bytesR p)), .d (u8 x)] (.d (.sl 1 (bytesR (p.dropWhile (· ==x))))):=by
 refine Zdh (n:=100) (u:=false) (fun _=>wl61) mixed Zah Zad (fun Ev=>wl61_ok) func197 (by rfl) (by rfl) fun Ev bb=> ?_
 rw [f61_nf]
 refine ⟨p,x,_,rfl,rfl,rfl,⟨hl,rfl⟩,Zan (fun h=> ?_) fun h=> .rfl⟩
 have e:p.dropWhile (· ==x)= []:=by
   have:(p.dropWhile (· ==x)).length=0:=by simpa [bytesR_len] using h
   exact List.length_eq_zero_iff.1 this
 rw [e];exact .nil rfl
theorem pcTr (p:List Int) (x:Int) (hl:p.length≤9223372036854775807):PCall prog 198 [.d (.sl 1 (bytesR p)), .d (u8 x)] (.d (.sl 1 (bytesR (trimR x p)))):=by
 refine Zdh (n:=100) (u:=false) (fun _=>wl62) mixed Zah Zad (fun Ev=>wl62_ok) func198 (by rfl) (by rfl) fun Ev bb=> ?_
 rw [f62_nf]
 exact ⟨p,x,_,rfl,rfl,rfl,⟨hl,rfl⟩, .rfl⟩
def cTl (args:List AV) (K:AV→Prop):Prop:=∃(p:List Int) (x:Int) (z:List Int),args= [.d (.sl 1 (bytesR p)), .d (u8 x)]∧(p.length≤9223372036854775807∧z=p.dropWhile (· ==x))∧K (.d (.sl 1 (bytesR z)))
theorem cTl_ok:∀args K,cTl args K→∃x,PCall prog 197 args x∧K x:=by
 rintro _ K ⟨p,x,_,rfl,⟨hl,rfl⟩,h⟩;exact ⟨_,pcTl p x hl,h⟩
def cTr (args:List AV) (K:AV→Prop):Prop:=∃(p:List Int) (x:Int) (z:List Int),args= [.d (.sl 1 (bytesR p)), .d (u8 x)]∧(p.length≤9223372036854775807∧z=trimR x p)∧K (.d (.sl 1 (bytesR z)))
theorem cTr_ok:∀args K,cTr args K→∃x,PCall prog 198 args x∧K x:=by
 rintro _ K ⟨p,x,_,rfl,⟨hl,rfl⟩,h⟩;exact ⟨_,pcTr p x hl,h⟩
def TTrim:List (Nat×(List AV→(AV→Prop)→Prop)):= [(197,cTl),(198,cTr)]
theorem TTrim_ok:CallsOk prog TTrim:=Zag cTl_ok (Zag cTr_ok Zah)
theorem trim_nf (p:List (List Dv)):wpFn prog ⟨TTrim, [],wl,y,false⟩ 100 f150 [.d (.sl 1 p), .d (.s (.string strZ))] b R=(BIf (((Zab p:Nat):Int)==(0:Int)) (R (.d (Dv.s (.slice none 0 0))) b) (∃(c0:UInt8),strZ[0]? =some c0∧BIf (decide (((UInt8.toNat c0:Nat):Int)<(128:Int))) (∃(c3:UInt8),strZ[0]? =some c3∧∃(p6:List Int) (x7:Int) (z8:List Int), [Zae (Zam 1 p),Zae (u8 ((UInt8.toNat c3:Nat):Int))]= [Zae (Zam 1 (bytesR p6)),Zae (u8 x7)]∧(Zab p6≤9223372036854775807∧z8=trimR x7 p6)∧∃(c9:UInt8),strZ[0]? =some c9∧∃(p12:List Int) (x13:Int) (z14:List Int), [Zae (Zam 1 (bytesR z8)),Zae (u8 ((UInt8.toNat c9:Nat):Int))]= [Zae (Zam 1 (bytesR p12)),Zae (u8 x13)]∧(Zab p12≤9223372036854775807∧z14=List.dropWhile (fun (x15:Int)=>x15==x13) p12)∧R (.d (Zam 1 (bytesR z14))) b) False)):=by kernel_rfl
theorem trimR_le (x:Int) (p:List Int):(trimR x p).length≤p.length:=by
 simp only [trimR,List.length_reverse]
 exact Zbs (List.Sublist.length_le (Zev _)) (by rw [List.length_reverse];exact Zbc _)
def trimS (p:List Int):List Int:=(trimR 0 p).dropWhile (· ==0)
theorem pcTrim (p:List Int) (hl:p.length≤9223372036854775807):PCall prog 150 [.d (.sl 1 (bytesR p)), .d (.s (.string strZ))] (.d (.sl 1 (bytesR (trimS p)))):=by
 refine Zdh (n:=100) (u:=false) (fun _=>wlNo _) mixed TTrim_ok Zad (fun Ev=>wlNo_ok Ev) func150 (by rfl) (by rfl) fun Ev bb=> ?_
 rw [trim_nf,bytesR_len]
 refine Zan (fun h=> ?_) fun h=>⟨0,rfl,Zbl (by decide) ⟨0,rfl,p,0,_,rfl,⟨hl,rfl⟩,0,rfl,trimR 0 p,0,_,rfl,⟨Zbs (trimR_le 0 p) hl,rfl⟩, .rfl⟩⟩
 have:p= []:=by
   have:p.length=0:=by simpa using h
   exact List.length_eq_zero_iff.1 this
 subst this
 exact .nil rfl
def cTrim (args:List AV) (K:AV→Prop):Prop:=∃(p z:List Int),args= [.d (.sl 1 (bytesR p)), .d (.s (.string strZ))]∧(p.length≤9223372036854775807∧z=trimS p)∧K (.d (.sl 1 (bytesR z)))
theorem cTrim_ok:∀args K,cTrim args K→∃x,PCall prog 150 args x∧K x:=by
 rintro _ K ⟨p,_,rfl,⟨hl,rfl⟩,h⟩;exact ⟨_,pcTrim p hl,h⟩
theorem grow_nf (n:Int):wpFnS prog ⟨[],GByte,wl,y,false⟩ 100 f196 [nilV, .d (i64 n)] b RS=(BIf (decide (n<(0:Int))) False (BIf (decide (Zaa .i64 (n - 0)>(0:Int))) (BIf (true&&decide ((0:Int)<Zaa .i64 (n - 0))&&decide (Zaa .i64 (n - 0)*(1:Int)≤(281474976710656:Int))&&decide (Zaa .i64 (n - 0)≤(9223372036854775807:Int))&&true&&true&&true&&true) (0=0∧RS (AV.gref 0 1 0 1) [Blk.mk [] false true 1] b) False) (RS (Zae (Dv.s (.slice none 0 0))) [] b))):=by kernel_rfl
theorem fcGrow (n:Int) (h0:0<n) (hn:n≤1000000):FCall prog 196 [nilV, .d (i64 n)] (.gref 0 1 0 1) [blkG [] 1]:=by
 refine FCall.ofFnW (n:=100) (u:=false) (fun _=>wlNo _) mixed Zah GByte_ok (fun Ev=>wlNo_ok Ev) func196 (by rfl) (by rfl) (by rfl) fun Ev bb=> ?_
 rw [grow_nf]
 have e:Zaa Zaq (n - 0)=n:=by rw [wrap_i64 (by omega) (by omega)];omega
 rw [e]
 refine Zct (by simp<;>omega) (Zbl (by simp<;>omega) (Zbl ?_ ⟨rfl,rfl,rfl⟩))
 simp only [Bool.and_true,Bool.true_and,Zak,decide_eq_true_eq];omega
def sGrow (args:List AV) (hp:List Blk) (K:AV→List Blk→Prop):Prop:=∃(n:Int),args= [nilV, .d (i64 n)]∧(0<n∧n≤1000000)∧K (.gref hp.length 1 0 1) (hp++ [blkG [] 1])
theorem sGrow_ok:∀args hp K,sGrow args hp K→∃x hp',SCall prog 196 args hp x hp'∧K x hp':=by
 rintro _ hp K ⟨n,rfl,⟨h0,hn⟩,h⟩
 exact ⟨_,_,(fcGrow n h0 hn).toS rfl hp,by simpa [shift,shifts,shiftH,shiftB,blkG] using h⟩
def SCc:List (Nat×(List AV→List Blk→(AV→List Blk→Prop)→Prop)):= [(196,sGrow),(1000000+5,fun _ _ _=>False)]
theorem SCc_ok:SCallsOk prog SCc:=Zbt sGrow_ok GByte_ok
def sumL (ps:List (List Int)):Nat:=ps.flatten.length
theorem wr38a {Ev:Env prog} {b:Ev.β} {Q:Exit→St Ev.β→Prop} (ps:List (List Int)) (hl:ps.length≤1000000):∀(rest:List (List Int)) (k s:Nat),ps.drop k=rest→k≤ps.length→s+sumL rest≤1000000→
   (∀i:Int,Q (.exit 0) ⟨tm38a (partsR ps) ((s+sumL rest:Nat):Int) ps.length i, [],b⟩)→WR Ev lp38a (rest.length+1) ⟨tm38a (partsR ps) s ps.length k, [],b⟩ Q
 | [],k,s,hd,hk,hs,h=>by
   refine Zcm [0,3,9,10,11] mixed (CX.Ok.of (u:=false) Zah Zad) (k:=100) ?_
   show wpc _ _ _ _ _ _ _ (maskK 0 _ _)
   rw [r38a]
   have:=drop_nil hd
   exact Zct (by simp<;>omega) (h _)
 | p::rest,k,s,hd,hk,hs,h=>by
   refine Zcm [0,3,9,10,11] mixed (CX.Ok.of (u:=false) Zah Zad) (k:=100) ?_
   show wpc _ _ _ _ _ _ _ (maskK 0 _ _)
   rw [r38a]
   obtain ⟨hk',hr,hd'⟩:=drop_cons hd
   have hsum:sumL (p::rest)=p.length+sumL rest:=by simp [sumL]
   rw [hsum] at hs h
   have e:Zaa Zaq ((s:Int)+((bytesR p).length:Int))=((s+p.length:Nat):Int):=by rw [bytesR_len,wrap_i64 (by omega) (by omega)];omega
   refine Zbl (by simp<;>omega) (Zbl (by simp) ⟨bytesR p,by simp [partsR,hr], ?_⟩)
   rw [e,wrap_succ hk' (by omega)]
   refine Zct (by simp<;>omega) (wr38a ps hl rest (k+1) (s+p.length) hd' hk' (by omega) ?_)
   rw [Nat.add_assoc];exact h
theorem wr38b {Ev:Env prog} {b:Ev.β} {Q:Exit→St Ev.β→Prop} (ps:List (List Int)) (hl:ps.length≤1000000):∀(rest:List (List Int)) (k v:Nat) (acc:List Int),ps.drop k=rest→k≤ps.length→acc.length+sumL rest≤1000000→
   (∀(i:Int),Q (.exit 2) ⟨tm38b (partsR ps) (v+rest.length) (acc++rest.flatten).length ps.length i, [blkG (flatA (bytesR (acc++rest.flatten))) (v+rest.length)],b⟩)→
   WR Ev lp38b (rest.length+1) ⟨tm38b (partsR ps) v acc.length ps.length k, [blkG (flatA (bytesR acc)) v],b⟩ Q
 | [],k,v,acc,hd,hk,hs,h=>by
   refine Zcq [6,25,26,27] mixed (CX.Ok.of (u:=false) Zah GByte_ok) (k:=100) ?_
   rw [r38b]
   have:=drop_nil hd
   simp only [List.flatten_nil,List.append_nil] at h
   exact Zct (by simp<;>omega) (h _)
 | p::rest,k,v,acc,hd,hk,hs,h=>by
   refine Zcq [6,25,26,27] mixed (CX.Ok.of (u:=false) Zah GByte_ok) (k:=100) ?_
   rw [r38b]
   obtain ⟨hk',hr,hd'⟩:=drop_cons hd
   have hsum:sumL (p::rest)=p.length+sumL rest:=by simp [sumL]
   rw [hsum] at hs
   refine Zbl (by simp<;>omega) (Zbl (by simp) ⟨bytesR p,by simp [partsR,hr],rfl,Zbl (by rw [bytesR_len];simp<;>omega) ?_⟩)
   rw [wrap_succ hk' (by omega),bytesR_len]
   have e:flatA (bytesR acc)++flatA (bytesR p)=flatA (bytesR (acc++p)):=by rw [flatA_bytes,flatA_bytes,flatA_bytes,List.map_append]
   rw [e,←Zdd]
   refine wr38b ps hl rest (k+1) (v+1) (acc++p) hd' hk' (by rw [Zdd];omega) fun i=> ?_
   have h1:=h i
   rw [List.flatten_cons,←Zco,List.length_cons,show v+(rest.length+1)=v+1+rest.length by omega] at h1
   exact h1
def wl38 {β:Type}:WLT β:=fun c tm hp b K=>match cidO c with
 |4=>∃(ps:List (List Int)) (z:Nat),c= .loop lp38a∧maskTm [0,3,9,10,11] 0 tm=tm38a (partsR ps) 0 (partsR ps).length 0∧hp= []∧((ps.length≤1000000∧sumL ps≤1000000)∧z=sumL ps)∧∀i:Int,K (.exit 0) (tm38a (partsR ps) z (partsR ps).length i) [] b
 |12=>∃(ps:List (List Int)) (v z m:Nat) (q:List Int),c= .loop lp38b∧maskTm [6,25,26,27] 0 tm=tm38b (partsR ps) v 0 (partsR ps).length 0∧hp= [blkG [] v]∧((ps.length≤1000000∧sumL ps≤1000000)∧z=v+ps.length∧q=ps.flatten∧m=q.length)∧∀i:Int,K (.exit 2) (tm38b (partsR ps) z m (partsR ps).length i) [blkG (flatA (bytesR q)) z] b
 |_=>False
theorem wl38_ok {Ev:Env prog} (c:Code) (tm:List AV) (hp:List Blk) (b:Ev.β) (K:Exit→List AV→List Blk→Ev.β→Prop) (h:wl38 c tm hp b K):W Ev c ⟨tm,hp,b⟩ (fun e s=>K e s.tm s.hp s.b):=by
 unfold wl38 at h
 split at h
 · obtain ⟨ps,z,rfl,htm,rfl,⟨⟨hl,hs⟩,rfl⟩,hK⟩:=h
   rw [partsR_len] at htm hK
   refine W.cast (htm▸maskTm_le _ tm 0) (Zbw _) ?_
   exact W.rounds (wr38a (Q:=fun e s=>K e s.tm s.hp s.b) ps hl ps 0 0 rfl (Zeh _) (by omega) (by simpa using hK))
 · obtain ⟨ps,v,z,m,q,rfl,htm,rfl,⟨⟨hl,hs⟩,rfl,rfl,rfl⟩,hK⟩:=h
   rw [partsR_len] at htm hK
   refine W.cast (htm▸maskTm_le _ tm 0) (Zbw _) ?_
   exact W.rounds (wr38b (Q:=fun e s=>K e s.tm s.hp s.b) ps hl ps 0 v [] rfl (Zeh _) (by simpa using hs) (by simpa using hK))
 · exact h.elim
abbrev Qz35 (v0:List (List Int)):=Zae (Zam 1 (partsR v0))::Zae (i64 ((Zab (partsR v0):Nat):Int))::Zae (i64 0)::bds 8 []
theorem concat_nf (ps:List (List Dv)):wpFn prog ⟨[],SCc,wl38,y,false⟩ 100 f149 [.d (.sl 1 ps)] b R=(∃(ps0:List (List Int)) (z1:Nat),Zbd lp38a=Zbd lp38a∧(Zae (Zam 1 ps)::Zav::Zav::Zae (i64 0)::bds 5 (Zae (Zam 1 ps)::Zae (i64 ((Zab ps:Nat):Int))::Zae (i64 0)::bds 24 []))=(Zae (Zam 1 (partsR ps0))::Zav::Zav::Zae (i64 0)::bds 5 (Zae (Zam 1 (partsR ps0))::Zae (i64 ((Zab (partsR ps0):Nat):Int))::Zae (i64 0)::bds 24 []))∧([]:List Blk)= []∧((Zab ps0≤1000000∧sumL ps0≤1000000)∧z1=sumL ps0)∧∀(i:Int),∃(n2:Int), [Zae (Dv.s (.slice none 0 0)),Zae (i64 (z1:Int))]= [Zae (Dv.s (.slice none 0 0)),Zae (i64 n2)]∧((0:Int)<n2∧n2≤(1000000:Int))∧∃(ps3:List (List Int)) (v4:Nat) (z5:Nat) (m6:Nat) (q7:List Int),Zbd lp38b=Zbd lp38b∧(bds 6 (AV.gref 0 1 0 1::bds 18 (Qz35 ps0)))=(bds 6 (AV.gref 0 v4 0 1::bds 18 (Qz35 ps3)))∧ [Blk.mk [] false true 1]= [Blk.mk [] false true v4]∧((Zab ps3≤1000000∧sumL ps3≤1000000)∧z5=v4+Zab ps3∧q7=List.flatten ps3∧m6=Zab q7)∧∀(i:Int),z5=z5∧∃(xs8:List (List Dv)),flatA (bytesR q7)=flatA xs8∧Zab xs8=m6∧(∀(r:List Dv),r∈xs8→Zab r=1)∧R (.d (Zam 1 xs8)) b):=by kernel_rfl
theorem pcConcat (ps:List (List Int)) (hl:ps.length≤1000000) (h0:0<sumL ps) (hs:sumL ps≤1000000):PCall prog 149 [.d (.sl 1 (partsR ps))] (.d (.sl 1 (bytesR ps.flatten))):=by
 refine Zcp (n:=100) (u:=false) (fun _=>wl38) mixed Zah SCc_ok (fun Ev=>wl38_ok) func149 (by rfl) (by rfl) fun Ev bb=> ?_
 rw [concat_nf]
 refine ⟨ps,_,rfl,rfl,rfl,⟨⟨hl,hs⟩,rfl⟩,fun _=>⟨_,rfl,by omega,ps,1,_,_,_,rfl,rfl,rfl,⟨⟨hl,hs⟩,rfl,rfl,rfl⟩,fun _=>⟨rfl,bytesR ps.flatten,rfl,by rw [bytesR_len],fun r hr=> ?_,rfl⟩⟩⟩
 simp only [bytesR,Zbh] at hr
 obtain ⟨_,_,rfl⟩:=hr;rfl
def cConcat (args:List AV) (K:AV→Prop):Prop:=∃(ps:List (List Int)) (z:List Int),args= [.d (.sl 1 (partsR ps))]∧((ps.length≤1000000∧0<sumL ps∧sumL ps≤1000000)∧z=ps.flatten)∧K (.d (.sl 1 (bytesR z)))
theorem cConcat_ok:∀args K,cConcat args K→∃x,PCall prog 149 args x∧K x:=by
 rintro _ K ⟨ps,_,rfl,⟨⟨h1,h2,h3⟩,rfl⟩,h⟩;exact ⟨_,pcConcat ps h1 h2 h3,h⟩
def TJn:List (Nat×(List AV→(AV→Prop)→Prop)):= [(85,cSized),(125,cCount),(148,cPaged),(149,cConcat),(150,cTrim)]
theorem TJn_ok:CallsOk prog TJn:=Zag cSized_ok (Zag cCount_ok (Zag cPaged_ok (Zag cConcat_ok (Zag cTrim_ok Zah))))
theorem join_nf (ps:List (List Dv)) (n:Int):wpFn prog ⟨TJn, [],wl,y,false⟩ 100 f89 [.d (.sl 1 ps), .d (i64 n)] b R=(∃(n0:Int) (z1:Bool), [Zae (i64 n)]= [Zae (i64 n0)]∧z1=sizedS n0∧BIf (!z1) (R (.tup Qz28) b) (∃(n2:Int) (z3:Int), [Zae (i64 n)]= [Zae (i64 n2)]∧z3=countS n2∧BIf (((Zab ps:Nat):Int) !=z3) (R (.tup Qz28) b) (∃(ps4:List (List Int)) (z5:Bool), [Zae (Zam 1 ps)]= [Zae (Zam 1 (partsR ps4))]∧(Zab ps4≤9223372036854775807∧z5= !anyOther ps4)∧BIf (!z5) (R (.tup Qz28) b) (∃(ps6:List (List Int)) (z7:List Int), [Zae (Zam 1 ps)]= [Zae (Zam 1 (partsR ps6))]∧((Zab ps6≤1000000∧0<sumL ps6∧sumL ps6≤1000000)∧z7=List.flatten ps6)∧BIf (true&&decide ((0:Int)≤n∧n≤((Zab (bytesR z7):Nat):Int)∧((Zab (bytesR z7):Nat):Int)≤((Zab (bytesR z7):Nat):Int)∧((Zab (bytesR z7):Nat):Int)≤((Zab (bytesR z7):Nat):Int))) (∃(p8:List Int) (z9:List Int), [Zae (Zam 1 (List.take (Zap ((Zab (bytesR z7):Nat):Int) - Zap n) (List.drop (Zap n) (bytesR z7)))),Zae (Dv.s (Value.string (ByteArray.mk #[(0:UInt8)])))]= [Zae (Zam 1 (bytesR p8)),Zae (Dv.s (Value.string strZ))]∧(Zab p8≤9223372036854775807∧z9=trimS p8)∧BIf (decide (((Zab (bytesR z9):Nat):Int)>(0:Int))) (R (.tup [Zae (Dv.s (.slice none 0 0)),Zae (i64 12)]) b) (BIf (true&&decide ((0:Int)≤(0:Int)∧(0:Int)≤n∧n≤n∧n≤((Zab (bytesR z7):Nat):Int))) (BIf (true&&Zap n==Zap n) (R (.tup [AV.full 1 (List.take (Zap n - Zap (0:Int)) (List.drop (Zap (0:Int)) (bytesR z7))),Zae (i64 0)]) b) (R (.tup [Zae (Zam 1 (List.take (Zap n - Zap (0:Int)) (List.drop (Zap (0:Int)) (bytesR z7)))),Zae (i64 0)]) b)) False)) False)))):=by kernel_rfl
theorem countS_eq {n:Nat} (h:n≤1000000):countS n=(((n+255) / 256:Nat):Int):=by
 unfold countS
 have e1:Zaa Zaq ((n:Int)+256)=((n+256:Nat):Int):=by rw [wrap_i64 (by omega) (by omega)];omega
 have e2:Zaa Zaq (((n+256:Nat):Int) - 1)=((n+255:Nat):Int):=by rw [wrap_i64 (by omega) (by omega)];omega
 have e3:Zbi ((n+255:Nat):Int) 256=(((n+255) / 256:Nat):Int):=by
   rw [Zcs (by omega)];rfl
 rw [e1,e2,e3,wrap_i64 (by omega) (by omega)]
theorem sum_pages:∀ {ps:List (List Int)},anyOther ps=false→ps.flatten.length=256*ps.length
 | [],_=>rfl
 | p::ps,h=>by
   simp only [anyOther,List.any_cons,Bool.or_eq_false_iff] at h
   have h1:p.length=256:=by have:=h.1;simp at this;omega
   have:=sum_pages (ps:=ps) h.2
   simp only [List.flatten_cons,Zdd,List.length_cons];omega
def joinS (ps:List (List Int)) (n:Int):List Int×Int:=
 if (!sizedS n)||(((ps.length:Int) !=countS n)||anyOther ps) then ([],1)
 else if 0<(trimS (ps.flatten.drop n.toNat)).length then ([],12) else (ps.flatten.take n.toNat,0)
theorem sized_nat {n:Int} (h:sizedS n=true):∃k:Nat,n=k∧1≤k∧k≤4096:=by
 simp only [sizedS,Zak,decide_eq_true_eq] at h
 exact ⟨n.toNat,by omega,by omega,by omega⟩
theorem pcJoin (ps:List (List Int)) (n:Int) (hl:ps.length≤9223372036854775807):PCall prog 89 [.d (.sl 1 (partsR ps)), .d (i64 n)] (.tup [.d (.sl 1 (bytesR (joinS ps n).1)), .d (i64 (joinS ps n).2)]):=by
 refine Zdh (n:=100) (u:=false) (fun _=>wlNo _) mixed TJn_ok Zad (fun Ev=>wlNo_ok Ev) func89 (by rfl) (by rfl) fun Ev bb=> ?_
 rw [join_nf,partsR_len]
 have bad:∀z:Int,((!sizedS n)||(((ps.length:Int) !=countS n)||anyOther ps))=true→z=1→LeV (AV.tup [Zae (Dv.s (Zbo none 0 0)),Zae (i64 z)]) (.tup [.d (.sl 1 (bytesR (joinS ps n).1)), .d (i64 (joinS ps n).2)]):=by
   intro z h hz
   rw [joinS,if_pos h,hz];exact Zdo (.cons (.nil rfl) (.cons .rfl .nil))
 refine ⟨n,_,rfl,rfl,Zan (fun g1=>bad 1 (by rw [g1];rfl) rfl) fun g1=>⟨n,_,rfl,rfl,Zan (fun g2=>bad 1 (by rw [g1,g2];rfl) rfl) fun g2=>⟨ps,_,rfl,⟨hl,rfl⟩,Zan (fun g3=>bad 1 (by rw [g1,g2];simpa using g3) rfl) fun g3=> ?_⟩⟩⟩
 have hz:sizedS n=true:=by simpa using g1
 have hc:(ps.length:Int)=countS n:=by simpa using g2
 have ho:anyOther ps=false:=by simpa using g3
 obtain ⟨k,rfl,hk1,hk2⟩:=sized_nat hz
 rw [countS_eq (by omega)] at hc
 have hfl:=sum_pages ho
 have hk3:k≤ps.flatten.length:=by omega
 have hgood:((!sizedS (k:Int))||(((ps.length:Int) !=countS k)||anyOther ps))=false:=by rw [g1,g2,ho];rfl
 refine ⟨ps,_,rfl,⟨⟨by omega,by unfold sumL;omega,by unfold sumL;omega⟩,rfl⟩, ?_⟩
 rw [bytesR_len,Zax,Zax,bytesR_drop,bytesR_take]
 have e1:List.take (ps.flatten.length - k) (List.drop k ps.flatten)=List.drop k ps.flatten:=List.take_of_length_le (by simp)
 rw [e1]
 refine Zbl (by simp only [Bool.true_and,decide_eq_true_eq];omega) ⟨_,_,rfl,⟨by rw [List.length_drop];omega,rfl⟩,Zan (fun g4=> ?_) fun g4=>Zbl (by simp only [Bool.true_and,decide_eq_true_eq];omega) (Zbl (by simp) ?_)⟩
 · rw [bytesR_len] at g4
   rw [joinS,if_neg (by rw [hgood];simp),if_pos (by simpa using g4)]
   exact Zdo (.cons (.nil rfl) (.cons .rfl .nil))
 · rw [bytesR_len] at g4
   have e2:List.take (k - Zap 0) (List.drop (Zap 0) (bytesR ps.flatten))=bytesR (ps.flatten.take k):=by rw [show Zap 0=0 from rfl,List.drop_zero,Nat.sub_zero,bytesR_take]
   rw [e2,joinS,if_neg (by rw [hgood];simp),if_neg (by simpa using g4),Zax]
   exact Zdo (.cons .full (.cons .rfl .nil))
def cJoin (args:List AV) (K:AV→Prop):Prop:=∃(ps:List (List Int)) (n:Int) (z:List Int) (e:Int),args= [.d (.sl 1 (partsR ps)), .d (i64 n)]∧(ps.length≤9223372036854775807∧(z,e)=joinS ps n)∧K (.tup [.d (.sl 1 (bytesR z)), .d (i64 e)])
theorem cJoin_ok:∀args K,cJoin args K→∃x,PCall prog 89 args x∧K x:=by
 rintro _ K ⟨ps,n,z,e,rfl,⟨hl,he⟩,h⟩
 have h1:=pcJoin ps n hl
 rw [←he] at h1
 exact ⟨_,h1,h⟩
def TAc:List (Nat×(List AV→(AV→Prop)→Prop)):= [(27,cSplit),(83,cAnnounced),(84,cRoot)]
theorem TAc_ok:CallsOk prog TAc:=Zag cSplit_ok (Zag cAnnounced_ok (Zag cRoot_ok Zah))
abbrev Qz33 (v0:Int) (v1:Int) (v2:Int) (v3:Int):List AV:= [Zbp [Zae (i64 v0),Zae (i64 v1),Zae (u64 v2),Zae (i64 v3)]]
abbrev Qz37:List AV:= [Zbp [Zae (i64 0),Zae (i64 0),Zae (u64 0),Zae (i64 0)],Zae (i64 1)]
theorem announce_nf (v t:Int) (p:List (List Dv)):wpFn prog ⟨TAc, [],wl,y,false⟩ 100 f25 [.d (i64 v), .d (.sl 1 p), .d (i64 t)] b R=(∃(p0:List Int), [Zae (Zam 1 p)]= [Zae (Zam 1 (bytesR p0))]∧Zab p0≤9223372036854775807∧∃(z1:Bool) (q2:List (List Int)),z1=sizedS ((Zab p0:Nat):Int)∧q2=splitS p0∧BIf z1 (∃(a3:Int) (n4:Int) (r5:Int) (t6:Int) (z7:Bool), [Zbp [Zae (i64 v),Zae (i64 ((Zab p:Nat):Int)),Zae (u64 0),Zae (i64 t)]]=(Qz33 a3 n4 r5 t6)∧z7=announcedS a3 n4 t6∧BIf (!z7) (R (.tup Qz37) b) (∃(ps8:List (List Int)) (z9:Int×Int), [Zae (Zam 1 (partsR q2))]= [Zae (Zam 1 (partsR ps8))]∧z9=rootS ps8∧R (.tup [Zbp [Zae (i64 v),Zae (i64 ((Zab p:Nat):Int)),Zae (u64 (Prod.fst z9)),Zae (i64 t)],Zae (i64 (Prod.snd z9))]) b)) (R (.tup Qz37) b)):=by kernel_rfl
theorem cloneB_nf (p:List (List Dv)):wpFn prog ⟨[], [],wl,y,false⟩ 100 f120 [.d (.sl 1 p)] b R=(∀(t:Bool),(t=true→p= [])→BIf t (R (.d (Dv.s (.slice none 0 0))) b) (BIf (decide ((0+Zab p)*1≤140737488355328)) (BIf (Zdr p) (R (AV.full 1 []) b) (R (.d (Zam 1 ([]++p))) b)) False)):=by kernel_rfl
theorem clone50_nf (p:List (List Dv)):wpFn prog ⟨[], [],wl,y,false⟩ 100 f51 [.d (.sl 1 p)] b R=(∀(t:Bool),(t=true→p= [])→BIf t (R (.d (Dv.s (.slice none 0 0))) b) (BIf (decide ((0+Zab p)*8≤140737488355328)) (BIf (Zdr p) (R (AV.full 1 []) b) (R (.d (Zam 1 ([]++p))) b)) False)):=by kernel_rfl
structure NotT where
 v:Int
 n:Int
 r:Int
 t:Int
def annS (v:Int) (p:List Int) (t:Int):NotT×Int:=
 if sizedS p.length&&announcedS v p.length t then (⟨v,p.length,(rootS (splitS p)).1,t⟩,(rootS (splitS p)).2) else (⟨0,0,0,0⟩,1)
def notV (x:NotT):AV:=notA x.v x.n x.r x.t
theorem pcAnnounce (v t:Int) (p:List Int) (hl:p.length≤9223372036854775807):PCall prog 25 [.d (i64 v), .d (.sl 1 (bytesR p)), .d (i64 t)] (.tup [notV (annS v p t).1, .d (i64 (annS v p t).2)]):=by
 refine Zba (n:=100) (u:=false) mixed TAc_ok Zad func25 (by rfl) (by rfl) fun Ev bb=> ?_
 rw [announce_nf]
 refine ⟨p,rfl,hl,_,_,rfl,rfl,Zan (fun g1=>⟨_,_,_,_,_,rfl,rfl,Zan (fun g2=> ?_) fun g2=>⟨_,_,rfl,rfl, ?_⟩⟩) fun g1=> ?_⟩
 · rw [bytesR_len] at g2
   have g2:announcedS v p.length t=false:=by simpa using g2
   rw [annS,g1,g2];rfl
 · rw [bytesR_len] at g2 ⊢
   have g2:announcedS v p.length t=true:=by simpa using g2
   rw [annS,g1,g2];rfl
 · rw [annS,g1];rfl
def cAnnounce (args:List AV) (K:AV→Prop):Prop:=∃(v t:Int) (p:List Int) (z:NotT) (e:Int),args= [.d (i64 v), .d (.sl 1 (bytesR p)), .d (i64 t)]∧(p.length≤9223372036854775807∧(z,e)=annS v p t)∧K (.tup [notV z, .d (i64 e)])
theorem cAnnounce_ok:∀args K,cAnnounce args K→∃x,PCall prog 25 args x∧K x:=by
 rintro _ K ⟨v,t,p,z,e,rfl,⟨hl,he⟩,h⟩
 have:=pcAnnounce v t p hl
 rw [←he] at this
 exact ⟨_,this,h⟩
def proofsR (qs:List (List Int)):List (List Dv):=qs.map fun q=> [.sl 1 (digR q)]
def G22:List (Nat×(List AV→List Blk→(AV→List Blk→Prop)→Prop)):= [(1000000+33,fun _ _ _=>False),(1000000+28,fun _ _ _=>False)]
theorem G22_ok:SCallsOk prog G22:=Zbt (fun _ _ _ h=>h.elim) (Zbt (fun _ _ _ h=>h.elim) Zad)
theorem clone47S_nf (p:List (List Dv)):wpFnS prog ⟨[],G22,wl,y,false⟩ 100 f127 [.d (.sl 1 p)] b RS=(∀(t:Bool),(t=true→p= [])→BIf t (RS (Zae (Dv.s (.slice none 0 0))) [] b) (BIf (true&&decide (Zab p*24≤140737488355328)) (BIf (decide (0<Zab p)) (RS (AV.gref 0 0 (Zab p) 1) [Blk.mk (flatA p) false true 0] b) (RS (AV.full 1 []) [] b)) False)):=by kernel_rfl
theorem clone49S_nf (p:List (List Dv)):wpFnS prog ⟨[],G22,wl,y,false⟩ 100 f128 [.d (.sl 1 p)] b RS=(∀(t:Bool),(t=true→p= [])→BIf t (RS (Zae (Dv.s (.slice none 0 0))) [] b) (BIf (true&&decide (Zab p*24≤140737488355328)) (BIf (decide (0<Zab p)) (RS (AV.gref 0 0 (Zab p) 1) [Blk.mk (flatA p) false true 0] b) (RS (AV.full 1 []) [] b)) False)):=by kernel_rfl
theorem pcCloneB (xs:List (List Dv)) (hl:xs.length≤1000000):PCall prog 120 [.d (.sl 1 xs)] (.d (.sl 1 xs)):=by
 refine Zdh (n:=100) (u:=false) (fun _=>wlNo _) mixed Zah Zad (fun Ev=>wlNo_ok Ev) func120 (by rfl) (by rfl) fun Ev bb=> ?_
 rw [cloneB_nf]
 refine fun t ht=>Zan (fun h=>by rw [ht h];exact .nil rfl) fun h=>Zbl (by simp<;>omega) (Zan (fun h=>by rw [List.isEmpty_iff.1 h];exact .full) fun h=> .rfl)
def cCloneB (args:List AV) (K:AV→Prop):Prop:=∃(xs:List (List Dv)),args= [.d (.sl 1 xs)]∧xs.length≤1000000∧K (.d (.sl 1 xs))
theorem cCloneB_ok:∀args K,cCloneB args K→∃x,PCall prog 120 args x∧K x:=by
 rintro _ K ⟨xs,rfl,hl,h⟩;exact ⟨_,pcCloneB xs hl,h⟩
theorem pcClone50 (xs:List (List Dv)) (hl:xs.length≤1000000):PCall prog 51 [.d (.sl 1 xs)] (.d (.sl 1 xs)):=by
 refine Zdh (n:=100) (u:=false) (fun _=>wlNo _) mixed Zah Zad (fun Ev=>wlNo_ok Ev) func51 (by rfl) (by rfl) fun Ev bb=> ?_
 rw [clone50_nf]
 refine fun t ht=>Zan (fun h=>by rw [ht h];exact .nil rfl) fun h=>Zbl (by simp<;>omega) (Zan (fun h=>by rw [List.isEmpty_iff.1 h];exact .full) fun h=> .rfl)
def cClone50 (args:List AV) (K:AV→Prop):Prop:=∃(xs:List (List Dv)),args= [.d (.sl 1 xs)]∧xs.length≤1000000∧K (.d (.sl 1 xs))
theorem cClone50_ok:∀args K,cClone50 args K→∃x,PCall prog 51 args x∧K x:=by
 rintro _ K ⟨xs,rfl,hl,h⟩;exact ⟨_,pcClone50 xs hl,h⟩
structure SprT where
 no:NotT
 ps:List (List Int)
 qs:List (List Int)
 rows:List (List Dv)
 pf:List Int
 i1:Int
 i2:Int
 i3:Int
 i4:Int
 i5:Int
def spD (s:SprT):List Dv:= [i64 s.no.v,i64 s.no.n,u64 s.no.r,i64 s.no.t, .sl 1 (partsR s.ps), .sl 1 (proofsR s.qs), .sl 2 s.rows, .sl 1 (digR s.pf),i64 s.i1,i64 s.i2,i64 s.i3,i64 s.i4,i64 s.i5]
def spV (s:SprT):AV:= .agg [.d (i64 s.no.v), .d (i64 s.no.n), .d (u64 s.no.r), .d (i64 s.no.t), .d (.sl 1 (partsR s.ps)), .d (.sl 1 (proofsR s.qs)), .d (.sl 2 s.rows), .d (.sl 1 (digR s.pf)), .d (i64 s.i1), .d (i64 s.i2), .d (i64 s.i3), .d (i64 s.i4), .d (i64 s.i5)]
def TSo:List (Nat×(List AV→(AV→Prop)→Prop)):= [(125,cCount),(177,cCheck)]
theorem TSo_ok:CallsOk prog TSo:=Zag cCount_ok (Zag cCheck_ok Zah)
noncomputable def lp45:Code:=sub [1,1,0,1,2,3] (code f88)
def tm45 (ps:List (List Dv)) (n i:Int):List AV:= [.bad, .ptr 0 0]++Zaf 40 .bad++ [.d (.sl 1 ps), .d (i64 n), .d (i64 i)]++Zaf 16 .bad
def TSs:List (Nat×(List AV→(AV→Prop)→Prop)):= [(125,cCount),(83,cAnnounced),(148,cPaged)]
theorem TSs_ok:CallsOk prog TSs:=Zag cCount_ok (Zag cAnnounced_ok (Zag cPaged_ok Zah))
theorem pcClone47:CloneF prog 127 1:=fun xs hl=>by
 refine Zey (n:=100) (u:=false) (fun _=>wlNo _) mixed Zah G22_ok (fun Ev=>wlNo_ok Ev) func127 (by rfl) (by rfl) (by split<;>rfl) fun Ev bb=> ?_
 rw [clone47S_nf]
 refine fun t ht=>Zan (fun h=>by rw [ht h];exact ⟨.nilFull rfl,rfl⟩) fun h=>Zbl (by simp<;>omega) ?_
 cases xs with
 |nil=>exact Zct rfl ⟨.rfl,rfl⟩
 |cons a xs=>exact Zbl (by simp) ⟨.rfl,rfl⟩
theorem pcClone49:CloneF prog 128 1:=fun xs hl=>by
 refine Zey (n:=100) (u:=false) (fun _=>wlNo _) mixed Zah G22_ok (fun Ev=>wlNo_ok Ev) func128 (by rfl) (by rfl) (by split<;>rfl) fun Ev bb=> ?_
 rw [clone49S_nf]
 refine fun t ht=>Zan (fun h=>by rw [ht h];exact ⟨.nilFull rfl,rfl⟩) fun h=>Zbl (by simp<;>omega) ?_
 cases xs with
 |nil=>exact Zct rfl ⟨.rfl,rfl⟩
 |cons a xs=>exact Zbl (by simp) ⟨.rfl,rfl⟩
theorem proved_nf (s:SprT) (i:Int) (p q:List (List Dv)):wpFn prog ⟨TSo, [],wl,y,false⟩ 100 f126 [spV s, .d (i64 i), .d (.sl 1 p), .d (.sl 1 q)] b R=(∃(n0:Int) (z1:Int), [Zae (i64 (NotT.n (SprT.no s)))]= [Zae (i64 n0)]∧z1=countS n0∧∃(r2:Int) (n3:Int) (i4:Int) (p5:List Int) (q6:List Int) (z7:Bool), [Zae (u64 (NotT.r (SprT.no s))),Zae (i64 z1),Zae (i64 i),Zae (Zam 1 p),Zae (Zam 1 q)]= [Zae (u64 r2),Zae (i64 n3),Zae (i64 i4),Zae (Zam 1 (bytesR p5)),Zae (Zam 1 (digR q6))]∧z7=checkS r2 n3 i4 p5 q6∧R (.d (bo z7)) b):=by kernel_rfl
def provedS (s:SprT) (i:Int) (p q:List Int):Bool:=checkS s.no.r (countS s.no.n) i p q
theorem pcProved (s:SprT) (i:Int) (p q:List Int):PCall prog 126 [spV s, .d (i64 i), .d (.sl 1 (bytesR p)), .d (.sl 1 (digR q))] (.d (bo (provedS s i p q))):=by
 refine Zba (n:=100) (u:=false) mixed TSo_ok Zad func126 (by rfl) (by rfl) fun Ev bb=> ?_
 rw [proved_nf]
 exact ⟨_,_,rfl,rfl,_,_,_,_,_,_,rfl,rfl,rfl⟩
def cProved (args:List AV) (K:AV→Prop):Prop:=∃(s:SprT) (i:Int) (p q:List Int) (z:Bool),args= [spV s, .d (i64 i), .d (.sl 1 (bytesR p)), .d (.sl 1 (digR q))]∧z=provedS s i p q∧K (.d (bo z))
theorem cProved_ok:∀args K,cProved args K→∃x,PCall prog 126 args x∧K x:=by
 rintro _ K ⟨s,i,p,q,_,rfl,rfl,h⟩;exact ⟨_,pcProved s i p q,h⟩
def TPd:List (Nat×(List AV→(AV→Prop)→Prop)):= [(126,cProved)]
theorem TPd_ok:CallsOk prog TPd:=Zag cProved_ok Zah
def blkSI (s:SprT):Blk:=⟨(spD s).map .d,false,false,0⟩
abbrev Qz1 (v0:SprT):List AV:= [Zae (i64 (NotT.v (SprT.no v0))),Zae (i64 (NotT.n (SprT.no v0))),Zae (u64 (NotT.r (SprT.no v0))),Zae (i64 (NotT.t (SprT.no v0))),Zae (Zam 1 (partsR (SprT.ps v0))),Zae (Zam 1 (proofsR (SprT.qs v0))),Zae (Zam 2 (SprT.rows v0)),Zae (Zam 1 (digR (SprT.pf v0))),Zae (i64 (SprT.i1 v0)),Zae (i64 (SprT.i2 v0)),Zae (i64 (SprT.i3 v0)),Zae (i64 (SprT.i4 v0)),Zae (i64 (SprT.i5 v0))]
theorem r45 (s:SprT) (ps:List (List Dv)) (n i:Int):wpc prog ⟨TPd, [],wl,y,false⟩ 100 lp45 (tm45 ps n i) [blkSI s] b (maskT [1,2,42,43,44] K)=(BIf (decide (i<n)) (BIf (true&&decide (0≤i)) (∃(xs0:List (List Dv)),ps[Zap i]? =some [Zam 1 xs0]∧BIf (true&&decide (0≤i)) (∃(xs3:List (List Dv)),(proofsR (SprT.qs s))[Zap i]? =some [Zam 1 xs3]∧∃(s6:SprT) (i7:Int) (p8:List Int) (q9:List Int) (z10:Bool), [Zbp (Qz1 s),Zae (i64 i),Zae (Zam 1 xs0),Zae (Zam 1 xs3)]= [Zbp (Qz1 s6),Zae (i64 i7),Zae (Zam 1 (bytesR p8)),Zae (Zam 1 (digR q9))]∧z10=provedS s6 i7 p8 q9∧BIf (!z10) (K .ret (Zav::Zaz 0 0::Zae (bo false)::bds 39 (Zae (Zam 1 ps)::Zae (i64 n)::Zae (i64 i)::bds 16 [])) [Blk.mk (Qz1 s) false false 0] b) (K .normal (Zav::Zaz 0 0::bds 40 (Zae (Zam 1 ps)::Zae (i64 n)::Zae (i64 (Zaa .i64 (i+1)))::bds 16 [])) [Blk.mk (Qz1 s) false false 0] b)) False) False) (K (Zet 0) (Zav::Zaz 0 0::bds 40 (Zae (Zam 1 ps)::Zae (i64 n)::Zae (i64 i)::bds 16 [])) [Blk.mk (Qz1 s) false false 0] b)):=by kernel_rfl
def allP (s:SprT):Nat→List (List Int)→List (List Int)→Bool
 |k,p::ps,q::qs=>provedS s k p q&&allP s (k+1) ps qs
 |_,_,_=>true
theorem proofs_len (qs:List (List Int)):(proofsR qs).length=qs.length:=by simp [proofsR]
theorem wr45 {Ev:Env prog} {b:Ev.β} {Q:Exit→St Ev.β→Prop} (s:SprT) (hl:s.ps.length≤1000000):∀(ps qs:List (List Int)) (k:Nat),s.ps.drop k=ps→s.qs.drop k=qs→k≤s.ps.length→ps.length=qs.length→
   (allP s k ps qs=true→∀i:Int,Q (.exit 0) ⟨tm45 (partsR s.ps) s.ps.length i, [blkSI s],b⟩)→(allP s k ps qs=false→∀i:Int,Q .ret ⟨(tm45 (partsR s.ps) s.ps.length i).set 2 (.d (bo false)), [blkSI s],b⟩)→
   WR Ev lp45 (ps.length+1) ⟨tm45 (partsR s.ps) s.ps.length k, [blkSI s],b⟩ Q
 | [],qs,k,hd,hd2,hk,hlen,h1,h2=>by
   refine Zcq [1,2,42,43,44] mixed (CX.Ok.of (u:=false) TPd_ok Zad) (k:=100) ?_
   rw [r45]
   have:=drop_nil hd
   exact Zct (by simp<;>omega) (h1 (by rw [allP];intros;simp_all) _)
 |p::ps, [],k,hd,hd2,hk,hlen,h1,h2=>by simp at hlen
 | p::ps,q::qs,k,hd,hd2,hk,hlen,h1,h2=>by
   refine Zcq [1,2,42,43,44] mixed (CX.Ok.of (u:=false) TPd_ok Zad) (k:=100) ?_
   rw [r45]
   obtain ⟨hk',hr,hd'⟩:=drop_cons hd
   obtain ⟨hk2,hr2,hd2'⟩:=drop_cons hd2
   refine Zbl (by simp<;>omega) (Zbl (by simp) ⟨bytesR p,by simp [partsR,hr],Zbl (by simp) ⟨digR q,by simp [proofsR,hr2],s,k,p,q,_,rfl,rfl,Zan (fun g=> ?_) fun g=> ?_⟩⟩)
   · have g:provedS s k p q=false:=by simpa using g
     exact h2 (by rw [allP,g];rfl) _
   · have g:provedS s k p q=true:=by simpa using g
     rw [allP,g,Bool.true_and] at h1 h2
     rw [wrap_succ hk' (by omega)]
     exact wr45 s hl ps qs (k+1) hd' hd2' hk' (by simpa using hlen) h1 h2
def wl45 {β:Type}:WLT β:=fun c tm hp b K=>∃(s:SprT) (z:Bool),c= .loop lp45∧maskTm [1,42,43,44] 0 tm=tm45 (partsR s.ps) (partsR s.ps).length 0∧hp= [blkSI s]∧((s.ps.length≤1000000∧s.qs.length=s.ps.length)∧z=allP s 0 s.ps s.qs)∧
 BIf z (∀i:Int,K (.exit 0) (tm45 (partsR s.ps) (partsR s.ps).length i) [blkSI s] b) (∀i:Int,K .ret ((tm45 (partsR s.ps) (partsR s.ps).length i).set 2 (.d (bo false))) [blkSI s] b)
theorem wl45_ok {Ev:Env prog} (c:Code) (tm:List AV) (hp:List Blk) (b:Ev.β) (K:Exit→List AV→List Blk→Ev.β→Prop) (h:wl45 c tm hp b K):W Ev c ⟨tm,hp,b⟩ (fun e s=>K e s.tm s.hp s.b):=by
 obtain ⟨s,z,rfl,htm,rfl,⟨⟨hl,hlen⟩,hz⟩,hK⟩:=h
 rw [partsR_len] at htm hK
 refine W.cast (htm▸maskTm_le _ tm 0) (Zbw _) ?_
 exact W.rounds (wr45 (Q:=fun e s=>K e s.tm s.hp s.b) s hl s.ps s.qs 0 rfl rfl (Zeh _) hlen.symm (fun h=>by rw [hz,h] at hK;exact hK) fun h=>by rw [hz,h] at hK;exact hK)
abbrev Qz25 (v0:SprT):=Zav::Zaz 0 0::bds 40 (Zae (Zam 1 (partsR (SprT.ps v0)))::Zae (i64 ((Zab (partsR (SprT.ps v0)):Nat):Int))::Zae (i64 0)::bds 16 [])
abbrev Qz27 (v0:SprT):List AV:= [Zbp [Zae (i64 (NotT.v (SprT.no v0))),Zae (i64 (NotT.n (SprT.no v0))),Zae (u64 (NotT.r (SprT.no v0))),Zae (i64 (NotT.t (SprT.no v0)))]]
theorem sound_nf (s:SprT):wpFn prog ⟨TSs, [],wl45,y,false⟩ 100 f88 [spV s] b R=(∃(a0:Int) (n1:Int) (r2:Int) (t3:Int) (z4:Bool),(Qz27 s)=(Qz33 a0 n1 r2 t3)∧z4=announcedS a0 n1 t3∧BIf (!z4) (R (.d (bo false)) b) (∃(n5:Int) (z6:Int), [Zae (i64 (NotT.n (SprT.no s)))]= [Zae (i64 n5)]∧z6=countS n5∧BIf (decide (((Zab (partsR (SprT.ps s)):Nat):Int)>z6)) (R (.d (bo false)) b) (BIf (((Zab (proofsR (SprT.qs s)):Nat):Int) !=((Zab (partsR (SprT.ps s)):Nat):Int)) (R (.d (bo false)) b) (∃(ps7:List (List Int)) (z8:Bool), [Zae (Zam 1 (partsR (SprT.ps s)))]= [Zae (Zam 1 (partsR ps7))]∧(Zab ps7≤9223372036854775807∧z8= !anyOther ps7)∧BIf (!z8) (R (.d (bo false)) b) (∃(s9:SprT) (z10:Bool),Zbd lp45=Zbd lp45∧(Qz25 s)=(Qz25 s9)∧ [Blk.mk (Qz1 s) false false 0]= [Blk.mk (Qz1 s9) false false 0]∧((Zab (SprT.ps s9)≤1000000∧Zab (SprT.qs s9)=Zab (SprT.ps s9))∧z10=allP s9 0 (SprT.ps s9) (SprT.qs s9))∧BIf z10 (∀(i:Int),R (.d (bo true)) b) (∀(i:Int),R (.d (bo false)) b)))))):=by kernel_rfl
def soundS (s:SprT):Bool:=announcedS s.no.v s.no.n s.no.t&&(!decide ((s.ps.length:Int)>countS s.no.n)&&(!((s.qs.length:Int) !=s.ps.length)&&(!anyOther s.ps&&allP s 0 s.ps s.qs)))
noncomputable def lp21aI:Code:=sub [1,1,1,1,0,1,2,3] (code f53)
noncomputable def lp21bI:Code:=sub [1,1,1,1,1,0,1,2,3] (code f53)
def outB (s:SprT) (X Y:AV):Blk:=⟨[.d (i64 s.no.v), .d (i64 s.no.n), .d (u64 s.no.r), .d (i64 s.no.t),X,Y,nilV,nilV, .d (i64 s.i1), .d (i64 s.i2), .d (i64 s.i3), .d (i64 s.i4), .d (i64 s.i5)],false,false,0⟩
def tm21aI (pf rows:List (List Dv)) (n i:Int):List AV:= [.bad, .bad, .d (.sl 1 pf), .bad, .bad, .bad, .ptr 1 0, .bad, .ptr 2 0, .ptr 3 0]++Zaf 52 .bad++ [.d (.sl 1 rows), .d (i64 n), .d (i64 i)]++Zaf 32 .bad
def tm21bI (rows:List (List Dv)) (n i:Int):List AV:= [.bad, .bad, .bad, .bad, .bad, .bad, .ptr 1 0, .bad, .ptr 2 0, .ptr 3 0]++Zaf 72 .bad++ [.d (.sl 1 rows), .d (i64 n), .d (i64 i)]++Zaf 12 .bad
def TPa:List (Nat×(List AV→(AV→Prop)→Prop)):= [(120,cCloneB),(51,cClone50)]
theorem TPa_ok:CallsOk prog TPa:=Zag cCloneB_ok (Zag cClone50_ok Zah)
abbrev Qz6 (v0:SprT) (v1:List (List Dv)):List AV:= [Zae (i64 (NotT.v (SprT.no v0))),Zae (i64 (NotT.n (SprT.no v0))),Zae (u64 (NotT.r (SprT.no v0))),Zae (i64 (NotT.t (SprT.no v0))),Zes 33 1 v1,Zae (Dv.s (.slice none 0 0)),Zae (Dv.s (.slice none 0 0)),Zae (Dv.s (.slice none 0 0)),Zae (i64 (SprT.i1 v0)),Zae (i64 (SprT.i2 v0)),Zae (i64 (SprT.i3 v0)),Zae (i64 (SprT.i4 v0)),Zae (i64 (SprT.i5 v0))]
theorem r21a (s:SprT) (b0 b1 b2:Blk) (J:List Blk) (pf rows acc:List (List Dv)) (n i:Int):wpc prog ⟨TPa, [],wl,y,false⟩ 100 lp21aI (tm21aI pf rows n i) ([b0,b1,b2,outB s (.own 33 1 acc) nilV]++J) b (maskT [2,6,8,9,62,63,64] K)=(BIf (decide (i<n)) (BIf (true&&decide (0≤i)) (∃(xs0:List (List Dv)),rows[Zap i]? =some [Zam 1 xs0]∧∃(xs3:List (List Dv)), [Zae (Zam 1 xs0)]= [Zae (Zam 1 xs3)]∧Zab xs3≤1000000∧BIf (true&&decide ((Zab acc+1)*24≤140737488355328)) (K .normal (Zav::Zav::Zae (Zam 1 pf)::bds 3 (Zaz 1 0::Zav::Zaz 2 0::Zaz 3 0::bds 52 (Zae (Zam 1 rows)::Zae (i64 n)::Zae (i64 (Zaa .i64 (i+1)))::bds 32 []))) (b0::b1::b2::Blk.mk [Zae (i64 (NotT.v (SprT.no s))),Zae (i64 (NotT.n (SprT.no s))),Zae (u64 (NotT.r (SprT.no s))),Zae (i64 (NotT.t (SprT.no s))),Zes 33 1 (acc++ [[Zam 1 xs3]]),Zae (Dv.s (.slice none 0 0)),Zae (Dv.s (.slice none 0 0)),Zae (Dv.s (.slice none 0 0)),Zae (i64 (SprT.i1 s)),Zae (i64 (SprT.i2 s)),Zae (i64 (SprT.i3 s)),Zae (i64 (SprT.i4 s)),Zae (i64 (SprT.i5 s))] false false 0::List.append._f [] PUnit.unit J) b) False) False) (K (Zet 1) (Zav::Zav::Zae (Zam 1 pf)::bds 3 (Zaz 1 0::Zav::Zaz 2 0::Zaz 3 0::bds 52 (Zae (Zam 1 rows)::Zae (i64 n)::Zae (i64 i)::bds 32 []))) (b0::b1::b2::Blk.mk (Qz6 s acc) false false 0::List.append._f [] PUnit.unit J) b)):=by kernel_rfl
abbrev Qz18 (v0:SprT) (v1:List (List Dv)) (v2:List (List Dv)):List AV:= [Zae (i64 (NotT.v (SprT.no v0))),Zae (i64 (NotT.n (SprT.no v0))),Zae (u64 (NotT.r (SprT.no v0))),Zae (i64 (NotT.t (SprT.no v0))),Zes 33 1 v1,Zes 28 1 v2,Zae (Dv.s (.slice none 0 0)),Zae (Dv.s (.slice none 0 0)),Zae (i64 (SprT.i1 v0)),Zae (i64 (SprT.i2 v0)),Zae (i64 (SprT.i3 v0)),Zae (i64 (SprT.i4 v0)),Zae (i64 (SprT.i5 v0))]
theorem r21b (s:SprT) (b0 b1 b2:Blk) (J:List Blk) (X:List (List Dv)) (rows acc:List (List Dv)) (n i:Int):wpc prog ⟨TPa, [],wl,y,false⟩ 100 lp21bI (tm21bI rows n i) ([b0,b1,b2,outB s (.own 33 1 X) (.own 28 1 acc)]++J) b (maskT [6,8,9,82,83,84] K)=(BIf (decide (i<n)) (BIf (true&&decide (0≤i)) (∃(xs0:List (List Dv)),rows[Zap i]? =some [Zam 1 xs0]∧∃(xs3:List (List Dv)), [Zae (Zam 1 xs0)]= [Zae (Zam 1 xs3)]∧Zab xs3≤1000000∧BIf (true&&decide ((Zab acc+1)*24≤140737488355328)) (K .normal (bds 6 (Zaz 1 0::Zav::Zaz 2 0::Zaz 3 0::bds 72 (Zae (Zam 1 rows)::Zae (i64 n)::Zae (i64 (Zaa .i64 (i+1)))::bds 12 []))) (b0::b1::b2::Blk.mk [Zae (i64 (NotT.v (SprT.no s))),Zae (i64 (NotT.n (SprT.no s))),Zae (u64 (NotT.r (SprT.no s))),Zae (i64 (NotT.t (SprT.no s))),Zes 33 1 X,Zes 28 1 (acc++ [[Zam 1 xs3]]),Zae (Dv.s (.slice none 0 0)),Zae (Dv.s (.slice none 0 0)),Zae (i64 (SprT.i1 s)),Zae (i64 (SprT.i2 s)),Zae (i64 (SprT.i3 s)),Zae (i64 (SprT.i4 s)),Zae (i64 (SprT.i5 s))] false false 0::List.append._f [] PUnit.unit J) b) False) False) (K (Zet 3) (bds 6 (Zaz 1 0::Zav::Zaz 2 0::Zaz 3 0::bds 72 (Zae (Zam 1 rows)::Zae (i64 n)::Zae (i64 i)::bds 12 []))) (b0::b1::b2::Blk.mk (Qz18 s X acc) false false 0::List.append._f [] PUnit.unit J) b)):=by kernel_rfl
theorem pcSound (s:SprT) (hl:s.ps.length≤9223372036854775807):PCall prog 88 [spV s] (.d (bo (soundS s))):=by
 refine Zcp (n:=100) (u:=false) (fun _=>wl45) mixed TSs_ok Zad (fun Ev=>wl45_ok) func88 (by rfl) (by rfl) fun Ev bb=> ?_
 rw [sound_nf]
 refine ⟨_,_,_,_,_,rfl,rfl,Zan (fun g=> ?_) fun g1=>⟨_,_,rfl,rfl,Zan (fun g=> ?_) fun g2=>Zan (fun g=> ?_) fun g3=>⟨_,_,rfl,⟨hl,rfl⟩,Zan (fun g=> ?_) fun g4=>⟨s,_,rfl,rfl,rfl,⟨⟨?_, ?_⟩,rfl⟩,Zan (fun g5 _=> ?_) fun g5 _=> ?_⟩⟩⟩⟩
 · have:announcedS s.no.v s.no.n s.no.t=false:=by simpa using g
   rw [soundS,this];rfl
 · rw [partsR_len] at g
   have h1:announcedS s.no.v s.no.n s.no.t=true:=by simpa using g1
   rw [soundS,h1,g];rfl
 · rw [partsR_len,proofs_len] at g
   rw [partsR_len] at g2
   have h1:announcedS s.no.v s.no.n s.no.t=true:=by simpa using g1
   rw [soundS,h1,g2,g];rfl
 · rw [partsR_len,proofs_len] at g3
   rw [partsR_len] at g2
   have h1:announcedS s.no.v s.no.n s.no.t=true:=by simpa using g1
   have h4:anyOther s.ps=true:=by simpa using g
   rw [soundS,h1,g2,g3,h4];rfl
 · rw [partsR_len] at g2
   have h1:announcedS s.no.v s.no.n s.no.t=true:=by simpa using g1
   have h6:sizedS s.no.n=true:=by simp only [announcedS,Zak] at h1;exact h1.2.2.1
   obtain ⟨k,hk,hk1,hk2⟩:=sized_nat h6
   rw [hk,countS_eq (by omega)] at g2
   simp at g2;omega
 · rw [partsR_len,proofs_len] at g3
   simp at g3;omega
 · rw [partsR_len] at g2
   rw [partsR_len,proofs_len] at g3
   have h1:announcedS s.no.v s.no.n s.no.t=true:=by simpa using g1
   have h4:anyOther s.ps=false:=by simpa using g4
   rw [soundS,h1,g2,g3,h4,g5];rfl
 · rw [partsR_len] at g2
   rw [partsR_len,proofs_len] at g3
   have h1:announcedS s.no.v s.no.n s.no.t=true:=by simpa using g1
   have h4:anyOther s.ps=false:=by simpa using g4
   rw [soundS,h1,g2,g3,h4,g5];rfl
def cSound (args:List AV) (K:AV→Prop):Prop:=∃(s:SprT) (z:Bool),args= [spV s]∧(s.ps.length≤9223372036854775807∧z=soundS s)∧K (.d (bo z))
theorem cSound_ok:∀args K,cSound args K→∃x,PCall prog 88 args x∧K x:=by
 rintro _ K ⟨s,_,rfl,⟨hl,rfl⟩,h⟩;exact ⟨_,pcSound s hl,h⟩
theorem parts_app1 (ps:List (List Int)) (p:List Int):partsR ps++ [[.sl 1 (bytesR p)]]=partsR (ps++ [p]):=by simp [partsR]
theorem proofs_app1 (ps:List (List Int)) (p:List Int):proofsR ps++ [[.sl 1 (digR p)]]=proofsR (ps++ [p]):=by simp [proofsR]
theorem wr21aI {Ev:Env prog} {b:Ev.β} {Q:Exit→St Ev.β→Prop} (s:SprT) (b0 b1 b2:Blk) (J:List Blk) (pf:List (List Dv)) (L:List (List Int)) (hl:L.length≤1000000) (hL:∀p∈L,p.length≤1000000):∀(rest:List (List Int)) (k:Nat) (acc:List (List Int)),L.drop k=rest→k≤L.length→acc.length≤k→
   (∀i:Int,Q (.exit 1) ⟨tm21aI pf (partsR L) L.length i, [b0,b1,b2,outB s (.own 33 1 (partsR (acc++rest))) nilV]++J,b⟩)→WR Ev lp21aI (rest.length+1) ⟨tm21aI pf (partsR L) L.length k, [b0,b1,b2,outB s (.own 33 1 (partsR acc)) nilV]++J,b⟩ Q
 | [],k,acc,hd,hk,ha,h=>by
   refine Zcq [2,6,8,9,62,63,64] mixed (CX.Ok.of (u:=false) TPa_ok Zad) (k:=100) ?_
   rw [r21a]
   have:=drop_nil hd
   rw [List.append_nil] at h
   exact Zct (by simp<;>omega) (h _)
 | p::rest,k,acc,hd,hk,ha,h=>by
   refine Zcq [2,6,8,9,62,63,64] mixed (CX.Ok.of (u:=false) TPa_ok Zad) (k:=100) ?_
   rw [r21a]
   obtain ⟨hk',hr,hd'⟩:=drop_cons hd
   refine Zbl (by simp<;>omega) (Zbl (by simp) ⟨bytesR p,by simp [partsR,hr],_,rfl,by rw [bytesR_len];exact hL p (Zbg hr),Zbl (by simp [partsR_len]<;>omega) ?_⟩)
   rw [parts_app1,wrap_succ hk' (by omega)]
   refine wr21aI s b0 b1 b2 J pf L hl hL rest (k+1) (acc++ [p]) hd' hk' (by simp<;>omega) ?_
   rw [Zco];exact h
theorem wr21bI {Ev:Env prog} {b:Ev.β} {Q:Exit→St Ev.β→Prop} (s:SprT) (b0 b1 b2:Blk) (J:List Blk) (X:List (List Dv)) (L:List (List Int)) (hl:L.length≤1000000) (hL:∀p∈L,p.length≤1000000):∀(rest:List (List Int)) (k:Nat) (acc:List (List Int)),L.drop k=rest→k≤L.length→acc.length≤k→
   (∀i:Int,Q (.exit 3) ⟨tm21bI (proofsR L) L.length i, [b0,b1,b2,outB s (.own 33 1 X) (.own 28 1 (proofsR (acc++rest)))]++J,b⟩)→WR Ev lp21bI (rest.length+1) ⟨tm21bI (proofsR L) L.length k, [b0,b1,b2,outB s (.own 33 1 X) (.own 28 1 (proofsR acc))]++J,b⟩ Q
 | [],k,acc,hd,hk,ha,h=>by
   refine Zcq [6,8,9,82,83,84] mixed (CX.Ok.of (u:=false) TPa_ok Zad) (k:=100) ?_
   rw [r21b]
   have:=drop_nil hd
   rw [List.append_nil] at h
   exact Zct (by simp<;>omega) (h _)
 | p::rest,k,acc,hd,hk,ha,h=>by
   refine Zcq [6,8,9,82,83,84] mixed (CX.Ok.of (u:=false) TPa_ok Zad) (k:=100) ?_
   rw [r21b]
   obtain ⟨hk',hr,hd'⟩:=drop_cons hd
   refine Zbl (by simp<;>omega) (Zbl (by simp) ⟨digR p,by simp [proofsR,hr],_,rfl,by rw [digR_len];exact hL p (Zbg hr),Zbl (by simp [proofs_len]<;>omega) ?_⟩)
   rw [proofs_app1,wrap_succ hk' (by omega)]
   refine wr21bI s b0 b1 b2 J X L hl hL rest (k+1) (acc++ [p]) hd' hk' (by simp<;>omega) ?_
   rw [Zco];exact h
def wl21I {β:Type}:WLT β:=fun c tm hp b K=>match cidO c with
 |11=>c= .loop lp21aI∧sealTs hp [62] tm fun tm1=>∃(s:SprT) (pf:List (List Dv)) (L z:List (List Int)),maskTm [2,6,8,9,62,63,64] 0 tm1=tm21aI pf (partsR L) (partsR L).length 0∧(frz hp (occ (tm.getD 62 .bad)))[3]? =some (outB s nilV nilV)∧
     ((L.length≤1000000∧∀p∈L,p.length≤1000000)∧z=L)∧∀i:Int,K (.exit 1) (tm21aI pf (partsR z) (partsR z).length i) ((frz hp (occ (tm.getD 62 .bad))).set 3 (outB s (.own 33 1 (partsR z)) nilV)) b
 |16=>c= .loop lp21bI∧sealTs hp [82] tm fun tm1=>∃(s:SprT) (X:List (List Dv)) (L z:List (List Int)),maskTm [6,8,9,82,83,84] 0 tm1=tm21bI (proofsR L) (proofsR L).length 0∧(frz hp (occ (tm.getD 82 .bad)))[3]? =some (outB s (.own 33 1 X) nilV)∧
     ((L.length≤1000000∧∀p∈L,p.length≤1000000)∧z=L)∧∀i:Int,K (.exit 3) (tm21bI (proofsR z) (proofsR z).length i) ((frz hp (occ (tm.getD 82 .bad))).set 3 (outB s (.own 33 1 X) (.own 28 1 (proofsR z)))) b
 |_=>False
theorem wl21_okI {Ev:Env prog} (c:Code) (tm:List AV) (hp:List Blk) (b:Ev.β) (K:Exit→List AV→List Blk→Ev.β→Prop) (h:wl21I c tm hp b K):W Ev c ⟨tm,hp,b⟩ (fun e s=>K e s.tm s.hp s.b):=by
 unfold wl21I at h
 split at h
 · obtain ⟨rfl,h⟩:=h
   refine W.sealed h ?_
   rintro tm1 ⟨s,pf,L,z,htm,h3,⟨⟨hl,hL⟩,rfl⟩,hK⟩
   obtain ⟨b0,b1,b2,J,e⟩:=four h3
   rw [e] at hK ⊢
   rw [partsR_len] at htm hK
   refine W.cast (htm▸maskTm_le _ tm1 0) (hp':= [b0,b1,b2,outB s (.own 33 1 (partsR [])) nilV]++J) (LeH.at [b0,b1,b2] J (LeL.at [_,_,_,_] _ (LeA.nilOwn rfl))) ?_
   exact W.rounds (wr21aI (Q:=fun e s=>K e s.tm s.hp s.b) s b0 b1 b2 J pf z hl hL z 0 [] rfl (Zeh _) (Zeh _) hK)
 · obtain ⟨rfl,h⟩:=h
   refine W.sealed h ?_
   rintro tm1 ⟨s,X,L,z,htm,h3,⟨⟨hl,hL⟩,rfl⟩,hK⟩
   obtain ⟨b0,b1,b2,J,e⟩:=four h3
   rw [e] at hK ⊢
   rw [proofs_len] at htm hK
   refine W.cast (htm▸maskTm_le _ tm1 0) (hp':= [b0,b1,b2,outB s (.own 33 1 X) (.own 28 1 (proofsR []))]++J) (LeH.at [b0,b1,b2] J (LeL.at [_,_,_,_,_] _ (LeA.nilOwn rfl))) ?_
   exact W.rounds (wr21bI (Q:=fun e s=>K e s.tm s.hp s.b) s b0 b1 b2 J X z hl hL z 0 [] rfl (Zeh _) (Zeh _) hK)
 · exact h.elim
def TPt:List (Nat×(List AV→(AV→Prop)→Prop)):= [(125,cCount),(88,cSound),(126,cProved)]
theorem TPt_ok:CallsOk prog TPt:=Zag cCount_ok (Zag cSound_ok (Zag cProved_ok Zah))
def SPt:List (Nat×(List AV→List Blk→(AV→List Blk→Prop)→Prop)):= [(127,sClone 1),(128,sClone 1)]
theorem SPt_ok:SCallsOk prog SPt:=Zbt pcClone47.toS (Zbt pcClone49.toS Zad)
abbrev Qz4:List AV:= [Zae (i64 0),Zae (i64 0),Zae (u64 0),Zae (i64 0),Zae (Dv.s (.slice none 0 0)),Zae (Dv.s (.slice none 0 0)),Zae (Dv.s (.slice none 0 0)),Zae (Dv.s (.slice none 0 0)),Zae (i64 0),Zae (i64 0),Zae (i64 0),Zae (i64 0),Zae (i64 0)]
abbrev Qz7 (v0:SprT):=Blk.mk [Zae (i64 (NotT.v (SprT.no v0))),Zae (i64 (NotT.n (SprT.no v0))),Zae (u64 (NotT.r (SprT.no v0))),Zae (i64 (NotT.t (SprT.no v0))),Zae (Dv.s (.slice none 0 0)),Zae (Dv.s (.slice none 0 0)),Zae (Dv.s (.slice none 0 0)),Zae (Dv.s (.slice none 0 0)),Zae (i64 (SprT.i1 v0)),Zae (i64 (SprT.i2 v0)),Zae (i64 (SprT.i3 v0)),Zae (i64 (SprT.i4 v0)),Zae (i64 (SprT.i5 v0))] false false 0
abbrev Qz8 (v0:SprT) (v1:List (List Int)):=Blk.mk [Zae (i64 (NotT.v (SprT.no v0))),Zae (i64 (NotT.n (SprT.no v0))),Zae (u64 (NotT.r (SprT.no v0))),Zae (i64 (NotT.t (SprT.no v0))),Zes 33 1 (partsR v1),Zae (Dv.s (.slice none 0 0)),Zae (Dv.s (.slice none 0 0)),Zae (Dv.s (.slice none 0 0)),Zae (i64 (SprT.i1 v0)),Zae (i64 (SprT.i2 v0)),Zae (i64 (SprT.i3 v0)),Zae (i64 (SprT.i4 v0)),Zae (i64 (SprT.i5 v0))] false false 0
abbrev Qz9 (v0:SprT) (v1:List (List Dv)) (v2:List (List Int)):List AV:= [Zbp [Zae (i64 (NotT.v (SprT.no v0))),Zae (i64 (NotT.n (SprT.no v0))),Zae (u64 (NotT.r (SprT.no v0))),Zae (i64 (NotT.t (SprT.no v0))),Zae (Zam 1 v1),Zae (Zam 1 (proofsR v2)),Zae (Dv.s (.slice none 0 0)),Zae (Dv.s (.slice none 0 0)),Zae (i64 (SprT.i1 v0)),Zae (i64 (SprT.i2 v0)),Zae (i64 (SprT.i3 v0)),Zae (i64 (SprT.i4 v0)),Zae (i64 (SprT.i5 v0))],Zae (i64 0)]
abbrev Qz15 (v0:List (List Int)):List AV:=bds 6 (Zaz 1 0::Zav::Zaz 2 0::Zaz 3 0::bds 72 (Zae (Zam 1 (proofsR v0))::Zae (i64 ((Zab (proofsR v0):Nat):Int))::Zae (i64 0)::bds 12 []))
abbrev Qz24 (v0:List (List Dv)) (v1:List (List Int)):=Zav::Zav::Zae (Zam 1 v0)::bds 3 (Zaz 1 0::Zav::Zaz 2 0::Zaz 3 0::bds 52 (Zae (Zam 1 (partsR v1))::Zae (i64 ((Zab (partsR v1):Nat):Int))::Zae (i64 0)::bds 32 []))
abbrev Qz29 (v0:List (List Dv)):List AV:=bds 6 (Zaz 1 0::Zav::Zaz 2 0::Zaz 3 0::bds 72 (Zae (Zam 1 [[Zam 1 v0]])::Zae (i64 1)::Zae (i64 0)::bds 12 []))
abbrev Qz30 (v0:List (List Dv)) (v1:List (List Dv)):List AV:=bds 6 (Zaz 1 0::Zav::Zaz 2 0::Zaz 3 0::bds 72 (Zae (Zam 1 v0)::Zae (i64 ((Zab v1+1:Nat):Int))::Zae (i64 0)::bds 12 []))
theorem put_nf (s:SprT) (p q:List (List Dv)):wpFn prog ⟨TPt,SPt,wl21I,y,false⟩ 100 f53 [spV s, .d (.sl 1 p), .d (.sl 1 q)] b R=(∃(s0:SprT) (z1:Bool), [Zbp (Qz1 s)]= [Zbp (Qz1 s0)]∧(Zab (SprT.ps s0)≤9223372036854775807∧z1=soundS s0)∧BIf (!z1) (R (.tup [Zbp Qz4,Zae (i64 1)]) b) (BIf (((Zab p:Nat):Int) !=(256:Int)) (R (.tup [Zbp Qz4,Zae (i64 1)]) b) (∃(n2:Int) (z3:Int), [Zae (i64 (NotT.n (SprT.no s)))]= [Zae (i64 n2)]∧z3=countS n2∧BIf (((Zab (partsR (SprT.ps s)):Nat):Int)==z3) (R (.tup [Zbp Qz4,Zae (i64 10)]) b) (∃(s4:SprT) (i5:Int) (p6:List Int) (q7:List Int) (z8:Bool), [Zbp (Qz1 s),Zae (i64 ((Zab (partsR (SprT.ps s)):Nat):Int)),Zae (Zam 1 p),Zae (Zam 1 q)]= [Zbp (Qz1 s4),Zae (i64 i5),Zae (Zam 1 (bytesR p6)),Zae (Zam 1 (digR q7))]∧z8=provedS s4 i5 p6 q7∧BIf (!z8) (R (.tup [Zbp Qz4,Zae (i64 12)]) b) (∃(xs9:List (List Dv)), [Zae (Zam 1 (partsR (SprT.ps s)))]= [Zae (Zam 1 xs9)]∧Zab xs9≤1000000∧BIf (Zdr xs9) (Zbd lp21aI=Zbd lp21aI∧∃(s10:SprT) (pf11:List (List Dv)) (L12:List (List Int)) (z13:List (List Int)),(Zav::Zav::Zae (Zam 1 q)::bds 3 (Zaz 1 0::Zav::Zaz 2 0::Zaz 3 0::bds 52 (Zae (Zam 1 [[Zam 1 p]])::Zae (i64 1)::Zae (i64 0)::bds 32 [])))=(Qz24 pf11 L12)∧some (Qz7 s)=some (Qz7 s10)∧((Zab L12≤1000000∧∀(p:List Int),p∈L12→Zab p≤1000000)∧z13=L12)∧∀(i:Int),∃(xs14:List (List Dv)), [Zae (Zam 1 (proofsR (SprT.qs s)))]= [Zae (Zam 1 xs14)]∧Zab xs14≤1000000∧BIf (Zdr xs14) (Zbd lp21bI=Zbd lp21bI∧∃(s15:SprT) (X16:List (List Dv)) (L17:List (List Int)) (z18:List (List Int)),(Qz29 pf11)=(Qz15 L17)∧some (Qz8 s10 z13)=some (Blk.mk (Qz6 s15 X16) false false 0)∧((Zab L17≤1000000∧∀(p:List Int),p∈L17→Zab p≤1000000)∧z18=L17)∧∀(i:Int),R (.tup (Qz9 s15 X16 z18)) b) (0=0∧BIf (decide ((Zab xs14+1)*24≤140737488355328)) (1=1∧Zbd lp21bI=Zbd lp21bI∧1=1∧∃(xs19:List (List Dv)),flatA xs14++ [Zae (Zam 1 pf11)]=flatA xs19∧Zab xs19=Zab xs14+1∧(∀(r:List Dv),r∈xs19→Zab r=1)∧∃(s20:SprT) (X21:List (List Dv)) (L22:List (List Int)) (z23:List (List Int)),(Qz30 xs19 xs14)=(Qz15 L22)∧some (Qz8 s10 z13)=some (Blk.mk (Qz6 s20 X21) false false 0)∧((Zab L22≤1000000∧∀(p:List Int),p∈L22→Zab p≤1000000)∧z23=L22)∧∀(i:Int),R (.tup (Qz9 s20 X21 z23)) b) False)) (0=0∧BIf (decide ((Zab xs9+1)*24≤140737488355328)) (1=1∧Zbd lp21aI=Zbd lp21aI∧1=1∧∃(xs24:List (List Dv)),flatA xs9++ [Zae (Zam 1 p)]=flatA xs24∧Zab xs24=Zab xs9+1∧(∀(r:List Dv),r∈xs24→Zab r=1)∧∃(s25:SprT) (pf26:List (List Dv)) (L27:List (List Int)) (z28:List (List Int)),(Zav::Zav::Zae (Zam 1 q)::bds 3 (Zaz 1 0::Zav::Zaz 2 0::Zaz 3 0::bds 52 (Zae (Zam 1 xs24)::Zae (i64 ((Zab xs9+1:Nat):Int))::Zae (i64 0)::bds 32 [])))=(Qz24 pf26 L27)∧some (Qz7 s)=some (Qz7 s25)∧((Zab L27≤1000000∧∀(p:List Int),p∈L27→Zab p≤1000000)∧z28=L27)∧∀(i:Int),∃(xs29:List (List Dv)), [Zae (Zam 1 (proofsR (SprT.qs s)))]= [Zae (Zam 1 xs29)]∧Zab xs29≤1000000∧BIf (Zdr xs29) (Zbd lp21bI=Zbd lp21bI∧∃(s30:SprT) (X31:List (List Dv)) (L32:List (List Int)) (z33:List (List Int)),(Qz29 pf26)=(Qz15 L32)∧some (Qz8 s25 z28)=some (Blk.mk (Qz6 s30 X31) false false 0)∧((Zab L32≤1000000∧∀(p:List Int),p∈L32→Zab p≤1000000)∧z33=L32)∧∀(i:Int),R (.tup (Qz9 s30 X31 z33)) b) (0=0∧BIf (decide ((Zab xs29+1)*24≤140737488355328)) (1=1∧Zbd lp21bI=Zbd lp21bI∧1=1∧∃(xs34:List (List Dv)),flatA xs29++ [Zae (Zam 1 pf26)]=flatA xs34∧Zab xs34=Zab xs29+1∧(∀(r:List Dv),r∈xs34→Zab r=1)∧∃(s35:SprT) (X36:List (List Dv)) (L37:List (List Int)) (z38:List (List Int)),(Qz30 xs34 xs29)=(Qz15 L37)∧some (Qz8 s25 z28)=some (Blk.mk (Qz6 s35 X36) false false 0)∧((Zab L37≤1000000∧∀(p:List Int),p∈L37→Zab p≤1000000)∧z38=L37)∧∀(i:Int),R (.tup (Qz9 s35 X36 z38)) b) False)) False)))))):=by kernel_rfl
def zeroSp:SprT:=⟨⟨0,0,0,0⟩, [], [], [], [],0,0,0,0,0⟩
def putS (s:SprT) (p q:List Int):SprT×Int:=
 if soundS s=false∨p.length≠256 then (zeroSp,1) else if (s.ps.length:Int)=countS s.no.n then (zeroSp,10) else if provedS s s.ps.length p q=false then (zeroSp,12)
 else (⟨s.no,s.ps++ [p],s.qs++ [q], [], [],s.i1,s.i2,s.i3,s.i4,s.i5⟩,0)
theorem flatA_parts1 (ps:List (List Int)) (p:List Int):flatA (partsR ps)++ [Zae (.sl 1 (bytesR p))]=flatA (partsR (ps++ [p])):=by
 rw [←parts_app1,flatA_app];rfl
theorem flatA_proofs1 (ps:List (List Int)) (p:List Int):flatA (proofsR ps)++ [Zae (.sl 1 (digR p))]=flatA (proofsR (ps++ [p])):=by
 rw [←proofs_app1,flatA_app];rfl
theorem parts_row {ps:List (List Int)}:∀r∈partsR ps,r.length=1:=by
 intro r hr;simp only [partsR,Zbh] at hr;obtain ⟨_,_,rfl⟩:=hr;rfl
theorem proofs_row {ps:List (List Int)}:∀r∈proofsR ps,r.length=1:=by
 intro r hr;simp only [proofsR,Zbh] at hr;obtain ⟨_,_,rfl⟩:=hr;rfl
theorem sound_facts {s:SprT} (h:soundS s=true):s.ps.length≤4096∧s.qs.length=s.ps.length∧(∀p∈s.ps,p.length=256)∧sizedS s.no.n=true∧announcedS s.no.v s.no.n s.no.t=true:=by
 simp only [soundS,Zak] at h
 obtain ⟨h1,h2,h3,h4,h5⟩:=h
 have h6:sizedS s.no.n=true:=by simp only [announcedS,Zak] at h1;exact h1.2.2.1
 obtain ⟨k,hk,hk1,hk2⟩:=sized_nat h6
 rw [hk,countS_eq (by omega)] at h2
 refine ⟨by simp at h2;omega,by simp at h3;omega,fun p hp=> ?_,h6,h1⟩
 have h4:anyOther s.ps=false:=by simpa using h4
 rw [anyOther,List.any_eq_false] at h4
 have:=h4 p hp
 simp at this;omega
theorem pcPut (s:SprT) (p q:List Int) (hl:s.ps.length≤9223372036854775807) (hq:q.length≤1000000) (hqs:∀x∈s.qs,x.length≤1000000):
   PCall prog 53 [spV s, .d (.sl 1 (bytesR p)), .d (.sl 1 (digR q))] (.tup [spV (putS s p q).1, .d (i64 (putS s p q).2)]):=by
 refine Zdh (n:=100) (u:=false) (fun _=>wl21I) mixed TPt_ok SPt_ok (fun Ev=>wl21_okI) func53 (by rfl) (by rfl) fun Ev bb=> ?_
 rw [put_nf]
 have bad:∀e:Int,putS s p q=(zeroSp,e)→LeV (AV.tup [Zbp [Zae (i64 (0:Int)),Zae (i64 (0:Int)),Zae (u64 (0:Int)),Zae (i64 (0:Int)),Zae (Dv.s (Zbo none 0 0)),Zae (Dv.s (Zbo none 0 0)),Zae (Dv.s (Zbo none 0 0)),Zae (Dv.s (Zbo none 0 0)),Zae (i64 (0:Int)),Zae (i64 (0:Int)),Zae (i64 (0:Int)),Zae (i64 (0:Int)),Zae (i64 (0:Int))],Zae (i64 e)])
     (.tup [spV (putS s p q).1, .d (i64 (putS s p q).2)]):=by
   intro e he
   rw [he]
   exact Zdo (.cons (LeV.aggs (.cons .rfl (.cons .rfl (.cons .rfl (.cons .rfl (.cons (.nil rfl) (.cons (.nil rfl) (.cons (.nil rfl) (.cons (.nil rfl) (LeVs.refl _)))))))))) (.cons .rfl .nil))
 have good:∀ps' qs',putS s p q=(⟨s.no,ps',qs', [], [],s.i1,s.i2,s.i3,s.i4,s.i5⟩,0)→LeV (AV.tup [Zbp [.d (i64 s.no.v), .d (i64 s.no.n), .d (u64 s.no.r), .d (i64 s.no.t), .d (.sl 1 (partsR ps')), .d (.sl 1 (proofsR qs')),Zae (Dv.s (Zbo none 0 0)),Zae (Dv.s (Zbo none 0 0)), .d (i64 s.i1), .d (i64 s.i2), .d (i64 s.i3), .d (i64 s.i4), .d (i64 s.i5)],Zae (i64 0)])
     (.tup [spV (putS s p q).1, .d (i64 (putS s p q).2)]):=by
   intro ps' qs' he
   rw [he]
   exact Zdo (.cons (LeV.aggs (.cons .rfl (.cons .rfl (.cons .rfl (.cons .rfl (.cons .rfl (.cons .rfl (.cons (.nil rfl) (.cons (.nil rfl) (LeVs.refl _)))))))))) (.cons .rfl .nil))
 refine ⟨s,_,rfl,⟨hl,rfl⟩,Zan (fun g=>bad 1 (by rw [putS,if_pos (.inl (by simpa using g))])) fun g1=>Zan (fun g=>bad 1 (by rw [putS,if_pos (.inr (by rw [bytesR_len] at g;simp at g;omega))])) fun g2=>⟨_,_,rfl,rfl,Zan (fun g=>bad 10 ?_) fun g3=>⟨s,_,p,q,_,rfl,rfl,Zan (fun g=>bad 12 ?_) fun g4=> ?_⟩⟩⟩
 all_goals
   have h1:soundS s=true:=by simpa using g1
   have h2:p.length=256:=by rw [bytesR_len] at g2;simp at g2;omega
   have hn:¬(soundS s=false∨p.length≠256):=by rw [h1,h2];simp
 · rw [partsR_len] at g
   rw [putS,if_neg hn,if_pos (by simpa using g)]
 · rw [partsR_len] at g3 g
   rw [putS,if_neg hn,if_neg (by simpa using g3),if_pos (by simpa using g)]
 rw [partsR_len] at g3
 obtain ⟨f1,f2,f3,f4,f5⟩:=sound_facts h1
 have h4:provedS s s.ps.length p q=true:=by rw [partsR_len] at g4;simpa using g4
 have hput:putS s p q=(⟨s.no,s.ps++ [p],s.qs++ [q], [], [],s.i1,s.i2,s.i3,s.i4,s.i5⟩,0):=by
   rw [putS,if_neg hn,if_neg (by simpa using g3),if_neg (by rw [h4];simp)]
 have eP:(partsR (s.ps++ [p])).length=(partsR s.ps).length+1:=by simp [partsR_len]
 have eQ:(proofsR (s.qs++ [q])).length=(proofsR s.qs).length+1:=by simp [proofs_len]
 have bP:(s.ps++ [p]).length≤1000000∧∀x∈s.ps++ [p],x.length≤1000000:=by
   refine ⟨by simp;omega,fun x hx=> ?_⟩
   rcases Zce.1 hx with hx|hx
   · rw [f3 x hx];decide
   · simp at hx;subst hx;omega
 have bQ:(s.qs++ [q]).length≤1000000∧∀x∈s.qs++ [q],x.length≤1000000:=by
   refine ⟨by simp;omega,fun x hx=> ?_⟩
   rcases Zce.1 hx with hx|hx
   · exact hqs x hx
   · simp at hx;subst hx;exact hq
 refine ⟨partsR s.ps,rfl,by rw [partsR_len];omega,Zan (fun h=> ?_) fun h=> ?_⟩
 · have e1:s.ps= []:=by
     have:(partsR s.ps).length=0:=by rw [List.isEmpty_iff] at h;rw [h];rfl
     rw [partsR_len] at this;exact List.length_eq_zero_iff.1 this
   have e2:s.qs= []:=List.length_eq_zero_iff.1 (by rw [f2,e1];rfl)
   rw [e1] at hput bP
   rw [e2] at hput bQ
   refine ⟨rfl,s,digR q, [p],_,rfl,rfl,⟨bP,rfl⟩,fun _=>⟨proofsR s.qs,rfl,by rw [proofs_len,f2];omega,Zbl (by rw [e2];rfl) ⟨rfl,s,partsR [p], [q],_,rfl,rfl,⟨bQ,rfl⟩,fun _=>good [p] [q] hput⟩⟩⟩
 · have e1:(proofsR s.qs).isEmpty=false:=by
     cases hq2:s.qs with
     | nil=>
       have:s.ps= []:=List.length_eq_zero_iff.1 (by rw [←f2,hq2];rfl)
       rw [this] at h;cases h
     |cons a l=>rfl
   refine ⟨rfl,Zbl (by rw [decide_eq_true_eq,partsR_len];omega) ⟨rfl,rfl,rfl,partsR (s.ps++ [p]),flatA_parts1 _ _,eP,parts_row,s,digR q,s.ps++ [p],_,congrArg (fun z:Nat=>tm21aI (digR q) (partsR (s.ps++ [p])) (z:Int) 0) eP.symm,rfl,⟨bP,rfl⟩,fun _=>⟨proofsR s.qs,rfl,by rw [proofs_len,f2];omega,Zct e1 ⟨rfl,Zbl (by rw [decide_eq_true_eq,proofs_len];omega) ⟨rfl,rfl,rfl,proofsR (s.qs++ [q]),flatA_proofs1 _ _,eQ,proofs_row,s,partsR (s.ps++ [p]),s.qs++ [q],_,congrArg (fun z:Nat=>tm21bI (proofsR (s.qs++ [q])) (z:Int) 0) eQ.symm,rfl,⟨bQ,rfl⟩,fun _=>good _ _ hput⟩⟩⟩⟩⟩
def cPut (args:List AV) (K:AV→Prop):Prop:=∃(s:SprT) (p q:List Int) (z:SprT) (e:Int),args= [spV s, .d (.sl 1 (bytesR p)), .d (.sl 1 (digR q))]∧((s.ps.length≤9223372036854775807∧q.length≤1000000∧∀x∈s.qs,x.length≤1000000)∧(z,e)=putS s p q)∧K (.tup [spV z, .d (i64 e)])
theorem cPut_ok:∀args K,cPut args K→∃x,PCall prog 53 args x∧K x:=by
 rintro _ K ⟨s,p,q,z,e,rfl,⟨⟨h1,h2,h3⟩,he⟩,h⟩
 have:=pcPut s p q h1 h2 h3
 rw [←he] at this
 exact ⟨_,this,h⟩
def TWh:List (Nat×(List AV→(AV→Prop)→Prop)):= [(88,cSound),(89,cJoin)]
theorem TWh_ok:CallsOk prog TWh:=Zag cSound_ok (Zag cJoin_ok Zah)
theorem whole_nf (s:SprT):wpFn prog ⟨TWh, [],wl,y,false⟩ 100 f30 [spV s] b R=(∃(s0:SprT) (z1:Bool), [Zbp (Qz1 s)]= [Zbp (Qz1 s0)]∧(Zab (SprT.ps s0)≤9223372036854775807∧z1=soundS s0)∧BIf (!z1) (R (.tup [Zae (Dv.s (.slice none 0 0)),Zae (bo false)]) b) (∃(ps2:List (List Int)) (n3:Int) (z4:List Int) (e5:Int), [Zae (Zam 1 (partsR (SprT.ps s))),Zae (i64 (NotT.n (SprT.no s)))]= [Zae (Zam 1 (partsR ps2)),Zae (i64 n3)]∧(Zab ps2≤9223372036854775807∧(z4,e5)=joinS ps2 n3)∧R (.tup [Zae (Zam 1 (bytesR z4)),Zae (bo (e5==(0:Int)))]) b)):=by kernel_rfl
def wholeS (s:SprT):List Int×Bool:=if soundS s then ((joinS s.ps s.no.n).1,(joinS s.ps s.no.n).2==0) else ([],false)
theorem pcWhole (s:SprT) (hl:s.ps.length≤9223372036854775807):PCall prog 30 [spV s] (.tup [.d (.sl 1 (bytesR (wholeS s).1)), .d (bo (wholeS s).2)]):=by
 refine Zdh (n:=100) (u:=false) (fun _=>wlNo _) mixed TWh_ok Zad (fun Ev=>wlNo_ok Ev) func30 (by rfl) (by rfl) fun Ev bb=> ?_
 rw [whole_nf]
 refine ⟨s,_,rfl,⟨hl,rfl⟩,Zan (fun g=> ?_) fun g=>⟨s.ps,s.no.n,_,_,rfl,⟨hl,rfl⟩, ?_⟩⟩
 · rw [wholeS,if_neg (by rw [show soundS s=false by simpa using g];simp)]
   exact Zdo (.cons (.nil rfl) (.cons .rfl .nil))
 · rw [wholeS,if_pos (show soundS s=true by simpa using g)]
   exact .rfl
def cWhole (args:List AV) (K:AV→Prop):Prop:=∃(s:SprT) (z:List Int) (e:Bool),args= [spV s]∧(s.ps.length≤9223372036854775807∧(z,e)=wholeS s)∧K (.tup [.d (.sl 1 (bytesR z)), .d (bo e)])
theorem cWhole_ok:∀args K,cWhole args K→∃x,PCall prog 30 args x∧K x:=by
 rintro _ K ⟨s,z,e,rfl,⟨hl,he⟩,h⟩
 have:=pcWhole s hl
 rw [←he] at this
 exact ⟨_,this,h⟩
noncomputable def lp20:Code:=sub [1,1,0,1,2,3] (code f31)
noncomputable def lp19I:Code:=sub [1,1,0,1,2,3] (code f24)
def tmCmp (n:Nat) (z a c:List (List Dv)) (i:Int):List AV:= [.d (.sl 1 a), .d (.sl 1 c), .bad, .bad, .bad, .d (i64 i)]++Zaf n .bad
theorem r20 (a c:List (List Dv)) (i:Int):wpc prog ⟨[], [],wl,y,false⟩ 100 lp20 (tmCmp 20 [] a c i) [] b (maskT [0,1,4,5] K)=(BIf (decide (i<((Zab a:Nat):Int))) (BIf (true&&decide (0≤i)) (∃(x0:Int),a[Zap i]? =some [u8 x0]∧BIf (true&&decide (0≤i)) (∃(x3:Int),c[Zap i]? =some [u8 x3]∧BIf (x0 !=x3) (K .ret (Zae (Zam 1 a)::Zae (Zam 1 c)::Zav::Zav::Zae (bo false)::Zae (i64 i)::bds 20 []) [] b) (K .normal (Zae (Zam 1 a)::Zae (Zam 1 c)::bds 3 (Zae (i64 (Zaa .i64 (i+1)))::bds 20 [])) [] b)) False) False) (K (Zet 0) (Zae (Zam 1 a)::Zae (Zam 1 c)::bds 3 (Zae (i64 i)::bds 20 [])) [] b)):=by kernel_rfl
theorem parts_at {p:List (List Int)} {k:Nat} (h:k<p.length):(partsR p)[k]? =some [.sl 1 (bytesR (nthL p k))]:=by simp [partsR,nthL,h]
theorem proofs_at {p:List (List Int)} {k:Nat} (h:k<p.length):(proofsR p)[k]? =some [.sl 1 (digR (nthL p k))]:=by simp [proofsR,nthL,h]
theorem nthL_mem {α:Type} {p:List (List α)} {k:Nat} (h:k<p.length):nthL p k∈p:=by
 rw [nthL,List.getD_eq_getElem?_getD,Zbj h];exact List.getElem_mem h
theorem wr20 {Ev:Env prog} {b:Ev.β} {Q:Exit→St Ev.β→Prop} (a c:List Int) (hl:a.length=c.length) (hb:a.length≤9223372036854775807) (h1:a=c→∀i:Int,Q (.exit 0) ⟨tmCmp 20 [] (bytesR a) (bytesR c) i, [],b⟩) (h2:a≠c→∀i:Int,Q .ret ⟨(tmCmp 20 [] (bytesR a) (bytesR c) i).set 4 (.d (bo false)), [],b⟩):
   WR Ev lp20 (a.length+1) ⟨tmCmp 20 [] (bytesR a) (bytesR c) (0:Nat), [],b⟩ Q:=by
 refine Zex (X:=⟨[], [],wlW Ev,Ev.Y,false⟩) (k:=100) [0,1,4,5] mixed (CX.Ok.of Zah Zad) a.length (fun i=>nth a i !=nth c i) (fun i=>tmCmp 20 [] (bytesR a) (bytesR c) (i:Nat)) (fun i=>(tmCmp 20 [] (bytesR a) (bytesR c) (i:Nat)).set 4 (.d (bo false))) [] 0 (fun i hi K k1 k2=> ?_) (fun K k1=> ?_) (fun h=>h1 ?_ _) fun h i=>h2 ?_ _
 · rw [r20,bytesR_len]
   refine Zbl (by simp<;>omega) (Zbl (by simp) ⟨nth a i,by rw [Zax];exact bytes_at hi,Zbl (by simp) ⟨nth c i,by rw [Zax];exact bytes_at (by omega),Zan (fun g=>k1 g) fun g=> ?_⟩⟩)
   rw [wrap_succ hi hb];exact k2 g
 · rw [r20,bytesR_len]
   exact Zct (by simp) k1
 · rw [any_ne hl] at h;simpa using h
 · rw [any_ne hl] at h;simpa using h
def wl20I {β:Type}:WLT β:=fun t tm hp b K=>∃(a c:List Int) (z:Bool),t= .loop lp20∧maskTm [0,1,5] 0 tm=tmCmp 20 [] (bytesR a) (bytesR c) 0∧hp= []∧((a.length=c.length∧a.length≤9223372036854775807)∧z=decide (a=c))∧
 BIf z (∀i:Int,K (.exit 0) (tmCmp 20 [] (bytesR a) (bytesR c) i) [] b) (∀i:Int,K .ret ((tmCmp 20 [] (bytesR a) (bytesR c) i).set 4 (.d (bo false))) [] b)
theorem wl20_okI {Ev:Env prog} (c:Code) (tm:List AV) (hp:List Blk) (b:Ev.β) (K:Exit→List AV→List Blk→Ev.β→Prop) (h:wl20I c tm hp b K):W Ev c ⟨tm,hp,b⟩ (fun e s=>K e s.tm s.hp s.b):=by
 obtain ⟨a,d,z,rfl,htm,rfl,⟨⟨hl,hb⟩,hz⟩,hK⟩:=h
 refine W.cast (htm▸maskTm_le _ tm 0) (Zbw _) ?_
 exact W.rounds (wr20 (Q:=fun e s=>K e s.tm s.hp s.b) a d hl hb (fun h=>by rw [hz,decide_eq_true h] at hK;exact hK) fun h=>by rw [hz,decide_eq_false h] at hK;exact hK)
theorem f20_nfI (a c:List (List Dv)):wpFn prog ⟨[], [],wl20I,y,false⟩ 100 f31 [.d (.sl 1 a), .d (.sl 1 c)] b R=(BIf (((Zab a:Nat):Int) !=((Zab c:Nat):Int)) (R (.d (bo false)) b) (∃(a0:List Int) (c1:List Int) (z2:Bool),Zbd lp20=Zbd lp20∧(Zae (Zam 1 a)::Zae (Zam 1 c)::bds 3 (Zae (i64 0)::bds 20 []))=(Zae (Zam 1 (bytesR a0))::Zae (Zam 1 (bytesR c1))::bds 3 (Zae (i64 0)::bds 20 []))∧([]:List Blk)= []∧((Zab a0=Zab c1∧Zab a0≤9223372036854775807)∧z2=decide (a0=c1))∧BIf z2 (∀(i:Int),R (.d (bo true)) b) (∀(i:Int),R (.d (bo false)) b))):=by kernel_rfl
theorem pcBytes (a c:List Int) (ha:a.length≤9223372036854775807):PCall prog 31 [.d (.sl 1 (bytesR a)), .d (.sl 1 (bytesR c))] (.d (bo (decide (a=c)))):=by
 refine Zcp (n:=100) (u:=false) (fun _=>wl20I) mixed Zah Zad (fun Ev=>wl20_okI) func31 (by rfl) (by rfl) fun Ev bb=> ?_
 rw [f20_nfI,bytesR_len,bytesR_len]
 refine Zan (fun g=> ?_) fun g=>⟨a,c,_,rfl,rfl,rfl,⟨⟨by simp at g;omega,ha⟩,rfl⟩,Zan (fun h i=>by rw [h]) fun h i=>by rw [h]⟩
 rw [decide_eq_false fun h=>by rw [h] at g;simp at g]
def cBytes (args:List AV) (K:AV→Prop):Prop:=∃(a c:List Int) (z:Bool),args= [.d (.sl 1 (bytesR a)), .d (.sl 1 (bytesR c))]∧(a.length≤9223372036854775807∧z=decide (a=c))∧K (.d (bo z))
theorem cBytes_ok:∀args K,cBytes args K→∃x,PCall prog 31 args x∧K x:=by
 rintro _ K ⟨a,c,_,rfl,⟨hl,rfl⟩,h⟩;exact ⟨_,pcBytes a c hl,h⟩
def T19:List (Nat×(List AV→(AV→Prop)→Prop)):= [(31,cBytes)]
theorem T19_ok:CallsOk prog T19:=Zag cBytes_ok Zah
theorem r19 (a c:List (List Dv)) (i:Int):wpc prog ⟨T19, [],wl,y,false⟩ 100 lp19I (tmCmp 21 [] a c i) [] b (maskT [0,1,4,5] K)=(BIf (decide (i<((Zab a:Nat):Int))) (BIf (true&&decide (0≤i)) (∃(xs0:List (List Dv)),a[Zap i]? =some [Zam 1 xs0]∧BIf (true&&decide (0≤i)) (∃(xs3:List (List Dv)),c[Zap i]? =some [Zam 1 xs3]∧∃(a6:List Int) (c7:List Int) (z8:Bool), [Zae (Zam 1 xs0),Zae (Zam 1 xs3)]= [Zae (Zam 1 (bytesR a6)),Zae (Zam 1 (bytesR c7))]∧(Zab a6≤9223372036854775807∧z8=decide (a6=c7))∧BIf (!z8) (K .ret (Zae (Zam 1 a)::Zae (Zam 1 c)::Zav::Zav::Zae (bo false)::Zae (i64 i)::bds 21 []) [] b) (K .normal (Zae (Zam 1 a)::Zae (Zam 1 c)::bds 3 (Zae (i64 (Zaa .i64 (i+1)))::bds 21 [])) [] b)) False) False) (K (Zet 0) (Zae (Zam 1 a)::Zae (Zam 1 c)::bds 3 (Zae (i64 i)::bds 21 [])) [] b)):=by kernel_rfl
theorem wr19I {Ev:Env prog} {b:Ev.β} {Q:Exit→St Ev.β→Prop} (a c:List (List Int)) (hl:a.length=c.length) (hb:a.length≤9223372036854775807) (he:∀p∈a,p.length≤9223372036854775807) (h1:a=c→∀i:Int,Q (.exit 0) ⟨tmCmp 21 [] (partsR a) (partsR c) i, [],b⟩) (h2:a≠c→∀i:Int,Q .ret ⟨(tmCmp 21 [] (partsR a) (partsR c) i).set 4 (.d (bo false)), [],b⟩):
   WR Ev lp19I (a.length+1) ⟨tmCmp 21 [] (partsR a) (partsR c) (0:Nat), [],b⟩ Q:=by
 refine Zex (X:=⟨T19, [],wlW Ev,Ev.Y,false⟩) (k:=100) [0,1,4,5] mixed (CX.Ok.of T19_ok Zad) a.length (fun i=> !decide (nthL a i=nthL c i)) (fun i=>tmCmp 21 [] (partsR a) (partsR c) (i:Nat)) (fun i=>(tmCmp 21 [] (partsR a) (partsR c) (i:Nat)).set 4 (.d (bo false))) [] 0 (fun i hi K k1 k2=> ?_) (fun K k1=> ?_) (fun h=>h1 ?_ _) fun h i=>h2 ?_ _
 · rw [r19,partsR_len]
   refine Zbl (by simp<;>omega) (Zbl (by simp) ⟨_,by rw [Zax];exact parts_at hi,Zbl (by simp) ⟨_,by rw [Zax];exact parts_at (show i<c.length by omega),nthL a i,nthL c i,_,rfl,⟨he _ (nthL_mem hi),rfl⟩,Zan (fun g=>k1 g) fun g=> ?_⟩⟩)
   rw [wrap_succ hi hb];exact k2 g
 · rw [r19,partsR_len]
   exact Zct (by simp) k1
 · rw [any_neL hl] at h;simpa using h
 · rw [any_neL hl] at h;simpa using h
def wl19I {β:Type}:WLT β:=fun t tm hp b K=>∃(a c:List (List Int)) (z:Bool),t= .loop lp19I∧maskTm [0,1,5] 0 tm=tmCmp 21 [] (partsR a) (partsR c) 0∧hp= []∧((a.length=c.length∧a.length≤9223372036854775807∧∀p∈a,p.length≤9223372036854775807)∧z=decide (a=c))∧
 BIf z (∀i:Int,K (.exit 0) (tmCmp 21 [] (partsR a) (partsR c) i) [] b) (∀i:Int,K .ret ((tmCmp 21 [] (partsR a) (partsR c) i).set 4 (.d (bo false))) [] b)
theorem wl19_okI {Ev:Env prog} (c:Code) (tm:List AV) (hp:List Blk) (b:Ev.β) (K:Exit→List AV→List Blk→Ev.β→Prop) (h:wl19I c tm hp b K):W Ev c ⟨tm,hp,b⟩ (fun e s=>K e s.tm s.hp s.b):=by
 obtain ⟨a,d,z,rfl,htm,rfl,⟨⟨hl,hb,he⟩,hz⟩,hK⟩:=h
 refine W.cast (htm▸maskTm_le _ tm 0) (Zbw _) ?_
 exact W.rounds (wr19I (Q:=fun e s=>K e s.tm s.hp s.b) a d hl hb he (fun h=>by rw [hz,decide_eq_true h] at hK;exact hK) fun h=>by rw [hz,decide_eq_false h] at hK;exact hK)
theorem f19_nfI (a c:List (List Dv)):wpFn prog ⟨T19, [],wl19I,y,false⟩ 100 f24 [.d (.sl 1 a), .d (.sl 1 c)] b R=(BIf (((Zab a:Nat):Int) !=((Zab c:Nat):Int)) (R (.d (bo false)) b) (∃(a0:List (List Int)) (c1:List (List Int)) (z2:Bool),Zbd lp19I=Zbd lp19I∧(Zae (Zam 1 a)::Zae (Zam 1 c)::bds 3 (Zae (i64 0)::bds 21 []))=(Zae (Zam 1 (partsR a0))::Zae (Zam 1 (partsR c1))::bds 3 (Zae (i64 0)::bds 21 []))∧([]:List Blk)= []∧((Zab a0=Zab c1∧Zab a0≤9223372036854775807∧∀(p:List Int),p∈a0→Zab p≤9223372036854775807)∧z2=decide (a0=c1))∧BIf z2 (∀(i:Int),R (.d (bo true)) b) (∀(i:Int),R (.d (bo false)) b))):=by kernel_rfl
theorem pcLists (a c:List (List Int)) (ha:a.length≤9223372036854775807) (he:∀p∈a,p.length≤9223372036854775807):PCall prog 24 [.d (.sl 1 (partsR a)), .d (.sl 1 (partsR c))] (.d (bo (decide (a=c)))):=by
 refine Zcp (n:=100) (u:=false) (fun _=>wl19I) mixed T19_ok Zad (fun Ev=>wl19_okI) func24 (by rfl) (by rfl) fun Ev bb=> ?_
 rw [f19_nfI,partsR_len,partsR_len]
 refine Zan (fun g=> ?_) fun g=>⟨a,c,_,rfl,rfl,rfl,⟨⟨by simp at g;omega,ha,he⟩,rfl⟩,Zan (fun h i=>by rw [h]) fun h i=>by rw [h]⟩
 rw [decide_eq_false fun h=>by rw [h] at g;simp at g]
def cLists (args:List AV) (K:AV→Prop):Prop:=∃(a c:List (List Int)) (z:Bool),args= [.d (.sl 1 (partsR a)), .d (.sl 1 (partsR c))]∧((a.length≤9223372036854775807∧∀p∈a,p.length≤9223372036854775807)∧z=decide (a=c))∧K (.d (bo z))
theorem cLists_ok:∀args K,cLists args K→∃x,PCall prog 24 args x∧K x:=by
 rintro _ K ⟨a,c,_,rfl,⟨⟨hl,he⟩,rfl⟩,h⟩;exact ⟨_,pcLists a c hl he,h⟩
def wlTm {β:Type}:WLT β:=fun c tm hp b K=>∃(w k:Nat) (z:Nat),c= .loop lpTm∧maskTm [0,1,5] 0 tm=tmTm w k 0∧hp= []∧((w<1000000∧k<1000000)∧z=lenW w w k)∧∀w' k':Int,K (.exit 0) (tmTm w' k' z) [] b
theorem wlTm_ok {Ev:Env prog} (c:Code) (tm:List AV) (hp:List Blk) (b:Ev.β) (K:Exit→List AV→List Blk→Ev.β→Prop) (h:wlTm c tm hp b K):W Ev c ⟨tm,hp,b⟩ (fun e s=>K e s.tm s.hp s.b):=by
 obtain ⟨w,k,z,rfl,htm,rfl,⟨⟨hw,hk⟩,rfl⟩,hK⟩:=h
 refine W.cast (htm▸maskTm_le _ tm 0) (Zbw _) ?_
 exact W.rounds (wrTm (Q:=fun e s=>K e s.tm s.hp s.b) w w k 0 (by omega) hw hk (by omega) (by simpa using hK))
noncomputable def lp51:Code:=sub [1,1,1,1,0,2,3] (code f131)
def tm51 (r w k:Int) (q:List (List Dv)) (acc u:Int):List AV:= [.d (u64 r), .d (i64 w), .d (i64 k), .bad, .d (.sl 1 q), .bad, .bad, .bad, .bad, .bad, .bad, .d (u64 acc), .d (i64 u)]++Zaf 70 .bad
def T51:List (Nat×(List AV→(AV→Prop)→Prop)):= [(184,cTOther),(185,cRPair)]
theorem T51_ok:CallsOk prog T51:=Zag cTOther_ok (Zag cRPair_ok Zah)
theorem length_nf (w k:Nat):wpFn prog ⟨TTm, [],wlTm,y,false⟩ 100 f182 [.d (i64 w), .d (i64 k)] b R=(∃(w0:Nat) (k1:Nat) (z2:Nat),Zbd lpTm=Zbd lpTm∧(Zae (i64 (w:Int))::Zae (i64 (k:Int))::bds 3 (Zae (i64 0)::bds 14 []))=(Zae (i64 (w0:Int))::Zae (i64 (k1:Int))::bds 3 (Zae (i64 0)::bds 14 []))∧([]:List Blk)= []∧((w0<1000000∧k1<1000000)∧z2=lenW w0 w0 k1)∧∀(w' k':Int),R (.d (i64 (z2:Int))) b):=by kernel_rfl
abbrev Qz23 (v0:Int) (v1:Int):=Zae (u64 v0)::Zae (i64 v1)::bds 70 []
theorem r51 (r w k:Int) (q:List (List Dv)) (acc u:Int):wpc prog ⟨T51, [],wl,y,false⟩ 100 lp51 (tm51 r w k q acc u) [] b (maskT [0,1,2,4,11,12] K)=(BIf (decide (w>(1:Int))) (∃(k0:Nat) (w1:Nat) (z2:Int), [Zae (i64 k),Zae (i64 w)]= [Zae (i64 (k0:Int)),Zae (i64 (w1:Int))]∧(k0<1000000∧z2=otherS k0 w1)∧BIf (decide (z2>k)) (BIf (true&&decide (0≤u)) (∃(x3:Int),q[Zap u]? =some [u64 x3]∧∃(a6:Int) (c7:Int) (z8:Int), [Zae (u64 acc),Zae (u64 x3)]= [Zae (u64 a6),Zae (u64 c7)]∧z8=pairS a6 c7∧BIf (decide (z2≥(0:Int))) (BIf (decide (z2<k)) (BIf (true&&decide (0≤u)) (∃(x9:Int),q[Zap u]? =some [u64 x9]∧∃(a12:Int) (c13:Int) (z14:Int), [Zae (u64 x9),Zae (u64 z8)]= [Zae (u64 a12),Zae (u64 c13)]∧z14=pairS a12 c13∧BIf (decide (z2≥(0:Int))) (K .normal (Zae (u64 r)::Zae (i64 (Zaa .i64 (Zbi (Zaa .i64 (w+1)) (2:Int))))::Zae (i64 (Zaa .i64 (Zbi k (2:Int))))::Zav::Zae (Zam 1 q)::bds 6 (Zae (u64 z14)::Zae (i64 (Zaa .i64 (u+1)))::bds 70 [])) [] b) (K .normal (Zae (u64 r)::Zae (i64 (Zaa .i64 (Zbi (Zaa .i64 (w+1)) (2:Int))))::Zae (i64 (Zaa .i64 (Zbi k (2:Int))))::Zav::Zae (Zam 1 q)::bds 6 (Qz23 z14 u)) [] b)) False) (BIf (decide (z2≥(0:Int))) (K .normal (Zae (u64 r)::Zae (i64 (Zaa .i64 (Zbi (Zaa .i64 (w+1)) (2:Int))))::Zae (i64 (Zaa .i64 (Zbi k (2:Int))))::Zav::Zae (Zam 1 q)::bds 6 (Zae (u64 z8)::Zae (i64 (Zaa .i64 (u+1)))::bds 70 [])) [] b) (K .normal (Zae (u64 r)::Zae (i64 (Zaa .i64 (Zbi (Zaa .i64 (w+1)) (2:Int))))::Zae (i64 (Zaa .i64 (Zbi k (2:Int))))::Zav::Zae (Zam 1 q)::bds 6 (Qz23 z8 u)) [] b))) (BIf (decide (z2≥(0:Int))) (K .normal (Zae (u64 r)::Zae (i64 (Zaa .i64 (Zbi (Zaa .i64 (w+1)) (2:Int))))::Zae (i64 (Zaa .i64 (Zbi k (2:Int))))::Zav::Zae (Zam 1 q)::bds 6 (Zae (u64 z8)::Zae (i64 (Zaa .i64 (u+1)))::bds 70 [])) [] b) (K .normal (Zae (u64 r)::Zae (i64 (Zaa .i64 (Zbi (Zaa .i64 (w+1)) (2:Int))))::Zae (i64 (Zaa .i64 (Zbi k (2:Int))))::Zav::Zae (Zam 1 q)::bds 6 (Qz23 z8 u)) [] b))) False) (BIf (decide (z2≥(0:Int))) (BIf (decide (z2<k)) (BIf (true&&decide (0≤u)) (∃(x15:Int),q[Zap u]? =some [u64 x15]∧∃(a18:Int) (c19:Int) (z20:Int), [Zae (u64 x15),Zae (u64 acc)]= [Zae (u64 a18),Zae (u64 c19)]∧z20=pairS a18 c19∧BIf (decide (z2≥(0:Int))) (K .normal (Zae (u64 r)::Zae (i64 (Zaa .i64 (Zbi (Zaa .i64 (w+1)) (2:Int))))::Zae (i64 (Zaa .i64 (Zbi k (2:Int))))::Zav::Zae (Zam 1 q)::bds 6 (Zae (u64 z20)::Zae (i64 (Zaa .i64 (u+1)))::bds 70 [])) [] b) (K .normal (Zae (u64 r)::Zae (i64 (Zaa .i64 (Zbi (Zaa .i64 (w+1)) (2:Int))))::Zae (i64 (Zaa .i64 (Zbi k (2:Int))))::Zav::Zae (Zam 1 q)::bds 6 (Qz23 z20 u)) [] b)) False) (BIf (decide (z2≥(0:Int))) (K .normal (Zae (u64 r)::Zae (i64 (Zaa .i64 (Zbi (Zaa .i64 (w+1)) (2:Int))))::Zae (i64 (Zaa .i64 (Zbi k (2:Int))))::Zav::Zae (Zam 1 q)::bds 6 (Zae (u64 acc)::Zae (i64 (Zaa .i64 (u+1)))::bds 70 [])) [] b) (K .normal (Zae (u64 r)::Zae (i64 (Zaa .i64 (Zbi (Zaa .i64 (w+1)) (2:Int))))::Zae (i64 (Zaa .i64 (Zbi k (2:Int))))::Zav::Zae (Zam 1 q)::bds 6 (Qz23 acc u)) [] b))) (BIf (decide (z2≥(0:Int))) (K .normal (Zae (u64 r)::Zae (i64 (Zaa .i64 (Zbi (Zaa .i64 (w+1)) (2:Int))))::Zae (i64 (Zaa .i64 (Zbi k (2:Int))))::Zav::Zae (Zam 1 q)::bds 6 (Zae (u64 acc)::Zae (i64 (Zaa .i64 (u+1)))::bds 70 [])) [] b) (K .normal (Zae (u64 r)::Zae (i64 (Zaa .i64 (Zbi (Zaa .i64 (w+1)) (2:Int))))::Zae (i64 (Zaa .i64 (Zbi k (2:Int))))::Zav::Zae (Zam 1 q)::bds 6 (Qz23 acc u)) [] b)))) (K (Zet 0) (Zae (u64 r)::Zae (i64 w)::Zae (i64 k)::Zav::Zae (Zam 1 q)::bds 6 (Qz23 acc u)) [] b)):=by kernel_rfl
theorem pcLength (w k:Nat) (hw:w<1000000) (hk:k<1000000):PCall prog 182 [.d (i64 w), .d (i64 k)] (.d (i64 (lenW w w k))):=by
 refine Zcp (n:=100) (u:=false) (fun _=>wlTm) mixed TTm_ok Zad (fun Ev=>wlTm_ok) func182 (by rfl) (by rfl) fun Ev bb=> ?_
 rw [length_nf]
 exact ⟨w,k,_,rfl,rfl,rfl,⟨⟨hw,hk⟩,rfl⟩,fun _ _=>rfl⟩
def cLength (args:List AV) (K:AV→Prop):Prop:=∃(w k z:Nat),args= [.d (i64 w), .d (i64 k)]∧((w<1000000∧k<1000000)∧z=lenW w w k)∧K (.d (i64 z))
theorem cLength_ok:∀args K,cLength args K→∃x,PCall prog 182 args x∧K x:=by
 rintro _ K ⟨w,k,_,rfl,⟨⟨h1,h2⟩,rfl⟩,h⟩;exact ⟨_,pcLength w k h1 h2,h⟩
theorem half_w {w:Nat} (h:w<1000000):Zaa Zaq (Zbi (Zaa Zaq ((w:Int)+1)) 2)=(((w+1) / 2:Nat):Int):=by
 rw [wrap_i64 (x:=(w:Int)+1) (by omega) (by omega),show Zbi ((w:Int)+1) 2=(((w+1) / 2:Nat):Int) from rfl,wrap_i64 (by omega) (by omega)]
theorem half_k {k:Nat} (h:k<1000000):Zaa Zaq (Zbi (k:Int) 2)=((k / 2:Nat):Int):=by
 rw [show Zbi (k:Int) 2=((k / 2:Nat):Int) from rfl,wrap_i64 (by omega) (by omega)]
theorem wr51 {Ev:Env prog} {b:Ev.β} {Q:Exit→St Ev.β→Prop} (r:Int) (q:List Int) (hq:q.length≤1000000):∀(n w k u:Nat) (acc:Int) (rest:List Int),q.drop u=rest→rest.length=lenW n w k→w≤n+1→w<1000000→k<1000000→
   (∀(w' k' u':Int) (z:Int),checkF (walkP n w k) rest acc=some ([],z)→Q (.exit 0) ⟨tm51 r w' k' (digR q) z u', [],b⟩)→WR Ev lp51 (n+1) ⟨tm51 r w k (digR q) acc u, [],b⟩ Q
 | 0,w,k,u,acc,rest,hd,hlen,hn,hw,hk,h=>by
   refine Zcq [0,1,2,4,11,12] mixed (CX.Ok.of (u:=false) T51_ok Zad) (k:=100) ?_
   rw [r51]
   have hr:rest= []:=List.length_eq_zero_iff.1 (by rw [hlen];rfl)
   exact Zct (by simp<;>omega) (h _ _ _ _ (by rw [hr];rfl))
 | n+1,w,k,u,acc,rest,hd,hlen,hn,hw,hk,h=>by
   refine Zcq [0,1,2,4,11,12] mixed (CX.Ok.of (u:=false) T51_ok Zad) (k:=100) ?_
   rw [r51]
   by_cases h1:1<w
   · rw [lenW,if_pos h1] at hlen
     rw [walkP,if_pos h1] at h
     refine Zbl (by simp<;>omega) ⟨k,w,_,rfl,⟨hk,rfl⟩, ?_⟩
     rw [half_w hw,half_k hk]
     by_cases h2:sibN k<w
     · rw [if_pos h2] at hlen
       rw [decide_eq_true h2] at h
       have ho:otherS k w=(sibN k:Int):=by rw [otherS,if_neg (by omega)]
       obtain ⟨x,rest',rfl⟩:∃x rest',rest=x::rest':=by
         cases rest with
         |nil=>simp at hlen;omega
         |cons x l=>exact ⟨x,l,rfl⟩
       obtain ⟨hu,hx,hd'⟩:=drop_cons hd
       have hx':(digR q)[Zap (u:Int)]? =some [u64 x]:=by rw [Zax];simp [digR,hx]
       have hlen':rest'.length=lenW n ((w+1) / 2) (k / 2):=by simp at hlen;omega
       have hw2:∀z,Zaa Zaq ((u:Int)+1)=z↔((u+1:Nat):Int)=z:=fun z=>by rw [wrap_i64 (by omega) (by omega)];simp
       have hwu:Zaa Zaq ((u:Int)+1)=((u+1:Nat):Int):=by rw [wrap_i64 (by omega) (by omega)];simp
       rw [ho,hwu]
       by_cases hodd:k % 2=1
       · have hs:sibN k=k - 1:=by rw [sibN,if_neg (by omega)]
         have hb:(k % 2==1)=true:=by simp [hodd]
         rw [hb] at h
         refine Zct (by simp<;>omega) (Zbl (by simp) (Zbl (by simp<;>omega) (Zbl (by simp) ⟨x,hx',x,acc,_,rfl,rfl,Zbl (by simp) ?_⟩)))
         refine wr51 r q hq n ((w+1) / 2) (k / 2) (u+1) (pairS x acc) rest' hd' hlen' (by omega) (by omega) (by omega) fun w' k' u' z hz=>h w' k' u' z ?_
         rw [checkF_t];exact hz
       · have hs:sibN k=k+1:=by rw [sibN,if_pos (by omega)]
         have hb:(k % 2==1)=false:=by simp;omega
         rw [hb] at h
         refine Zbl (by simp<;>omega) (Zbl (by simp) ⟨x,hx',acc,x,_,rfl,rfl,Zbl (by simp) (Zct (by simp<;>omega) (Zbl (by simp) ?_))⟩)
         refine wr51 r q hq n ((w+1) / 2) (k / 2) (u+1) (pairS acc x) rest' hd' hlen' (by omega) (by omega) (by omega) fun w' k' u' z hz=>h w' k' u' z ?_
         rw [checkF_g];exact hz
     · rw [if_neg h2,Nat.zero_add] at hlen
       rw [decide_eq_false h2] at h
       have ho:otherS k w= -1:=by rw [otherS,if_pos (by omega)]
       rw [ho]
       refine Zct (by simp<;>omega) (Zct (by simp) (Zct (by simp) ?_))
       refine wr51 r q hq n ((w+1) / 2) (k / 2) u acc rest hd hlen (by omega) (by omega) (by omega) fun w' k' u' z hz=>h w' k' u' z ?_
       rw [checkF_f];exact hz
   · rw [lenW,if_neg h1] at hlen
     rw [walkP,if_neg h1] at h
     have hr:rest= []:=List.length_eq_zero_iff.1 hlen
     exact Zct (by simp<;>omega) (h _ _ _ _ (by rw [hr];rfl))
theorem checkF_len:∀(n w k:Nat) (q:List Int) (s:Int),(q.length<lenW n w k→checkF (walkP n w k) q s=none)∧(lenW n w k≤q.length→∃z,checkF (walkP n w k) q s=some (q.drop (lenW n w k),z))
 |0,w,k,q,s=>⟨fun h=>by simp [lenW] at h,fun _=>⟨s,rfl⟩⟩
 | n+1,w,k,q,s=>by
   by_cases h1:1<w
   · rw [lenW,if_pos h1,walkP,if_pos h1]
     by_cases h2:sibN k<w
     · rw [if_pos h2,decide_eq_true h2]
       cases q with
       |nil=>exact ⟨fun _=>checkF_nil _ _ _,fun h=>by simp at h⟩
       | cons x q=>
         cases hb:k % 2==1 with
         | true=>
           rw [checkF_t]
           have:=checkF_len n ((w+1) / 2) (k / 2) q (pairS x s)
           refine ⟨fun h=>this.1 (by simp at h;omega),fun h=> ?_⟩
           obtain ⟨z,hz⟩:=this.2 (by simp at h;omega)
           exact ⟨z,by rw [hz,Nat.add_comm 1,List.drop_succ_cons]⟩
         | false=>
           rw [checkF_g]
           have:=checkF_len n ((w+1) / 2) (k / 2) q (pairS s x)
           refine ⟨fun h=>this.1 (by simp at h;omega),fun h=> ?_⟩
           obtain ⟨z,hz⟩:=this.2 (by simp at h;omega)
           exact ⟨z,by rw [hz,Nat.add_comm 1,List.drop_succ_cons]⟩
     · rw [if_neg h2,decide_eq_false h2,checkF_f,Nat.zero_add]
       exact checkF_len n ((w+1) / 2) (k / 2) q s
   · rw [lenW,if_neg h1,walkP,if_neg h1]
     exact ⟨fun h=>by simp at h,fun _=>⟨s,rfl⟩⟩
def wl51 {β:Type}:WLT β:=fun c tm hp b K=>∃(r acc:Int) (w k:Nat) (q:List Int) (z:Int),c= .loop lp51∧maskTm [0,1,2,4,11,12] 0 tm=tm51 r w k (digR q) acc 0∧hp= []∧((w<1000000∧k<1000000∧q.length≤1000000)∧checkF (walkS w k) q acc=some ([],z))∧∀w' k' u':Int,K (.exit 0) (tm51 r w' k' (digR q) z u') [] b
theorem wl51_ok {Ev:Env prog} (c:Code) (tm:List AV) (hp:List Blk) (b:Ev.β) (K:Exit→List AV→List Blk→Ev.β→Prop) (h:wl51 c tm hp b K):W Ev c ⟨tm,hp,b⟩ (fun e s=>K e s.tm s.hp s.b):=by
 obtain ⟨r,acc,w,k,q,z,rfl,htm,rfl,⟨⟨hw,hk,hq⟩,hz⟩,hK⟩:=h
 refine W.cast (htm▸maskTm_le _ tm 0) (Zbw _) ?_
 refine W.rounds (wr51 (Q:=fun e s=>K e s.tm s.hp s.b) r q hq w w k 0 acc q rfl ?_ (by omega) hw hk fun w' k' u' z' hz'=> ?_)
 · have h2:=checkF_len w w k q acc
   rcases Nat.lt_or_ge q.length (lenW w w k) with h|h
   · rw [walkS,h2.1 h] at hz;cases hz
   · obtain ⟨z',hz'⟩:=h2.2 h
     rw [walkS,hz'] at hz
     simp only [Option.some.injEq,Prod.mk.injEq,List.drop_eq_nil_iff] at hz
     omega
 · rw [walkS,hz'] at hz
   simp only [Option.some.injEq,Prod.mk.injEq,true_and] at hz
   rw [hz];exact hK _ _ _
def TCk:List (Nat×(List AV→(AV→Prop)→Prop)):= [(182,cLength),(183,cTLeaf)]
theorem TCk_ok:CallsOk prog TCk:=Zag cLength_ok (Zag cTLeaf_ok Zah)
theorem tCheck_nf (r n i:Int) (p q:List (List Dv)):wpFn prog ⟨TCk, [],wl51,y,false⟩ 100 f131 [.d (u64 r), .d (i64 n), .d (i64 i), .d (.sl 1 p), .d (.sl 1 q)] b R=(BIf (decide (n<(1:Int))) (R (.d (bo false)) b) (BIf (decide (n>(16:Int))) (R (.d (bo false)) b) (BIf (decide (i<(0:Int))) (R (.d (bo false)) b) (BIf (decide (i≥n)) (R (.d (bo false)) b) (BIf (decide (((Zab p:Nat):Int)>(256:Int))) (R (.d (bo false)) b) (∃(w0:Nat) (k1:Nat) (z2:Nat), [Zae (i64 n),Zae (i64 i)]= [Zae (i64 (w0:Int)),Zae (i64 (k1:Int))]∧((w0<1000000∧k1<1000000)∧z2=lenW w0 w0 k1)∧BIf (((Zab q:Nat):Int) !=(z2:Int)) (R (.d (bo false)) b) (∃(p3:List Int) (z4:Int), [Zae (Zam 1 p)]= [Zae (Zam 1 (bytesR p3))]∧(Zab p3≤9223372036854775807∧z4=leafS p3)∧∃(r5:Int) (acc6:Int) (w7:Nat) (k8:Nat) (q9:List Int) (z10:Int),Zbd lp51=Zbd lp51∧(Zae (u64 r)::Zae (i64 n)::Zae (i64 i)::Zav::Zae (Zam 1 q)::bds 6 (Zae (u64 z4)::Zae (i64 0)::bds 70 []))=(Zae (u64 r5)::Zae (i64 (w7:Int))::Zae (i64 (k8:Int))::Zav::Zae (Zam 1 (digR q9))::bds 6 (Zae (u64 acc6)::Zae (i64 0)::bds 70 []))∧([]:List Blk)= []∧((w7<1000000∧k8<1000000∧Zab q9≤1000000)∧checkF (walkS w7 k8) q9 acc6=some ([],z10))∧∀(w' k' u':Int),R (.d (bo (z10==r5))) b))))))):=by kernel_rfl
theorem rCount_nf (n:Int):wpFn prog ⟨[], [],wl,y,false⟩ 100 f75 [.d (i64 n)] b R=(R (Zae (i64 (Zaa Zaq (Zbi (Zaa Zaq (Zaa Zaq (n+256) - (1:Int))) (256:Int))))) b):=by kernel_rfl
theorem lenW_le:∀(n w k:Nat),lenW n w k≤n
 |0,w,k=>by simp [lenW]
 | n+1,w,k=>by
   have:=lenW_le n ((w+1) / 2) (k / 2)
   rw [lenW];split
   · split<;>omega
   · omega
theorem pcTCheck (r n i:Int) (p q:List Int):PCall prog 131 [.d (u64 r), .d (i64 n), .d (i64 i), .d (.sl 1 (bytesR p)), .d (.sl 1 (digR q))] (.d (bo (checkS r n i p q))):=by
 refine Zcp (n:=100) (u:=false) (fun _=>wl51) mixed TCk_ok Zad (fun Ev=>wl51_ok) func131 (by rfl) (by rfl) fun Ev bb=> ?_
 rw [tCheck_nf,bytesR_len,digR_len]
 refine Zan (fun g=>by rw [checkS,g];rfl) fun g1=>Zan (fun g=>by rw [checkS,g1,g];rfl) fun g2=>Zan (fun g=>by rw [checkS,g1,g2,g];rfl) fun g3=>Zan (fun g=>by rw [checkS,g1,g2,g3,g];rfl) fun g4=>Zan (fun g=>by rw [checkS,g1,g2,g3,g4,g];rfl) fun g5=> ?_
 have n1:=of_decide_eq_false g1
 have n2:=of_decide_eq_false g2
 have n3:=of_decide_eq_false g3
 have n4:=of_decide_eq_false g4
 have n5:=of_decide_eq_false g5
 obtain ⟨w,rfl⟩:=Zby (show 0≤n by omega)
 obtain ⟨k,rfl⟩:=Zby (show 0≤i by omega)
 have hk:checkS r w k p q=topS r (checkF (walkS w k) q (leafS p)):=by rw [checkS,g1,g2,g3,g4,g5,Zax,Zax];rfl
 have hlen:=lenW_le w w k
 have hF:=checkF_len w w k q (leafS p)
 refine ⟨w,k,_,rfl,⟨⟨by omega,by omega⟩,rfl⟩,Zan (fun g=> ?_) fun g=> ?_⟩
 · rw [hk]
   have hne:q.length≠lenW w w k:=by simp at g;omega
   rcases Nat.lt_or_ge q.length (lenW w w k) with h|h
   · rw [walkS,hF.1 h];rfl
   · obtain ⟨z,hz⟩:=hF.2 h
     rw [walkS,hz]
     have:(q.drop (lenW w w k)).isEmpty=false:=by
       cases hd:q.drop (lenW w w k) with
       |nil=>have:=drop_nil hd;omega
       |cons=>rfl
     rw [topS,this];rfl
 · have he:q.length=lenW w w k:=by simp at g;omega
   obtain ⟨z,hz⟩:=hF.2 (by omega)
   rw [List.drop_eq_nil_of_le (by omega)] at hz
   refine ⟨p,_,rfl,⟨by omega,rfl⟩,r,leafS p,w,k,q,z,rfl,rfl,rfl,⟨⟨by omega,by omega,by omega⟩,hz⟩,fun _ _ _=> ?_⟩
   rw [hk,walkS,hz];rfl
def cTCheck (args:List AV) (K:AV→Prop):Prop:=∃(r n i:Int) (p q:List Int) (z:Bool),args= [.d (u64 r), .d (i64 n), .d (i64 i), .d (.sl 1 (bytesR p)), .d (.sl 1 (digR q))]∧z=checkS r n i p q∧K (.d (bo z))
theorem cTCheck_ok:∀args K,cTCheck args K→∃x,PCall prog 131 args x∧K x:=by
 rintro _ K ⟨r,n,i,p,q,_,rfl,rfl,h⟩;exact ⟨_,pcTCheck r n i p q,h⟩
theorem pcRCount (n:Int):PCall prog 75 [.d (i64 n)] (.d (i64 (countS n))):=by
 refine Zba (n:=100) (u:=false) mixed Zah Zad func75 (by rfl) (by rfl) fun Ev bb=> ?_
 rw [rCount_nf];rfl
def cRCount (args:List AV) (K:AV→Prop):Prop:=∃(n z:Int),args= [.d (i64 n)]∧z=countS n∧K (.d (i64 z))
theorem cRCount_ok:∀args K,cRCount args K→∃x,PCall prog 75 args x∧K x:=by
 rintro _ K ⟨n,_,rfl,rfl,h⟩;exact ⟨_,pcRCount n,h⟩
noncomputable def lp26:Code:=sub [1,1,0,1,2,3] (code f80)
def tm26 (i:Int):List AV:= [.bad, .ptr 0 0, .bad, .d (i64 i)]++Zaf 56 .bad
def T26:List (Nat×(List AV→(AV→Prop)→Prop)):= [(75,cRCount),(131,cTCheck),(76,cRNotice),(142,cRPages)]
theorem T26_ok:CallsOk prog T26:=Zag cRCount_ok (Zag cTCheck_ok (Zag cRNotice_ok (Zag cRPages_ok Zah)))
theorem r26 (s:SprT) (i:Int):wpc prog ⟨T26, [],wl,y,false⟩ 100 lp26 (tm26 i) [blkSI s] b (maskT [1,2,3] K)=(BIf (decide (i<((Zab (partsR (SprT.ps s)):Nat):Int))) (∃(n0:Int) (z1:Int), [Zae (i64 (NotT.n (SprT.no s)))]= [Zae (i64 n0)]∧z1=countS n0∧BIf (true&&decide (0≤i)) (∃(xs2:List (List Dv)),(partsR (SprT.ps s))[Zap i]? =some [Zam 1 xs2]∧BIf (true&&decide (0≤i)) (∃(xs5:List (List Dv)),(proofsR (SprT.qs s))[Zap i]? =some [Zam 1 xs5]∧∃(r8I:Int) (n9:Int) (i10:Int) (p11:List Int) (q12:List Int) (z13:Bool), [Zae (u64 (NotT.r (SprT.no s))),Zae (i64 z1),Zae (i64 i),Zae (Zam 1 xs2),Zae (Zam 1 xs5)]= [Zae (u64 r8I),Zae (i64 n9),Zae (i64 i10),Zae (Zam 1 (bytesR p11)),Zae (Zam 1 (digR q12))]∧z13=checkS r8I n9 i10 p11 q12∧BIf (!z13) (K .ret (Zav::Zaz 0 0::Zae (bo false)::Zae (i64 i)::bds 56 []) [Blk.mk (Qz1 s) false false 0] b) (K .normal (Zav::Zaz 0 0::Zav::Zae (i64 (Zaa .i64 (i+1)))::bds 56 []) [Blk.mk (Qz1 s) false false 0] b)) False) False) (K (Zet 0) (Zav::Zaz 0 0::Zav::Zae (i64 i)::bds 56 []) [Blk.mk (Qz1 s) false false 0] b)):=by kernel_rfl
noncomputable def lp12a:Code:=sub [1,1,0,1,2,3] (code f46)
noncomputable def lp12b:Code:=sub [1,1,1,0,1,2,3] (code f46)
noncomputable def lp12c:Code:=sub [1,1,1,1,0,1,2,3] (code f46)
def tm12aI (i:Int):List AV:= [.bad, .ptr 0 0, .bad, .d (i64 i)]++Zaf 67 .bad
def tm12bI (i:Int):List AV:= [.bad, .ptr 0 0, .bad, .bad, .d (i64 i)]++Zaf 66 .bad
def tm12c (i:Int):List AV:= [.bad, .ptr 0 0, .bad, .bad, .bad, .d (i64 i)]++Zaf 65 .bad
theorem r12a (s:SprT) (i:Int):wpc prog ⟨[], [],wl,y,false⟩ 100 lp12a (tm12aI i) [blkSI s] b (maskT [1,2,3] K)=(BIf (decide (i<((Zab (partsR (SprT.ps s)):Nat):Int))) (BIf (true&&decide (0≤i)) (∃(xs0:List (List Dv)),(partsR (SprT.ps s))[Zap i]? =some [Zam 1 xs0]∧BIf (decide (((Zab xs0:Nat):Int)>(1000:Int))) (K .ret (Zav::Zaz 0 0::Zae (bo false)::Zae (i64 i)::bds 67 []) [Blk.mk (Qz1 s) false false 0] b) (K .normal (Zav::Zaz 0 0::Zav::Zae (i64 (Zaa .i64 (i+1)))::bds 67 []) [Blk.mk (Qz1 s) false false 0] b)) False) (K (Zet 0) (Zav::Zaz 0 0::Zav::Zae (i64 i)::bds 67 []) [Blk.mk (Qz1 s) false false 0] b)):=by kernel_rfl
theorem r12b (s:SprT) (i:Int):wpc prog ⟨[], [],wl,y,false⟩ 100 lp12b (tm12bI i) [blkSI s] b (maskT [1,2,4] K)=(BIf (decide (i<((Zab (proofsR (SprT.qs s)):Nat):Int))) (BIf (true&&decide (0≤i)) (∃(xs0:List (List Dv)),(proofsR (SprT.qs s))[Zap i]? =some [Zam 1 xs0]∧BIf (decide (((Zab xs0:Nat):Int)>(40:Int))) (K .ret (Zav::Zaz 0 0::Zae (bo false)::Zav::Zae (i64 i)::bds 66 []) [Blk.mk (Qz1 s) false false 0] b) (K .normal (Zav::Zaz 0 0::Zav::Zav::Zae (i64 (Zaa .i64 (i+1)))::bds 66 []) [Blk.mk (Qz1 s) false false 0] b)) False) (K (Zet 2) (Zav::Zaz 0 0::Zav::Zav::Zae (i64 i)::bds 66 []) [Blk.mk (Qz1 s) false false 0] b)):=by kernel_rfl
theorem r12c (s:SprT) (i:Int):wpc prog ⟨[], [],wl,y,false⟩ 100 lp12c (tm12c i) [blkSI s] b (maskT [1,2,5] K)=(BIf (decide (i<((Zab (SprT.rows s):Nat):Int))) (BIf (true&&decide (0≤i)) (∃(x0:Int) (xs1:List (List Dv)),(SprT.rows s)[Zap i]? =some [i64 x0,Zam 1 xs1]∧BIf (decide (((Zab xs1:Nat):Int)>(100:Int))) (K .ret (Zav::Zaz 0 0::Zae (bo false)::Zav::Zav::Zae (i64 i)::bds 65 []) [Blk.mk (Qz1 s) false false 0] b) (K .normal (Zav::Zaz 0 0::bds 3 (Zae (i64 (Zaa .i64 (i+1)))::bds 65 [])) [Blk.mk (Qz1 s) false false 0] b)) False) (K (Zet 4) (Zav::Zaz 0 0::bds 3 (Zae (i64 i)::bds 65 [])) [Blk.mk (Qz1 s) false false 0] b)):=by kernel_rfl
theorem wr26 {Ev:Env prog} {b:Ev.β} {Q:Exit→St Ev.β→Prop} (s:SprT) (hl:s.ps.length≤1000000):∀(ps qs:List (List Int)) (k:Nat),s.ps.drop k=ps→s.qs.drop k=qs→k≤s.ps.length→ps.length=qs.length→
   (allP s k ps qs=true→∀i:Int,Q (.exit 0) ⟨tm26 i, [blkSI s],b⟩)→(allP s k ps qs=false→∀i:Int,Q .ret ⟨(tm26 i).set 2 (.d (bo false)), [blkSI s],b⟩)→
   WR Ev lp26 (ps.length+1) ⟨tm26 k, [blkSI s],b⟩ Q
 | [],qs,k,hd,hd2,hk,hlen,h1,h2=>by
   refine Zcq [1,2,3] mixed (CX.Ok.of (u:=false) T26_ok Zad) (k:=100) ?_
   rw [r26,partsR_len]
   have:=drop_nil hd
   exact Zct (by simp<;>omega) (h1 (by rw [allP];intros;simp_all) _)
 |p::ps, [],k,hd,hd2,hk,hlen,h1,h2=>by simp at hlen
 | p::ps,q::qs,k,hd,hd2,hk,hlen,h1,h2=>by
   refine Zcq [1,2,3] mixed (CX.Ok.of (u:=false) T26_ok Zad) (k:=100) ?_
   rw [r26,partsR_len]
   obtain ⟨hk',hr,hd'⟩:=drop_cons hd
   obtain ⟨hk2,hr2,hd2'⟩:=drop_cons hd2
   refine Zbl (by simp<;>omega) ⟨_,_,rfl,rfl,Zbl (by simp) ⟨bytesR p,by simp [partsR,hr],Zbl (by simp) ⟨digR q,by simp [proofsR,hr2],_,_,_,p,q,_,rfl,rfl,Zan (fun g=> ?_) fun g=> ?_⟩⟩⟩
   · have g:provedS s k p q=false:=by unfold provedS;simpa using g
     exact h2 (by rw [allP,g];rfl) _
   · have g:provedS s k p q=true:=by unfold provedS;simpa using g
     rw [allP,g,Bool.true_and] at h1 h2
     rw [wrap_succ hk' (by omega)]
     exact wr26 s hl ps qs (k+1) hd' hd2' hk' (by simpa using hlen) h1 h2
def wl26 {β:Type}:WLT β:=fun c tm hp b K=>∃(s:SprT) (z:Bool),c= .loop lp26∧maskTm [1,3] 0 tm=tm26 0∧hp= [blkSI s]∧((s.ps.length≤1000000∧s.qs.length=s.ps.length)∧z=allP s 0 s.ps s.qs)∧
 BIf z (∀i:Int,K (.exit 0) (tm26 i) [blkSI s] b) (∀i:Int,K .ret ((tm26 i).set 2 (.d (bo false))) [blkSI s] b)
theorem wl26_ok {Ev:Env prog} (c:Code) (tm:List AV) (hp:List Blk) (b:Ev.β) (K:Exit→List AV→List Blk→Ev.β→Prop) (h:wl26 c tm hp b K):W Ev c ⟨tm,hp,b⟩ (fun e s=>K e s.tm s.hp s.b):=by
 obtain ⟨s,z,rfl,htm,rfl,⟨⟨hl,hlen⟩,hz⟩,hK⟩:=h
 refine W.cast (htm▸maskTm_le _ tm 0) (Zbw _) ?_
 exact W.rounds (wr26 (Q:=fun e s=>K e s.tm s.hp s.b) s hl s.ps s.qs 0 rfl rfl (Zeh _) hlen.symm (fun h=>by rw [hz,h] at hK;exact hK) fun h=>by rw [hz,h] at hK;exact hK)
def RowsOk (s:SprT):Prop:=∀r∈s.rows,∃(m:Int) (xs:List (List Dv)),r= [i64 m, .sl 1 xs]
def rowLen:List Dv→Nat
 | [_, .sl _ xs]=>xs.length
 |_=>0
def nthR (l:List (List Dv)) (i:Nat):List Dv:=l.getD i []
theorem nthR_at {l:List (List Dv)} {i:Nat} (h:i<l.length):l[i]? =some (nthR l i):=by simp [nthR,h]
theorem nthR_mem {l:List (List Dv)} {i:Nat} (h:i<l.length):nthR l i∈l:=by
 rw [nthR,List.getD_eq_getElem?_getD,Zbj h];exact List.getElem_mem h
def anyP (ps:List (List Int)):Bool:=(Zbe ps.length).any fun i=>decide (((nthL ps i).length:Int)>1000)
def anyQ (qs:List (List Int)):Bool:=(Zbe qs.length).any fun i=>decide (((nthL qs i).length:Int)>40)
def anyR (rs:List (List Dv)):Bool:=(Zbe rs.length).any fun i=>decide ((rowLen (nthR rs i):Int)>100)
theorem wr12a {Ev:Env prog} {b:Ev.β} {Q:Exit→St Ev.β→Prop} (s:SprT) (hb:s.ps.length≤9223372036854775807) (h1:anyP s.ps=false→∀i:Int,Q (.exit 0) ⟨tm12aI i, [blkSI s],b⟩) (h2:anyP s.ps=true→∀i:Int,Q .ret ⟨(tm12aI i).set 2 (.d (bo false)), [blkSI s],b⟩):
   WR Ev lp12a (s.ps.length+1) ⟨tm12aI (0:Nat), [blkSI s],b⟩ Q:=by
 refine Zex (X:=⟨[], [],wlW Ev,Ev.Y,false⟩) (k:=100) [1,2,3] mixed (CX.Ok.of Zah Zad) s.ps.length (fun i=>decide (((nthL s.ps i).length:Int)>1000)) (fun i=>tm12aI (i:Nat)) (fun i=>(tm12aI (i:Nat)).set 2 (.d (bo false))) [blkSI s] 0 (fun i hi K k1 k2=> ?_) (fun K k1=> ?_) (fun h=>h1 h _) fun h i=>h2 h _
 · rw [r12a,partsR_len]
   refine Zbl (by simp<;>omega) (Zbl (by simp) ⟨_,by rw [Zax];exact parts_at hi,Zan (fun g=>k1 (by rw [bytesR_len] at g;exact g)) fun g=> ?_⟩)
   rw [wrap_succ hi hb];exact k2 (by rw [bytesR_len] at g;exact g)
 · rw [r12a,partsR_len]
   exact Zct (by simp) k1
theorem wr12b {Ev:Env prog} {b:Ev.β} {Q:Exit→St Ev.β→Prop} (s:SprT) (hb:s.qs.length≤9223372036854775807) (h1:anyQ s.qs=false→∀i:Int,Q (.exit 2) ⟨tm12bI i, [blkSI s],b⟩) (h2:anyQ s.qs=true→∀i:Int,Q .ret ⟨(tm12bI i).set 2 (.d (bo false)), [blkSI s],b⟩):
   WR Ev lp12b (s.qs.length+1) ⟨tm12bI (0:Nat), [blkSI s],b⟩ Q:=by
 refine Zex (X:=⟨[], [],wlW Ev,Ev.Y,false⟩) (k:=100) [1,2,4] mixed (CX.Ok.of Zah Zad) s.qs.length (fun i=>decide (((nthL s.qs i).length:Int)>40)) (fun i=>tm12bI (i:Nat)) (fun i=>(tm12bI (i:Nat)).set 2 (.d (bo false))) [blkSI s] 2 (fun i hi K k1 k2=> ?_) (fun K k1=> ?_) (fun h=>h1 h _) fun h i=>h2 h _
 · rw [r12b,proofs_len]
   refine Zbl (by simp<;>omega) (Zbl (by simp) ⟨_,by rw [Zax];exact proofs_at hi,Zan (fun g=>k1 (by rw [digR_len] at g;exact g)) fun g=> ?_⟩)
   rw [wrap_succ hi hb];exact k2 (by rw [digR_len] at g;exact g)
 · rw [r12b,proofs_len]
   exact Zct (by simp) k1
theorem wr12c {Ev:Env prog} {b:Ev.β} {Q:Exit→St Ev.β→Prop} (s:SprT) (ho:RowsOk s) (hb:s.rows.length≤9223372036854775807) (h1:anyR s.rows=false→∀i:Int,Q (.exit 4) ⟨tm12c i, [blkSI s],b⟩) (h2:anyR s.rows=true→∀i:Int,Q .ret ⟨(tm12c i).set 2 (.d (bo false)), [blkSI s],b⟩):
   WR Ev lp12c (s.rows.length+1) ⟨tm12c (0:Nat), [blkSI s],b⟩ Q:=by
 refine Zex (X:=⟨[], [],wlW Ev,Ev.Y,false⟩) (k:=100) [1,2,5] mixed (CX.Ok.of Zah Zad) s.rows.length (fun i=>decide ((rowLen (nthR s.rows i):Int)>100)) (fun i=>tm12c (i:Nat)) (fun i=>(tm12c (i:Nat)).set 2 (.d (bo false))) [blkSI s] 4 (fun i hi K k1 k2=> ?_) (fun K k1=> ?_) (fun h=>h1 h _) fun h i=>h2 h _
 · rw [r12c]
   obtain ⟨m,xs,he⟩:=ho _ (nthR_mem hi)
   rw [he] at k1 k2
   refine Zbl (by simp<;>omega) (Zbl (by simp) ⟨m,xs,by rw [Zax,nthR_at hi,he],Zan (fun g=>k1 g) fun g=> ?_⟩)
   rw [wrap_succ hi hb];exact k2 g
 · rw [r12c]
   exact Zct (by simp) k1
def wl12I {β:Type}:WLT β:=fun c tm hp b K=>match cidO c with
 |5=>∃(s:SprT) (z:Bool),c= .loop lp12a∧maskTm [1,3] 0 tm=tm12aI 0∧hp= [blkSI s]∧(s.ps.length≤9223372036854775807∧z=anyP s.ps)∧BIf z (∀i:Int,K .ret ((tm12aI i).set 2 (.d (bo false))) [blkSI s] b) (∀i:Int,K (.exit 0) (tm12aI i) [blkSI s] b)
 |10=>∃(s:SprT) (z:Bool),c= .loop lp12b∧maskTm [1,4] 0 tm=tm12bI 0∧hp= [blkSI s]∧(s.qs.length≤9223372036854775807∧z=anyQ s.qs)∧BIf z (∀i:Int,K .ret ((tm12bI i).set 2 (.d (bo false))) [blkSI s] b) (∀i:Int,K (.exit 2) (tm12bI i) [blkSI s] b)
 |15=>∃(s:SprT) (z:Bool),c= .loop lp12c∧maskTm [1,5] 0 tm=tm12c 0∧hp= [blkSI s]∧((RowsOk s∧s.rows.length≤9223372036854775807)∧z=anyR s.rows)∧BIf z (∀i:Int,K .ret ((tm12c i).set 2 (.d (bo false))) [blkSI s] b) (∀i:Int,K (.exit 4) (tm12c i) [blkSI s] b)
 |_=>False
theorem wl12_okI {Ev:Env prog} (c:Code) (tm:List AV) (hp:List Blk) (b:Ev.β) (K:Exit→List AV→List Blk→Ev.β→Prop) (h:wl12I c tm hp b K):W Ev c ⟨tm,hp,b⟩ (fun e s=>K e s.tm s.hp s.b):=by
 unfold wl12I at h
 split at h
 · obtain ⟨s,z,rfl,htm,rfl,⟨hb,hz⟩,hK⟩:=h
   refine W.cast (htm▸maskTm_le _ tm 0) (Zbw _) ?_
   exact W.rounds (wr12a (Q:=fun e s=>K e s.tm s.hp s.b) s hb (fun h=>by rw [hz,h] at hK;exact hK) fun h=>by rw [hz,h] at hK;exact hK)
 · obtain ⟨s,z,rfl,htm,rfl,⟨hb,hz⟩,hK⟩:=h
   refine W.cast (htm▸maskTm_le _ tm 0) (Zbw _) ?_
   exact W.rounds (wr12b (Q:=fun e s=>K e s.tm s.hp s.b) s hb (fun h=>by rw [hz,h] at hK;exact hK) fun h=>by rw [hz,h] at hK;exact hK)
 · obtain ⟨s,z,rfl,htm,rfl,⟨⟨ho,hb⟩,hz⟩,hK⟩:=h
   refine W.cast (htm▸maskTm_le _ tm 0) (Zbw _) ?_
   exact W.rounds (wr12c (Q:=fun e s=>K e s.tm s.hp s.b) s ho hb (fun h=>by rw [hz,h] at hK;exact hK) fun h=>by rw [hz,h] at hK;exact hK)
 · exact h.elim
theorem rSound_nf (s:SprT):wpFn prog ⟨T26, [],wl26,y,false⟩ 100 f80 [spV s] b R=(∃(a0:Int) (n1:Int) (r2:Int) (t3:Int) (z4:Bool),(Qz27 s)=(Qz33 a0 n1 r2 t3)∧z4=announcedS a0 n1 t3∧BIf (!z4) (R (.d (bo false)) b) (∃(n5:Int) (z6:Int), [Zae (i64 (NotT.n (SprT.no s)))]= [Zae (i64 n5)]∧z6=countS n5∧BIf (decide (((Zab (partsR (SprT.ps s)):Nat):Int)>z6)) (R (.d (bo false)) b) (BIf (((Zab (proofsR (SprT.qs s)):Nat):Int) !=((Zab (partsR (SprT.ps s)):Nat):Int)) (R (.d (bo false)) b) (∃(ps7:List (List Int)) (z8:Bool), [Zae (Zam 1 (partsR (SprT.ps s)))]= [Zae (Zam 1 (partsR ps7))]∧(Zab ps7≤9223372036854775807∧z8= !anyOther ps7)∧BIf (!z8) (R (.d (bo false)) b) (∃(s9:SprT) (z10:Bool),Zbd lp26=Zbd lp26∧(Zav::Zaz 0 0::Zav::Zae (i64 0)::bds 56 [])=(Zav::Zaz 0 0::Zav::Zae (i64 0)::bds 56 [])∧ [Blk.mk (Qz1 s) false false 0]= [Blk.mk (Qz1 s9) false false 0]∧((Zab (SprT.ps s9)≤1000000∧Zab (SprT.qs s9)=Zab (SprT.ps s9))∧z10=allP s9 0 (SprT.ps s9) (SprT.qs s9))∧BIf z10 (∀(i:Int),R (.d (bo true)) b) (∀(i:Int),R (.d (bo false)) b)))))):=by kernel_rfl
abbrev Qz38:=Zav::Zaz 0 0::Zav::Zav::Zae (i64 0)::bds 66 []
theorem few_nf (s:SprT):wpFn prog ⟨[], [],wl12I,y,false⟩ 100 f46 [spV s] b R=(BIf (decide (((Zab (partsR (SprT.ps s)):Nat):Int)>(20:Int))) (R (.d (bo false)) b) (BIf (decide (((Zab (proofsR (SprT.qs s)):Nat):Int)>(20:Int))) (R (.d (bo false)) b) (BIf (decide (((Zab (SprT.rows s):Nat):Int)>(40:Int))) (R (.d (bo false)) b) (BIf (decide (((Zab (digR (SprT.pf s)):Nat):Int)>(40:Int))) (R (.d (bo false)) b) (∃(s0:SprT) (z1:Bool),Zbd lp12a=Zbd lp12a∧(Zav::Zaz 0 0::Zav::Zae (i64 0)::bds 67 [])=(Zav::Zaz 0 0::Zav::Zae (i64 0)::bds 67 [])∧ [Blk.mk (Qz1 s) false false 0]= [Blk.mk (Qz1 s0) false false 0]∧(Zab (SprT.ps s0)≤9223372036854775807∧z1=anyP (SprT.ps s0))∧BIf z1 (∀(i:Int),R (.d (bo false)) b) (∀(i:Int),∃(s2:SprT) (z3:Bool),Zbd lp12b=Zbd lp12b∧Qz38=Qz38∧ [Blk.mk (Qz1 s0) false false 0]= [Blk.mk (Qz1 s2) false false 0]∧(Zab (SprT.qs s2)≤9223372036854775807∧z3=anyQ (SprT.qs s2))∧BIf z3 (∀(i:Int),R (.d (bo false)) b) (∀(i:Int),∃(s4:SprT) (z5:Bool),Zbd lp12c=Zbd lp12c∧(Zav::Zaz 0 0::bds 3 (Zae (i64 0)::bds 65 []))=(Zav::Zaz 0 0::bds 3 (Zae (i64 0)::bds 65 []))∧ [Blk.mk (Qz1 s2) false false 0]= [Blk.mk (Qz1 s4) false false 0]∧(((∀(r:List Dv),r∈SprT.rows s4→∃(m6:Int) (xs7:List (List Dv)),r= [i64 m6,Zam 1 xs7])∧Zab (SprT.rows s4)≤9223372036854775807)∧z5=anyR (SprT.rows s4))∧BIf z5 (∀(i:Int),R (.d (bo false)) b) (∀(i:Int),R (.d (bo true)) b)))))))):=by kernel_rfl
theorem pcRSound (s:SprT) (hl:s.ps.length≤9223372036854775807):PCall prog 80 [spV s] (.d (bo (soundS s))):=by
 refine Zcp (n:=100) (u:=false) (fun _=>wl26) mixed T26_ok Zad (fun Ev=>wl26_ok) func80 (by rfl) (by rfl) fun Ev bb=> ?_
 rw [rSound_nf]
 refine ⟨_,_,_,_,_,rfl,rfl,Zan (fun g=> ?_) fun g1=>⟨_,_,rfl,rfl,Zan (fun g=> ?_) fun g2=>Zan (fun g=> ?_) fun g3=>⟨_,_,rfl,⟨hl,rfl⟩,Zan (fun g=> ?_) fun g4=>⟨s,_,rfl,rfl,rfl,⟨⟨?_, ?_⟩,rfl⟩,Zan (fun g5 _=> ?_) fun g5 _=> ?_⟩⟩⟩⟩
 · have:announcedS s.no.v s.no.n s.no.t=false:=by simpa using g
   rw [soundS,this];rfl
 · rw [partsR_len] at g
   have h1:announcedS s.no.v s.no.n s.no.t=true:=by simpa using g1
   rw [soundS,h1,g];rfl
 · rw [partsR_len,proofs_len] at g
   rw [partsR_len] at g2
   have h1:announcedS s.no.v s.no.n s.no.t=true:=by simpa using g1
   rw [soundS,h1,g2,g];rfl
 · rw [partsR_len,proofs_len] at g3
   rw [partsR_len] at g2
   have h1:announcedS s.no.v s.no.n s.no.t=true:=by simpa using g1
   have h4:anyOther s.ps=true:=by simpa using g
   rw [soundS,h1,g2,g3,h4];rfl
 · rw [partsR_len] at g2
   have h1:announcedS s.no.v s.no.n s.no.t=true:=by simpa using g1
   have h6:sizedS s.no.n=true:=by simp only [announcedS,Zak] at h1;exact h1.2.2.1
   obtain ⟨k,hk,hk1,hk2⟩:=sized_nat h6
   rw [hk,countS_eq (by omega)] at g2
   simp at g2;omega
 · rw [partsR_len,proofs_len] at g3
   simp at g3;omega
 · rw [partsR_len] at g2
   rw [partsR_len,proofs_len] at g3
   have h1:announcedS s.no.v s.no.n s.no.t=true:=by simpa using g1
   have h4:anyOther s.ps=false:=by simpa using g4
   rw [soundS,h1,g2,g3,h4,g5];rfl
 · rw [partsR_len] at g2
   rw [partsR_len,proofs_len] at g3
   have h1:announcedS s.no.v s.no.n s.no.t=true:=by simpa using g1
   have h4:anyOther s.ps=false:=by simpa using g4
   rw [soundS,h1,g2,g3,h4,g5];rfl
def cRSound (args:List AV) (K:AV→Prop):Prop:=∃(s:SprT) (z:Bool),args= [spV s]∧(s.ps.length≤9223372036854775807∧z=soundS s)∧K (.d (bo z))
theorem cRSound_ok:∀args K,cRSound args K→∃x,PCall prog 80 args x∧K x:=by
 rintro _ K ⟨s,_,rfl,⟨hl,rfl⟩,h⟩;exact ⟨_,pcRSound s hl,h⟩
def fewSI (s:SprT):Bool:= !decide ((s.ps.length:Int)>20)&&(!decide ((s.qs.length:Int)>20)&&(!decide ((s.rows.length:Int)>40)&&(!decide ((s.pf.length:Int)>40)&&(!anyP s.ps&&(!anyQ s.qs&& !anyR s.rows)))))
theorem pcFew (s:SprT) (ho:RowsOk s):PCall prog 46 [spV s] (.d (bo (fewSI s))):=by
 refine Zcp (n:=100) (u:=false) (fun _=>wl12I) mixed Zah Zad (fun Ev=>wl12_okI) func46 (by rfl) (by rfl) fun Ev bb=> ?_
 rw [few_nf,partsR_len,proofs_len,digR_len]
 refine Zan (fun g=>by rw [fewSI,g];rfl) fun g1=>Zan (fun g=>by rw [fewSI,g1,g];rfl) fun g2=>Zan (fun g=>by rw [fewSI,g1,g2,g];rfl) fun g3=>Zan (fun g=>by rw [fewSI,g1,g2,g3,g];rfl) fun g4=> ?_
 have n1:=of_decide_eq_false g1
 have n2:=of_decide_eq_false g2
 have n3:=of_decide_eq_false g3
 refine ⟨s,_,rfl,rfl,rfl,⟨by omega,rfl⟩,Zan (fun g _=>by rw [fewSI,g1,g2,g3,g4,g];rfl) fun g5 _=>⟨s,_,rfl,rfl,rfl,⟨by omega,rfl⟩,Zan (fun g _=>by rw [fewSI,g1,g2,g3,g4,g5,g];rfl) fun g6 _=>⟨s,_,rfl,rfl,rfl,⟨⟨ho,by omega⟩,rfl⟩,Zan (fun g _=>by rw [fewSI,g1,g2,g3,g4,g5,g6,g];rfl) fun g7 _=>by rw [fewSI,g1,g2,g3,g4,g5,g6,g7];rfl⟩⟩⟩
def cFew (args:List AV) (K:AV→Prop):Prop:=∃(s:SprT) (z:Bool),args= [spV s]∧(RowsOk s∧z=fewSI s)∧K (.d (bo z))
theorem cFew_ok:∀args K,cFew args K→∃x,PCall prog 46 args x∧K x:=by
 rintro _ K ⟨s,_,rfl,⟨hl,rfl⟩,h⟩;exact ⟨_,pcFew s hl,h⟩
def pieceP (p:List Int) (i:Nat):List Int:=(p.drop (i*256)).take 256
theorem pieceP_drop (p:List Int) (i:Nat):pieceP (p.drop 256) i=pieceP p (i+1):=by
 rw [pieceP,pieceP,List.drop_drop];congr 2;omega
theorem chunk_pieces:∀(n:Nat) (p:List Int),p.length≤n→chunkD 256 n p=(Zbe ((p.length+255) / 256)).map (pieceP p)
 | 0,p,h=>by
   have:p= []:=List.length_eq_zero_iff.1 (by omega)
   subst this;rfl
 | n+1,p,h=>by
   rw [chunkD]
   cases hp:p with
   |nil=>rfl
   | cons a l=>
     rw [if_neg (by simp),←hp]
     have hl:1≤p.length:=by rw [hp];simp
     rw [chunk_pieces n (p.drop 256) (by simp;omega)]
     have e:(p.length+255) / 256=((p.drop 256).length+255) / 256+1:=by rw [List.length_drop];omega
     rw [e,List.range_succ_eq_map,Zcv,List.map_map]
     refine congr (congrArg _ ?_) (List.map_congr_left fun i _=>pieceP_drop p i)
     rw [pieceP];simp
theorem split_pieces (p:List Int):splitS p=(Zbe ((p.length+255) / 256)).map fun i=>padS (pieceP p i):=by
 rw [splitS,chunk_pieces _ _ (Zbc _),List.map_map];rfl
theorem piece_len (p:List Int) (i:Nat):(pieceP p i).length≤256:=by rw [pieceP,List.length_take];omega
theorem bytes_row {p:List Int}:∀r∈bytesR p,r.length=1:=by
 intro r hr;simp only [bytesR,Zbh] at hr;obtain ⟨_,_,rfl⟩:=hr;rfl
theorem dropW_nil (f:Int→Bool):∀l:List Int,l.dropWhile f= []↔∀x∈l,f x=true
 | []=>by simp
 | a::l=>by
   rw [Zdj]
   split
   · rename_i h
     rw [dropW_nil f l]
     refine ⟨fun g x hx=> ?_,fun g x hx=>g x (Zau _ hx)⟩
     rcases Zcj.1 hx with rfl|hx
     · exact h
     · exact g x hx
   · rename_i h
     exact ⟨fun g=>(by cases g),fun g=>absurd (g a (Zaw ..)) h⟩
theorem trimS_all (l:List Int):(0<(trimS l).length)↔l.all (· ==0)=false:=by
 have key:trimS l= []↔∀x∈l,x=0:=by
   rw [trimS,dropW_nil]
   constructor
   · intro h x hx
     have hx':x∈l.reverse:=List.mem_reverse.2 hx
     rw [←List.takeWhile_append_dropWhile (p:=(· ==(0:Int))) (l:=l.reverse)] at hx'
     rcases Zce.1 hx' with h1|h1
     · simpa using (Zbf.1 (List.all_takeWhile (p:=(· ==(0:Int))) (l:=l.reverse)) x h1)
     · have:=h x (by rw [trimR,List.mem_reverse];exact h1)
       simpa using this
   · intro h x hx
     rw [trimR,List.mem_reverse] at hx
     have:=h x (List.mem_reverse.1 ((Zev _).subset hx))
     simp [this]
 constructor
 · intro h
   cases hl:l.all (· ==0) with
   |false=>rfl
   | true=>
     have:trimS l= []:=key.2 fun x hx=>by simpa using Zbf.1 hl x hx
     rw [this] at h;simp at h
 · intro h
   apply Classical.byContradiction
   intro hc
   have:trimS l= []:=List.length_eq_zero_iff.1 (by omega)
   have:=key.1 this
   have:l.all (· ==0)=true:=Zbf.2 fun x hx=>by simp [this x hx]
   rw [this] at h;cases h
noncomputable def lp22:Code:=sub [1,1,1,1,1,1,0,1,2,3] (code f60)
def tm22 (p q:List (List Dv)) (i:Int):List AV:= [.bad, .d (.sl 1 p), .d (.sl 1 q), .ptr 0 0, .bad, .bad, .ptr 1 0, .bad, .bad, .ptr 2 0, .d (i64 i)]++Zaf 92 .bad
theorem r22 (s:SprT) (b1:Blk) (p q X Y:List (List Dv)) (i:Int):wpc prog ⟨[], [],wl,y,false⟩ 100 lp22 (tm22 p q i) [blkSI s,b1,outB s (.own 33 1 X) (.own 28 1 Y)] b (maskT [1,2,3,6,9,10] K)=(BIf (decide (i<((Zab (partsR (SprT.ps s)):Nat):Int))) (BIf (true&&decide (0≤i)) (∃(xs0:List (List Dv)),(partsR (SprT.ps s))[Zap i]? =some [Zam 1 xs0]∧BIf (decide (Zab xs0*1≤140737488355328)) (BIf (true&&decide (0≤i)) (∃(xs3:List (List Dv)),(proofsR (SprT.qs s))[Zap i]? =some [Zam 1 xs3]∧BIf (decide (Zab xs3*8≤140737488355328)) (BIf (true&&decide ((Zab X+1)*24≤140737488355328)) (BIf (true&&decide ((Zab Y+1)*24≤140737488355328)) (K .normal (Zav::Zae (Zam 1 p)::Zae (Zam 1 q)::Zaz 0 0::Zav::Zav::Zaz 1 0::Zav::Zav::Zaz 2 0::Zae (i64 (Zaa .i64 (i+1)))::bds 92 []) [Blk.mk (Qz1 s) false false 0,b1,Blk.mk [Zae (i64 (NotT.v (SprT.no s))),Zae (i64 (NotT.n (SprT.no s))),Zae (u64 (NotT.r (SprT.no s))),Zae (i64 (NotT.t (SprT.no s))),Zes 33 1 (X++ [[Zam 1 xs0]]),Zes 28 1 (Y++ [[Zam 1 xs3]]),Zae (Dv.s (.slice none 0 0)),Zae (Dv.s (.slice none 0 0)),Zae (i64 (SprT.i1 s)),Zae (i64 (SprT.i2 s)),Zae (i64 (SprT.i3 s)),Zae (i64 (SprT.i4 s)),Zae (i64 (SprT.i5 s))] false false 0] b) False) False) False) False) False) False) (K (Zet 0) (Zav::Zae (Zam 1 p)::Zae (Zam 1 q)::Zaz 0 0::Zav::Zav::Zaz 1 0::Zav::Zav::Zaz 2 0::Zae (i64 i)::bds 92 []) [Blk.mk (Qz1 s) false false 0,b1,Blk.mk (Qz18 s X Y) false false 0] b)):=by kernel_rfl
theorem split_are {p:List Int} (h:sizedS p.length=true):areS (splitS p)=true:=by
 obtain ⟨k,hk,hk1,hk2⟩:=sized_nat h
 have hl:(splitS p).length=(p.length+255) / 256:=by rw [split_pieces];simp
 have ha:anyLong (splitS p)=false:=by
   rw [anyLong,List.any_eq_false]
   intro q hq
   rw [split_pieces] at hq
   obtain ⟨i,_,rfl⟩:=Zbh.1 hq
   have:=padS_len (piece_len p i)
   simp;omega
 rw [areS,ha,hl]
 have:p.length=k:=by omega
 rw [decide_eq_true (by omega),decide_eq_true (by omega)];rfl
def splitE (p:List Int):List (List Int)×Int:=if sizedS p.length then (splitS p,0) else ([],1)
def cSplitE (args:List AV) (K:AV→Prop):Prop:=∃(p:List Int) (q:List (List Int)) (e:Int),args= [.d (.sl 1 (bytesR p))]∧(p.length≤9223372036854775807∧(q,e)=splitE p)∧K (.tup [.d (.sl 1 (partsR q)), .d (i64 e)])
theorem cSplitE_ok:∀args K,cSplitE args K→∃x,PCall prog 27 args x∧K x:=by
 rintro _ K ⟨p,q,e,rfl,⟨hl,he⟩,h⟩
 have h1:=pcSplit p hl
 rw [splitE] at he
 split at he
 · rename_i hz
   rw [if_pos hz] at h1
   cases he;exact ⟨_,h1,h⟩
 · rename_i hz
   rw [if_neg hz] at h1
   cases he;exact ⟨_,h1,h⟩
def smpF (i:Nat):Int:=Zaa .u8 (Zaa .i64 ((i:Int)*7))
def smp:List Int:=(Zbe 300).map smpF
structure TrT where
 iv:Int
 bg:Int
 fi:Int
 ct:Int
 sd:Int
def trL (t:TrT):List AV:= [.d (i64 t.iv), .d (i64 t.bg), .d (i64 t.fi), .d (i64 t.ct), .d (i64 t.sd)]
def trV (t:TrT):AV:= .agg (trL t)
def trB (t:TrT):Blk:=⟨trL t,false,false,0⟩
def noL (n:NotT):List AV:= [.d (i64 n.v), .d (i64 n.n), .d (u64 n.r), .d (i64 n.t)]
def spL (s:SprT):List AV:= [.d (i64 s.no.v), .d (i64 s.no.n), .d (u64 s.no.r), .d (i64 s.no.t), .d (.sl 1 (partsR s.ps)), .d (.sl 1 (proofsR s.qs)), .d (.sl 2 s.rows), .d (.sl 1 (digR s.pf)), .d (i64 s.i1), .d (i64 s.i2), .d (i64 s.i3), .d (i64 s.i4), .d (i64 s.i5)]
def inS (n lo hi:Int):Bool:=decide (lo≤n)&&decide (n≤hi)
theorem in_nf (n lo hi:Int):wpFn prog ⟨[], [],wl,y,false⟩ 100 f186 [.d (i64 n), .d (i64 lo), .d (i64 hi)] b R=(BIf (decide (n≥lo)) (R (Zae (bo (decide (n≤hi)))) b) (R (Zae (bo false)) b)):=by kernel_rfl
theorem pcIn (n lo hi:Int):PCall prog 186 [.d (i64 n), .d (i64 lo), .d (i64 hi)] (.d (bo (inS n lo hi))):=by
 refine Zba (n:=100) (u:=false) mixed Zah Zad func186 (by rfl) (by rfl) fun Ev bb=> ?_
 rw [in_nf]
 have e:inS n lo hi=(decide (n≥lo)&&decide (n≤hi)):=rfl
 rw [e]
 exact Zan (fun h=>by rw [h];rfl) fun h=>by rw [h];rfl
def cIn (args:List AV) (K:AV→Prop):Prop:=∃(n lo hi:Int),args= [.d (i64 n), .d (i64 lo), .d (i64 hi)]∧K (.d (bo (inS n lo hi)))
theorem cIn_ok:∀args K,cIn args K→∃x,PCall prog 186 args x∧K x:=by
 rintro _ K ⟨n,lo,hi,rfl,h⟩;exact ⟨_,pcIn n lo hi,h⟩
def TIn:List (Nat×(List AV→(AV→Prop)→Prop)):= [(186,cIn)]
theorem TIn_ok:CallsOk prog TIn:=Zag cIn_ok Zah
def tseedS (x:Int):Bool:=inS x 0 1000000000
def frameS (x:Int):Bool:=inS x 0 999999984
theorem tseed_nf (n:Int):wpFn prog ⟨TIn, [],wl,y,false⟩ 100 f140 [.d (i64 n)] b R=(∃(n0:Int) (lo1:Int) (hi2:Int), [Zae (i64 n),Zae (i64 0),Zae (i64 1000000000)]= [Zae (i64 n0),Zae (i64 lo1),Zae (i64 hi2)]∧R (.d (bo (inS n0 lo1 hi2))) b):=by kernel_rfl
theorem frame_nf (n:Int):wpFn prog ⟨TIn, [],wl,y,false⟩ 100 f135 [.d (i64 n)] b R=(∃(n0:Int) (lo1:Int) (hi2:Int), [Zae (i64 n),Zae (i64 0),Zae (i64 999999984)]= [Zae (i64 n0),Zae (i64 lo1),Zae (i64 hi2)]∧R (.d (bo (inS n0 lo1 hi2))) b):=by kernel_rfl
theorem pcTSeed (n:Int):PCall prog 140 [.d (i64 n)] (.d (bo (tseedS n))):=by
 refine Zba (n:=100) (u:=false) mixed TIn_ok Zad func140 (by rfl) (by rfl) fun Ev bb=> ?_
 rw [tseed_nf]
 exact ⟨_,_,_,rfl,rfl⟩
theorem pcFrame (n:Int):PCall prog 135 [.d (i64 n)] (.d (bo (frameS n))):=by
 refine Zba (n:=100) (u:=false) mixed TIn_ok Zad func135 (by rfl) (by rfl) fun Ev bb=> ?_
 rw [frame_nf]
 exact ⟨_,_,_,rfl,rfl⟩
def cTSeed (args:List AV) (K:AV→Prop):Prop:=∃(n:Int),args= [.d (i64 n)]∧K (.d (bo (tseedS n)))
def cFrame (args:List AV) (K:AV→Prop):Prop:=∃(n:Int),args= [.d (i64 n)]∧K (.d (bo (frameS n)))
theorem cTSeed_ok:∀args K,cTSeed args K→∃x,PCall prog 140 args x∧K x:=by
 rintro _ K ⟨n,rfl,h⟩;exact ⟨_,pcTSeed n,h⟩
theorem cFrame_ok:∀args K,cFrame args K→∃x,PCall prog 135 args x∧K x:=by
 rintro _ K ⟨n,rfl,h⟩;exact ⟨_,pcFrame n,h⟩
def TIv:List (Nat×(List AV→(AV→Prop)→Prop)):= [(186,cIn),(135,cFrame),(140,cTSeed)]
theorem TIv_ok:CallsOk prog TIv:=Zag cIn_ok (Zag cFrame_ok (Zag cTSeed_ok Zah))
def TFi:List (Nat×(List AV→(AV→Prop)→Prop)):= [(153,c58)]
theorem TFi_ok:CallsOk prog TFi:=Zag c58_ok Zah
theorem isValid_nf (t:TrT):wpFn prog ⟨TIv, [],wl,y,false⟩ 100 f134 [trV t] b R=(∃(n0:Int) (lo1:Int) (hi2:Int), [Zae (i64 (TrT.iv t)),Zae (i64 1),Zae (i64 8)]= [Zae (i64 n0),Zae (i64 lo1),Zae (i64 hi2)]∧BIf (!inS n0 lo1 hi2) (R (.d (bo false)) b) (BIf (Zaa .i64 ((BitVec.toNat (Zao 64 (TrT.iv t)&&&Zao 64 (Zaa .i64 (TrT.iv t - (1:Int)))):Nat):Int) !=(0:Int)) (R (.d (bo false)) b) (∃(n3:Int), [Zae (i64 (TrT.bg t))]= [Zae (i64 n3)]∧BIf (!frameS n3) (R (.d (bo false)) b) (∃(n4:Int), [Zae (i64 (TrT.sd t))]= [Zae (i64 n4)]∧BIf (!tseedS n4) (R (.d (bo false)) b) (∃(n5:Int) (lo6:Int) (hi7:Int), [Zae (i64 (TrT.fi t)),Zae (i64 (Zaa .i64 (TrT.bg t+Zaa .i64 (Zbi (TrT.iv t) (2:Int))))),Zae (i64 (Zaa .i64 (Zaa .i64 (TrT.bg t+TrT.iv t) - (1:Int))))]= [Zae (i64 n5),Zae (i64 lo6),Zae (i64 hi7)]∧BIf (inS n5 lo6 hi7) (∃(n8:Int) (lo9:Int) (hi10:Int), [Zae (i64 (TrT.ct t)),Zae (i64 0),Zae (i64 100)]= [Zae (i64 n8),Zae (i64 lo9),Zae (i64 hi10)]∧R (.d (bo (inS n8 lo9 hi10))) b) (R (.d (bo false)) b)))))):=by kernel_rfl
theorem below_nf (s n:Int):wpFn prog ⟨TFi, [],wl,y,false⟩ 100 f187 [.d (u64 s), .d (i64 n)] b R=(BIf (decide (n<(1:Int))) (R (.d (i64 0)) b) (BIf (decide (n>(1000000000:Int))) (R (.d (i64 0)) b) (∃(x0:Int), [Zae (u64 s)]= [Zae (u64 x0)]∧BIf (decide (n=(0:Int))||false) False (R (.d (i64 (Int.tmod (firstS x0) n))) b)))):=by kernel_rfl
def validT (t:TrT):Bool:=(decide (t.iv=1)||decide (t.iv=2)||decide (t.iv=4)||decide (t.iv=8))&&frameS t.bg&&tseedS t.sd&&(decide (t.bg+t.iv / 2≤t.fi)&&decide (t.fi≤t.bg+t.iv - 1))&&inS t.ct 0 100
theorem inS_iff {n lo hi:Int}:inS n lo hi=true↔lo≤n∧n≤hi:=by simp [inS]
theorem pow_iff {n:Int} (h:inS n 1 8=true):(Zaa Zaq ((BitVec.toNat (Zao 64 n&&&Zao 64 (Zaa Zaq (n - 1))):Nat):Int) !=0)= !(decide (n=1)||decide (n=2)||decide (n=4)||decide (n=8)):=by
 rw [inS_iff] at h
 obtain ⟨h1,h2⟩:=h
 have:n=1∨n=2∨n=3∨n=4∨n=5∨n=6∨n=7∨n=8:=by omega
 rcases this with rfl|rfl|rfl|rfl|rfl|rfl|rfl|rfl<;>rfl
theorem not_pow {n:Int} (h:inS n 1 8=false):(decide (n=1)||decide (n=2)||decide (n=4)||decide (n=8))=false:=by
 have h':¬(1≤n∧n≤8):=fun hc=>by rw [inS_iff.2 hc] at h;cases h
 simp only [Bool.or_eq_false_iff,decide_eq_false_iff_not]
 omega
theorem validT_iff {t:TrT}:validT t=true↔(t.iv=1∨t.iv=2∨t.iv=4∨t.iv=8)∧(0≤t.bg∧t.bg≤999999984)∧(0≤t.sd∧t.sd≤1000000000)∧(t.bg+t.iv / 2≤t.fi∧t.fi≤t.bg+t.iv - 1)∧0≤t.ct∧t.ct≤100:=by
 simp only [validT,Zak,Bool.or_eq_true,decide_eq_true_eq,frameS,tseedS,inS_iff,and_assoc,or_assoc]
theorem nbt {x:Bool} (h:(!x)=true):x=false:=by cases x<;>first|rfl|cases h
theorem nbf {x:Bool} (h:(!x)=false):x=true:=by cases x<;>first|rfl|cases h
theorem wr64 {x:Int} (h1: -9223372036854775808≤x) (h2:x≤9223372036854775807):Zaa .i64 x=x:=wrap_i64 h1 (by omega)
theorem pcIsValid (t:TrT):PCall prog 134 [trV t] (.d (bo (validT t))):=by
 refine Zba (n:=100) (u:=false) mixed TIv_ok Zad func134 (by rfl) (by rfl) fun Ev bb=> ?_
 rw [isValid_nf]
 refine ⟨_,_,_,rfl,Zan (fun g=> ?_) fun g1=>Zan (fun g=> ?_) fun g2=>⟨_,rfl,Zan (fun g=> ?_) fun g3=>⟨_,rfl,Zan (fun g=> ?_) fun g4=>⟨_,_,_,rfl, ?_⟩⟩⟩⟩
 · have g:inS t.iv 1 8=false:=by simpa using g
   rw [show validT t=false by simp only [validT,not_pow g,Bool.false_and]]
 · have g1:inS t.iv 1 8=true:=by simpa using g1
   rw [pow_iff g1] at g
   rw [show validT t=false by simp only [validT,nbt g,Bool.false_and]]
 · rw [show validT t=false by simp only [validT,nbt g,Bool.false_and,Bool.and_false]]
 · rw [show validT t=false by simp only [validT,nbt g,Bool.false_and,Bool.and_false]]
 · have g1:inS t.iv 1 8=true:=by simpa using g1
   rw [pow_iff g1] at g2
   have g3:frameS t.bg=true:=by simpa using g3
   have g4:tseedS t.sd=true:=by simpa using g4
   have g2:(decide (t.iv=1)||decide (t.iv=2)||decide (t.iv=4)||decide (t.iv=8))=true:=nbf g2
   have b1:=inS_iff.1 g1
   have b3:=inS_iff.1 g3
   have e1:Zaa Zaq (t.bg+Zaa Zaq (Zbi t.iv 2))=t.bg+t.iv / 2:=by
     rw [Zcs (by omega),wr64 (x:=t.iv / 2) (by omega) (by omega),wr64 (by omega) (by omega)]
   have e2:Zaa Zaq (Zaa Zaq (t.bg+t.iv) - 1)=t.bg+t.iv - 1:=by
     rw [wr64 (x:=t.bg+t.iv) (by omega) (by omega),wr64 (by omega) (by omega)]
   have ev:validT t=(inS t.fi (t.bg+t.iv / 2) (t.bg+t.iv - 1)&&inS t.ct 0 100):=by
     simp only [validT,g2,g3,g4,Bool.true_and];rfl
   rw [e1,e2,ev]
   refine Zan (fun h=> ?_) fun h=> ?_
   · rw [h,Bool.true_and];exact ⟨_,_,_,rfl,rfl⟩
   · rw [h];rfl
def cIsValid (args:List AV) (K:AV→Prop):Prop:=∃(t:TrT),args= [trV t]∧K (.d (bo (validT t)))
theorem cIsValid_ok:∀args K,cIsValid args K→∃x,PCall prog 134 args x∧K x:=by
 rintro _ K ⟨n,rfl,h⟩;exact ⟨_,pcIsValid n,h⟩
def belowS (s n:Int):Int:=if n<1∨n>1000000000 then 0 else Int.tmod (firstS s) n
theorem pcBelow (s n:Int):PCall prog 187 [.d (u64 s), .d (i64 n)] (.d (i64 (belowS s n))):=by
 refine Zba (n:=100) (u:=false) mixed TFi_ok Zad func187 (by rfl) (by rfl) fun Ev bb=> ?_
 rw [below_nf]
 refine Zan (fun h=> ?_) fun h1=>Zan (fun h=> ?_) fun h2=>⟨_,rfl,Zct ?_ ?_⟩
 · rw [belowS,if_pos (.inl (of_decide_eq_true h))]
 · rw [belowS,if_pos (.inr (of_decide_eq_true h))]
 · have h1:=of_decide_eq_false h1
   simp;omega
 · have h1:=of_decide_eq_false h1
   have h2:=of_decide_eq_false h2
   rw [belowS,if_neg (by omega)]
def cBelow (args:List AV) (K:AV→Prop):Prop:=∃(s n:Int),args= [.d (u64 s), .d (i64 n)]∧K (.d (i64 (belowS s n)))
theorem cBelow_ok:∀args K,cBelow args K→∃x,PCall prog 187 args x∧K x:=by
 rintro _ K ⟨s,n,rfl,h⟩;exact ⟨_,pcBelow s n,h⟩
def TBe:List (Nat×(List AV→(AV→Prop)→Prop)):= [(187,cBelow)]
theorem TBe_ok:CallsOk prog TBe:=Zag cBelow_ok Zah
theorem begin2_nf (b0:Blk) (t:TrT) (l f:Int):wpc prog ⟨TBe, [],wl,y,false⟩ 100 (code f136) (startTm f136 [.ptr 1 0, .d (i64 l), .d (i64 f)]) [b0,trB t] b (fnKS prog f136 RS)=(∃(s0:Int) (n1:Int), [Zae (u64 (Zaa .u64 (Zaa .u64 ((1000003:Int)*Zaa .u64 (TrT.sd t))+Zaa .u64 f))),Zae (i64 (Zaa .i64 (l - Zaa .i64 (Zbi l (2:Int)))))]= [Zae (u64 s0),Zae (i64 n1)]∧RS (AV.tup []) [b0,Blk.mk [Zae (i64 l),Zae (i64 f),Zae (i64 (Zaa .i64 (Zaa .i64 (f+Zaa .i64 (Zbi l (2:Int)))+belowS s0 n1))),Zae (i64 0),Zae (i64 (TrT.sd t))] false false 0] b):=by kernel_rfl
theorem begin3_nf (b0 b1:Blk) (t:TrT) (l f:Int):wpc prog ⟨TBe, [],wl,y,false⟩ 100 (code f136) (startTm f136 [.ptr 2 0, .d (i64 l), .d (i64 f)]) [b0,b1,trB t] b (fnKS prog f136 RS)=(∃(s0:Int) (n1:Int), [Zae (u64 (Zaa .u64 (Zaa .u64 ((1000003:Int)*Zaa .u64 (TrT.sd t))+Zaa .u64 f))),Zae (i64 (Zaa .i64 (l - Zaa .i64 (Zbi l (2:Int)))))]= [Zae (u64 s0),Zae (i64 n1)]∧RS (AV.tup []) [b0,b1,Blk.mk [Zae (i64 l),Zae (i64 f),Zae (i64 (Zaa .i64 (Zaa .i64 (f+Zaa .i64 (Zbi l (2:Int)))+belowS s0 n1))),Zae (i64 0),Zae (i64 (TrT.sd t))] false false 0] b):=by kernel_rfl
theorem belowS_range (s:Int) {n:Int} (h1:1≤n) (h2:n≤1000000000):0≤belowS s n∧belowS s n<n:=by
 have h:=firstS_range s
 rw [belowS,if_neg (by omega),Int.tmod_eq_emod_of_nonneg h.1]
 exact ⟨Int.emod_nonneg _ (by omega),Int.emod_lt_of_pos _ (by omega)⟩
def beginS (sd l f:Int):TrT:=⟨l,f,f+l / 2+belowS (1000003*sd+f) (l - l / 2),0,sd⟩
def lenS (l:Int):Prop:=l=1∨l=2∨l=4∨l=8
theorem begin_valid {sd l f:Int} (hl:lenS l) (hf:frameS f=true) (hs:tseedS sd=true):validT (beginS sd l f)=true:=by
 have hf:=inS_iff.1 hf
 have hs:=inS_iff.1 hs
 unfold lenS at hl
 have hb:=belowS_range (1000003*sd+f) (n:=l - l / 2) (by omega) (by omega)
 rw [validT_iff]
 refine ⟨hl,hf,hs,⟨?_, ?_⟩,by simp [beginS],by simp [beginS]⟩<;>(simp only [beginS];omega)
theorem begin_eq {sd l f:Int} (hl:lenS l) (hf:frameS f=true) (hs:tseedS sd=true):
   Zaa IntKind.u64 (Zaa IntKind.u64 (1000003*Zaa IntKind.u64 sd)+Zaa IntKind.u64 f)=1000003*sd+f∧
   Zaa Zaq (l - Zaa Zaq (Zbi l 2))=l - l / 2∧
   Zaa Zaq (Zaa Zaq (f+Zaa Zaq (Zbi l 2))+belowS (1000003*sd+f) (l - l / 2))=f+l / 2+belowS (1000003*sd+f) (l - l / 2):=by
 have hf:=inS_iff.1 hf
 have hs:=inS_iff.1 hs
 unfold lenS at hl
 have hb:=belowS_range (1000003*sd+f) (n:=l - l / 2) (by omega) (by omega)
 have e1:Zaa Zaq (Zbi l 2)=l / 2:=by
   rw [Zcs (by omega),wr64 (by omega) (by omega)]
 rw [e1]
 refine ⟨?_,wr64 (by omega) (by omega), ?_⟩
 · rw [wrap_u64 (x:=sd) (by omega) (by omega),wrap_u64 (x:=f) (by omega) (by omega),wrap_u64 (x:=1000003*sd) (by omega) (by omega),wrap_u64 (by omega) (by omega)]
 · rw [wr64 (x:=f+l / 2) (by omega) (by omega),wr64 (by omega) (by omega)]
theorem begin_body:Tryz.f136.body=some (code f136):=by rfl
theorem scBegin2 (b0:Blk) (t:TrT) (l f:Int) (hl:lenS l) (hf:frameS f=true) (hs:tseedS t.sd=true):SCall prog 136 [.ptr 1 0, .d (i64 l), .d (i64 f)] [b0,trB t] (.tup []) [b0,trB (beginS t.sd l f)]:=by
 refine Zeq (n:=100) (u:=false) mixed TBe_ok Zad func136 begin_body (by rfl) fun Ev b=> ?_
 rw [begin2_nf]
 obtain ⟨e1,e2,e3⟩:=begin_eq hl hf hs
 rw [e1,e2]
 refine ⟨_,_,rfl,rfl, ?_⟩
 rw [e3];rfl
theorem scBegin3 (b0 b1:Blk) (t:TrT) (l f:Int) (hl:lenS l) (hf:frameS f=true) (hs:tseedS t.sd=true):SCall prog 136 [.ptr 2 0, .d (i64 l), .d (i64 f)] [b0,b1,trB t] (.tup []) [b0,b1,trB (beginS t.sd l f)]:=by
 refine Zeq (n:=100) (u:=false) mixed TBe_ok Zad func136 begin_body (by rfl) fun Ev b=> ?_
 rw [begin3_nf]
 obtain ⟨e1,e2,e3⟩:=begin_eq hl hf hs
 rw [e1,e2]
 refine ⟨_,_,rfl,rfl, ?_⟩
 rw [e3];rfl
def sBegin (args:List AV) (hp:List Blk) (K:AV→List Blk→Prop):Prop:=match hp with
 | [b0,b1]=>∃(t:TrT) (l f:Int),args= [.ptr 1 0, .d (i64 l), .d (i64 f)]∧b1=trB t∧(lenS l∧frameS f=true∧tseedS t.sd=true)∧K (.tup []) [b0,trB (beginS t.sd l f)]
 | [b0,b1,b2]=>∃(t:TrT) (l f:Int),args= [.ptr 2 0, .d (i64 l), .d (i64 f)]∧b2=trB t∧(lenS l∧frameS f=true∧tseedS t.sd=true)∧K (.tup []) [b0,b1,trB (beginS t.sd l f)]
 |_=>False
theorem sBegin_ok:∀args hp K,sBegin args hp K→∃x hp',SCall prog 136 args hp x hp'∧K x hp':=by
 intro args hp K h
 unfold sBegin at h
 split at h
 · obtain ⟨t,l,f,rfl,rfl,⟨h1,h2,h3⟩,h⟩:=h
   exact ⟨_,_,scBegin2 _ t l f h1 h2 h3,h⟩
 · obtain ⟨t,l,f,rfl,rfl,⟨h1,h2,h3⟩,h⟩:=h
   exact ⟨_,_,scBegin3 _ _ t l f h1 h2 h3,h⟩
 · exact h.elim
def TTi:List (Nat×(List AV→(AV→Prop)→Prop)):= [(140,cTSeed),(135,cFrame),(134,cIsValid)]
theorem TTi_ok:CallsOk prog TTi:=Zag cTSeed_ok (Zag cFrame_ok (Zag cIsValid_ok Zah))
def STi:List (Nat×(List AV→List Blk→(AV→List Blk→Prop)→Prop)):= [(136,sBegin)]
theorem STi_ok:SCallsOk prog STi:=Zbt sBegin_ok Zad
abbrev Qz32:List AV:= [Zbp [Zae (i64 0),Zae (i64 0),Zae (i64 0),Zae (i64 0),Zae (i64 0)],Zae (i64 1)]
theorem tNew_nf (s f:Int):wpFn prog ⟨TTi,STi,wl,y,false⟩ 100 f72 [.d (i64 s), .d (i64 f)] b R=(∃(n0:Int), [Zae (i64 s)]= [Zae (i64 n0)]∧BIf (!tseedS n0) (R (.tup Qz32) b) (∃(n1:Int), [Zae (i64 f)]= [Zae (i64 n1)]∧BIf (!frameS n1) (R (.tup Qz32) b) (∃(t2:TrT) (l3:Int) (f4:Int), [Zaz 1 0,Zae (i64 1),Zae (i64 f)]= [Zaz 1 0,Zae (i64 l3),Zae (i64 f4)]∧Blk.mk [Zae (i64 0),Zae (i64 0),Zae (i64 0),Zae (i64 0),Zae (i64 s)] false false 0=Blk.mk (trL t2) false false 0∧((l3=(1:Int)∨l3=(2:Int)∨l3=(4:Int)∨l3=(8:Int))∧frameS f4=true∧tseedS (TrT.sd t2)=true)∧R (.tup [Zbp (trL (beginS (TrT.sd t2) l3 f4)),Zae (i64 0)]) b))):=by kernel_rfl
theorem tReset_nf (t:TrT) (f:Int):wpFn prog ⟨TTi,STi,wl,y,false⟩ 100 f73 [trV t, .d (i64 f)] b R=(∃(t0:TrT), [Zbp (trL t)]= [Zbp (trL t0)]∧BIf (!validT t0) (R (.agg (trL t)) b) (∃(n1:Int), [Zae (i64 f)]= [Zae (i64 n1)]∧BIf (!frameS n1) (R (.agg (trL t)) b) (BIf (TrT.iv t==(1:Int)) (R (.agg (trL t)) b) (∃(t2:TrT) (l3:Int) (f4:Int), [Zaz 2 0,Zae (i64 1),Zae (i64 f)]= [Zaz 2 0,Zae (i64 l3),Zae (i64 f4)]∧Blk.mk (trL t) false false 0=Blk.mk (trL t2) false false 0∧((l3=(1:Int)∨l3=(2:Int)∨l3=(4:Int)∨l3=(8:Int))∧frameS f4=true∧tseedS (TrT.sd t2)=true)∧R (.agg (trL (beginS (TrT.sd t2) l3 f4))) b)))):=by kernel_rfl
theorem tHear_nf (t:TrT):wpFn prog ⟨TTi,STi,wl,y,false⟩ 100 f74 [trV t] b R=(∃(t0:TrT), [Zbp (trL t)]= [Zbp (trL t0)]∧BIf (validT t0) (∃(z1:Int),(z1=if Zaa .i64 (TrT.ct t+(1:Int))<(100:Int) then Zaa .i64 (TrT.ct t+(1:Int)) else (100:Int))∧R (.agg [Zae (i64 (TrT.iv t)),Zae (i64 (TrT.bg t)),Zae (i64 (TrT.fi t)),Zae (i64 z1),Zae (i64 (TrT.sd t))]) b) (R (.agg (trL t)) b)):=by kernel_rfl
theorem tTick_nf (t:TrT) (f:Int):wpFn prog ⟨TTi,STi,wl,y,false⟩ 100 f63 [trV t, .d (i64 f)] b R=(∃(t0:TrT), [Zbp (trL t)]= [Zbp (trL t0)]∧BIf (!validT t0) (R (.tup [Zbp (trL t),Zae (bo false)]) b) (∃(n1:Int), [Zae (i64 f)]= [Zae (i64 n1)]∧BIf (!frameS n1) (R (.tup [Zbp (trL t),Zae (bo false)]) b) (BIf (decide (f<TrT.bg t)) (R (.tup [Zbp (trL t),Zae (bo false)]) b) (BIf (decide (f≥Zaa .i64 (TrT.bg t+TrT.iv t))) (∃(z2:Int),(z2=if Zaa .i64 ((2:Int)*TrT.iv t)<(8:Int) then Zaa .i64 ((2:Int)*TrT.iv t) else (8:Int))∧∃(t3:TrT) (l4:Int) (f5:Int), [Zaz 2 0,Zae (i64 z2),Zae (i64 f)]= [Zaz 2 0,Zae (i64 l4),Zae (i64 f5)]∧Blk.mk (trL t) false false 0=Blk.mk (trL t3) false false 0∧((l4=(1:Int)∨l4=(2:Int)∨l4=(4:Int)∨l4=(8:Int))∧frameS f5=true∧tseedS (TrT.sd t3)=true)∧BIf (f==TrT.fi (beginS (TrT.sd t3) l4 f5)) (R (.tup [Zbp (trL (beginS (TrT.sd t3) l4 f5)),Zae (bo true)]) b) (R (.tup [Zbp (trL (beginS (TrT.sd t3) l4 f5)),Zae (bo false)]) b)) (BIf (f==TrT.fi t) (R (.tup [Zbp (trL t),Zae (bo (decide (TrT.ct t<(2:Int))))]) b) (R (.tup [Zbp (trL t),Zae (bo false)]) b)))))):=by kernel_rfl
def zeroT:TrT:=⟨0,0,0,0,0⟩
def newT (s f:Int):TrT×Int:=if tseedS s&&frameS f then (beginS s 1 f,0) else (zeroT,1)
def resetT (t:TrT) (f:Int):TrT:=if validT t&&frameS f&& !(t.iv==1) then beginS t.sd 1 f else t
def hearT (t:TrT):TrT:=if validT t then ⟨t.iv,t.bg,t.fi,min 100 (t.ct+1),t.sd⟩ else t
def laterT (t:TrT) (f:Int):TrT:=if t.bg+t.iv≤f then beginS t.sd (min 8 (2*t.iv)) f else t
def tickT (t:TrT) (f:Int):TrT×Bool:=if validT t&&frameS f&&decide (t.bg≤f) then (laterT t f,f==(laterT t f).fi&&decide ((laterT t f).ct<2)) else (t,false)
theorem pcTNew (s f:Int):PCall prog 72 [.d (i64 s), .d (i64 f)] (.tup [trV (newT s f).1, .d (i64 (newT s f).2)]):=by
 refine Zba (n:=100) (u:=false) mixed TTi_ok STi_ok func72 (by rfl) (by rfl) fun Ev bb=> ?_
 rw [tNew_nf]
 refine ⟨_,rfl,Zan (fun g=> ?_) fun g1=>⟨_,rfl,Zan (fun g=> ?_) fun g2=> ?_⟩⟩
 · rw [newT,nbt g];rfl
 · rw [newT,nbt g,Bool.and_false];rfl
 · refine ⟨⟨0,0,0,0,s⟩,_,_,rfl,rfl,⟨.inl rfl,nbf g2,nbf g1⟩, ?_⟩
   rw [newT,nbf g1,nbf g2];rfl
def cTNew (args:List AV) (K:AV→Prop):Prop:=∃(s f:Int) (z:TrT) (e:Int),args= [.d (i64 s), .d (i64 f)]∧(z,e)=newT s f∧K (.tup [trV z, .d (i64 e)])
theorem cTNew_ok:∀args K,cTNew args K→∃x,PCall prog 72 args x∧K x:=by
 rintro _ K ⟨s,f,z,e,rfl,he,h⟩
 have:=pcTNew s f
 rw [←he] at this
 exact ⟨_,this,h⟩
theorem seed_of {t:TrT} (h:validT t=true):tseedS t.sd=true:=inS_iff.2 (validT_iff.1 h).2.2.1
theorem pcTReset (t:TrT) (f:Int):PCall prog 73 [trV t, .d (i64 f)] (trV (resetT t f)):=by
 refine Zba (n:=100) (u:=false) mixed TTi_ok STi_ok func73 (by rfl) (by rfl) fun Ev bb=> ?_
 rw [tReset_nf]
 refine ⟨t,rfl,Zan (fun g=> ?_) fun g1=>⟨_,rfl,Zan (fun g=> ?_) fun g2=>Zan (fun g=> ?_) fun g3=> ?_⟩⟩
 · rw [resetT,nbt g];rfl
 · rw [resetT,nbt g,Bool.and_false];rfl
 · rw [resetT,g,Bool.not_true,Bool.and_false];rfl
 · refine ⟨t,_,_,rfl,rfl,⟨.inl rfl,nbf g2,seed_of (nbf g1)⟩, ?_⟩
   rw [resetT,nbf g1,nbf g2,g3];rfl
def cTReset (args:List AV) (K:AV→Prop):Prop:=∃(t:TrT) (f:Int) (z:TrT),args= [trV t, .d (i64 f)]∧z=resetT t f∧K (trV z)
theorem cTReset_ok:∀args K,cTReset args K→∃x,PCall prog 73 args x∧K x:=by
 rintro _ K ⟨t,f,_,rfl,rfl,h⟩;exact ⟨_,pcTReset t f,h⟩
theorem pcTHear (t:TrT):PCall prog 74 [trV t] (trV (hearT t)):=by
 refine Zba (n:=100) (u:=false) mixed TTi_ok STi_ok func74 (by rfl) (by rfl) fun Ev bb=> ?_
 rw [tHear_nf]
 refine ⟨t,rfl,Zan (fun g=>⟨_,rfl, ?_⟩) fun g=> ?_⟩
 · have h:=validT_iff.1 g
   rw [hearT,g,if_pos rfl,wr64 (by omega) (by omega)]
   have e:(if t.ct+1<100 then t.ct+1 else 100)=min 100 (t.ct+1):=by omega
   rw [e];rfl
 · rw [hearT,g];rfl
def cTHear (args:List AV) (K:AV→Prop):Prop:=∃(t z:TrT),args= [trV t]∧z=hearT t∧K (trV z)
theorem cTHear_ok:∀args K,cTHear args K→∃x,PCall prog 74 args x∧K x:=by
 rintro _ K ⟨t,_,rfl,rfl,h⟩;exact ⟨_,pcTHear t,h⟩
theorem tick_step {t:TrT} {f:Int} (h:validT t=true) (hf:frameS f=true):Zaa .i64 (t.bg+t.iv)=t.bg+t.iv∧(if Zaa Zaq (2*t.iv)<8 then Zaa Zaq (2*t.iv) else 8)=min 8 (2*t.iv)∧lenS (min 8 (2*t.iv)):=by
 have h:=validT_iff.1 h
 refine ⟨wr64 (by omega) (by omega), ?_, ?_⟩
 · rw [wr64 (by omega) (by omega)];omega
 · unfold lenS;omega
theorem pcTTick (t:TrT) (f:Int):PCall prog 63 [trV t, .d (i64 f)] (.tup [trV (tickT t f).1, .d (bo (tickT t f).2)]):=by
 refine Zba (n:=100) (u:=false) mixed TTi_ok STi_ok func63 (by rfl) (by rfl) fun Ev bb=> ?_
 rw [tTick_nf]
 refine ⟨t,rfl,Zan (fun g=> ?_) fun g1=>⟨_,rfl,Zan (fun g=> ?_) fun g2=>Zan (fun g=> ?_) fun g3=> ?_⟩⟩
 · rw [tickT,nbt g];rfl
 · rw [tickT,nbt g,Bool.and_false];rfl
 · have g:=of_decide_eq_true g
   rw [tickT,decide_eq_false (p:=t.bg≤f) (by omega),Bool.and_false];rfl
 have g3:=of_decide_eq_false g3
 obtain ⟨e1,e2,e3⟩:=tick_step (nbf g1) (nbf g2)
 have e:tickT t f=(laterT t f,f==(laterT t f).fi&&decide ((laterT t f).ct<2)):=by rw [tickT,nbf g1,nbf g2,decide_eq_true (p:=t.bg≤f) (by omega)];rfl
 rw [e,e1,e2]
 refine Zan (fun g=> ?_) fun g=> ?_
 · have el:laterT t f=beginS t.sd (min 8 (2*t.iv)) f:=by rw [laterT,if_pos (by simpa using g)]
   rw [el]
   refine ⟨_,rfl,t,_,_,rfl,rfl,⟨e3,nbf g2,seed_of (nbf g1)⟩,Zan (fun h=> ?_) fun h=> ?_⟩
   · rw [h];rfl
   · rw [h];rfl
 · have el:laterT t f=t:=by rw [laterT,if_neg (by simpa using g)]
   rw [el]
   refine Zan (fun h=> ?_) fun h=> ?_
   · rw [h];rfl
   · rw [h];rfl
def cTTick (args:List AV) (K:AV→Prop):Prop:=∃(t:TrT) (f:Int) (z:TrT) (e:Bool),args= [trV t, .d (i64 f)]∧(z,e)=tickT t f∧K (.tup [trV z, .d (bo e)])
theorem cTTick_ok:∀args K,cTTick args K→∃x,PCall prog 63 args x∧K x:=by
 rintro _ K ⟨t,f,z,e,rfl,he,h⟩
 have:=pcTTick t f
 rw [←he] at this
 exact ⟨_,this,h⟩
def TRb:List (Nat×(List AV→(AV→Prop)→Prop)):= [(216,cNextR),(215,cHalfR)]
theorem TRb_ok:CallsOk prog TRb:=Zag cNextR_ok (Zag cHalfR_ok Zah)
theorem belowR_nf (s n:Int):wpFn prog ⟨TRb, [],wl,y,false⟩ 100 f188 [.d (u64 s), .d (i64 n)] b R=(BIf (decide (n<(1:Int))) (R (.d (i64 0)) b) (BIf (decide (n>(1000000000:Int))) (R (.d (i64 0)) b) (∃(x0:Int), [Zae (u64 s)]= [Zae (u64 x0)]∧∃(x1:Int), [Zae (u64 (nextS x0))]= [Zae (u64 x1)]∧BIf (decide (n=(0:Int))||false) False (R (.d (i64 (Int.tmod (halfS x1) n))) b)))):=by kernel_rfl
theorem rframe_nf (n:Int):wpFn prog ⟨[], [],wl,y,false⟩ 100 f26 [.d (i64 n)] b R=(BIf (decide (n≥(0:Int))) (R (Zae (bo (decide (n≤(999999984:Int))))) b) (R (Zae (bo false)) b)):=by kernel_rfl
theorem pcRBelow (s n:Int):PCall prog 188 [.d (u64 s), .d (i64 n)] (.d (i64 (belowS s n))):=by
 refine Zba (n:=100) (u:=false) mixed TRb_ok Zad func188 (by rfl) (by rfl) fun Ev bb=> ?_
 rw [belowR_nf]
 refine Zan (fun h=> ?_) fun h1=>Zan (fun h=> ?_) fun h2=>⟨_,rfl,_,rfl,Zct ?_ ?_⟩
 · rw [belowS,if_pos (.inl (of_decide_eq_true h))]
 · rw [belowS,if_pos (.inr (of_decide_eq_true h))]
 · have h1:=of_decide_eq_false h1
   simp;omega
 · have h1:=of_decide_eq_false h1
   have h2:=of_decide_eq_false h2
   rw [belowS,if_neg (by omega)];rfl
def cRBelow (args:List AV) (K:AV→Prop):Prop:=∃(s n:Int),args= [.d (u64 s), .d (i64 n)]∧K (.d (i64 (belowS s n)))
theorem cRBelow_ok:∀args K,cRBelow args K→∃x,PCall prog 188 args x∧K x:=by
 rintro _ K ⟨s,n,rfl,h⟩;exact ⟨_,pcRBelow s n,h⟩
theorem pcRFrame (n:Int):PCall prog 26 [.d (i64 n)] (.d (bo (frameS n))):=by
 refine Zba (n:=100) (u:=false) mixed Zah Zad func26 (by rfl) (by rfl) fun Ev bb=> ?_
 rw [rframe_nf]
 have e:frameS n=(decide (n≥0)&&decide (n≤999999984)):=rfl
 rw [e]
 exact Zan (fun h=>by rw [h];rfl) fun h=>by rw [h];rfl
def cRFrame (args:List AV) (K:AV→Prop):Prop:=∃(n:Int) (z:Bool),args= [.d (i64 n)]∧z=frameS n∧K (.d (bo z))
theorem cRFrame_ok:∀args K,cRFrame args K→∃x,PCall prog 26 args x∧K x:=by
 rintro _ K ⟨n,_,rfl,rfl,h⟩;exact ⟨_,pcRFrame n,h⟩
def TRv:List (Nat×(List AV→(AV→Prop)→Prop)):= [(26,cRFrame),(188,cRBelow)]
theorem TRv_ok:CallsOk prog TRv:=Zag cRFrame_ok (Zag cRBelow_ok Zah)
theorem rvalid_nf (t:TrT):wpFn prog ⟨TRv, [],wl,y,false⟩ 100 f82 [trV t] b R=(∃(n0:Int) (z1:Bool), [Zae (i64 (TrT.bg t))]= [Zae (i64 n0)]∧z1=frameS n0∧BIf (TrT.iv t !=(1:Int)) (BIf (TrT.iv t !=(2:Int)) (BIf (TrT.iv t !=(4:Int)) (BIf (TrT.iv t !=(8:Int)) (R (.d (bo false)) b) (BIf (!z1) (R (.d (bo false)) b) (BIf (decide (TrT.sd t<(0:Int))) (R (.d (bo false)) b) (BIf (decide (TrT.sd t>(1000000000:Int))) (R (.d (bo false)) b) (BIf (decide (TrT.ct t<(0:Int))) (R (.d (bo false)) b) (BIf (decide (TrT.ct t>(100:Int))) (R (.d (bo false)) b) (BIf (decide (TrT.fi t≥Zaa .i64 (TrT.bg t+Zaa .i64 (Zbi (TrT.iv t) (2:Int))))) (R (.d (bo (decide (TrT.fi t≤Zaa .i64 (Zaa .i64 (TrT.bg t+TrT.iv t) - (1:Int)))))) b) (R (.d (bo false)) b)))))))) (BIf (!z1) (R (.d (bo false)) b) (BIf (decide (TrT.sd t<(0:Int))) (R (.d (bo false)) b) (BIf (decide (TrT.sd t>(1000000000:Int))) (R (.d (bo false)) b) (BIf (decide (TrT.ct t<(0:Int))) (R (.d (bo false)) b) (BIf (decide (TrT.ct t>(100:Int))) (R (.d (bo false)) b) (BIf (decide (TrT.fi t≥Zaa .i64 (TrT.bg t+Zaa .i64 (Zbi (TrT.iv t) (2:Int))))) (R (.d (bo (decide (TrT.fi t≤Zaa .i64 (Zaa .i64 (TrT.bg t+TrT.iv t) - (1:Int)))))) b) (R (.d (bo false)) b)))))))) (BIf (!z1) (R (.d (bo false)) b) (BIf (decide (TrT.sd t<(0:Int))) (R (.d (bo false)) b) (BIf (decide (TrT.sd t>(1000000000:Int))) (R (.d (bo false)) b) (BIf (decide (TrT.ct t<(0:Int))) (R (.d (bo false)) b) (BIf (decide (TrT.ct t>(100:Int))) (R (.d (bo false)) b) (BIf (decide (TrT.fi t≥Zaa .i64 (TrT.bg t+Zaa .i64 (Zbi (TrT.iv t) (2:Int))))) (R (.d (bo (decide (TrT.fi t≤Zaa .i64 (Zaa .i64 (TrT.bg t+TrT.iv t) - (1:Int)))))) b) (R (.d (bo false)) b)))))))) (BIf (!z1) (R (.d (bo false)) b) (BIf (decide (TrT.sd t<(0:Int))) (R (.d (bo false)) b) (BIf (decide (TrT.sd t>(1000000000:Int))) (R (.d (bo false)) b) (BIf (decide (TrT.ct t<(0:Int))) (R (.d (bo false)) b) (BIf (decide (TrT.ct t>(100:Int))) (R (.d (bo false)) b) (BIf (decide (TrT.fi t≥Zaa .i64 (TrT.bg t+Zaa .i64 (Zbi (TrT.iv t) (2:Int))))) (R (.d (bo (decide (TrT.fi t≤Zaa .i64 (Zaa .i64 (TrT.bg t+TrT.iv t) - (1:Int)))))) b) (R (.d (bo false)) b)))))))):=by kernel_rfl
theorem rtail (t:TrT) (K:AV→Prop) (hl:lenS t.iv) (hK:K (.d (bo (validT t)))):
   BIf (!frameS t.bg) (K (.d (bo false))) (BIf (decide (t.sd<0)) (K (.d (bo false))) (BIf (decide (t.sd>1000000000)) (K (.d (bo false))) (BIf (decide (t.ct<0)) (K (.d (bo false))) (BIf (decide (t.ct>100)) (K (.d (bo false)))
     (BIf (decide (t.fi≥Zaa Zaq (t.bg+Zaa Zaq (Zbi t.iv 2)))) (K (.d (bo (decide (t.fi≤Zaa Zaq (Zaa Zaq (t.bg+t.iv) - 1)))))) (K (.d (bo false)))))))):=by
 have no:¬validT t=true→K (.d (bo false)):=fun h=>by rw [Zcr.2 h] at hK;exact hK
 unfold lenS at hl
 refine Zan (fun g=>no fun h=> ?_) fun g1=>Zan (fun g=>no fun h=> ?_) fun g2=>Zan (fun g=>no fun h=> ?_) fun g3=>Zan (fun g=>no fun h=> ?_) fun g4=>Zan (fun g=>no fun h=> ?_) fun g5=> ?_
 · have:=validT_iff.1 h
   rw [frameS,inS_iff.2 this.2.1] at g;cases g
 · have:=validT_iff.1 h;have:=of_decide_eq_true g;omega
 · have:=validT_iff.1 h;have:=of_decide_eq_true g;omega
 · have:=validT_iff.1 h;have:=of_decide_eq_true g;omega
 · have:=validT_iff.1 h;have:=of_decide_eq_true g;omega
 have b1:=inS_iff.1 (nbf g1)
 have g2:=of_decide_eq_false g2
 have g3:=of_decide_eq_false g3
 have g4:=of_decide_eq_false g4
 have g5:=of_decide_eq_false g5
 have e1:Zaa Zaq (t.bg+Zaa Zaq (Zbi t.iv 2))=t.bg+t.iv / 2:=by
   rw [Zcs (by omega),wr64 (x:=t.iv / 2) (by omega) (by omega),wr64 (by omega) (by omega)]
 have e2:Zaa Zaq (Zaa Zaq (t.bg+t.iv) - 1)=t.bg+t.iv - 1:=by
   rw [wr64 (x:=t.bg+t.iv) (by omega) (by omega),wr64 (by omega) (by omega)]
 rw [e1,e2]
 refine Zan (fun g=> ?_) fun g=>no fun h=> ?_
 · have g:=of_decide_eq_true g
   have e:decide (t.fi≤t.bg+t.iv - 1)=validT t:=by
     rw [Bool.eq_iff_iff,validT_iff,decide_eq_true_eq];omega
   rw [e];exact hK
 · have:=validT_iff.1 h;have:=of_decide_eq_false g;omega
theorem pcRValid (t:TrT):PCall prog 82 [trV t] (.d (bo (validT t))):=by
 refine Zba (n:=100) (u:=false) mixed TRv_ok Zad func82 (by rfl) (by rfl) fun Ev bb=> ?_
 rw [rvalid_nf]
 refine ⟨_,_,rfl,rfl,Zan (fun h1=>Zan (fun h2=>Zan (fun h3=>Zan (fun h4=> ?_) fun h4=> ?_) fun h3=> ?_) fun h2=> ?_) fun h1=> ?_⟩
 · have e:validT t=false:=by
     rw [Zcr]
     intro h
     have:=validT_iff.1 h
     simp only [bne_iff_ne] at h1 h2 h3 h4
     omega
   rw [e]
 · exact rtail t (fun y=>y= .d (bo (validT t))) (.inr (.inr (.inr (by simpa using h4)))) rfl
 · exact rtail t (fun y=>y= .d (bo (validT t))) (.inr (.inr (.inl (by simpa using h3)))) rfl
 · exact rtail t (fun y=>y= .d (bo (validT t))) (.inr (.inl (by simpa using h2))) rfl
 · exact rtail t (fun y=>y= .d (bo (validT t))) (.inl (by simpa using h1)) rfl
def cRTValid (args:List AV) (K:AV→Prop):Prop:=∃(t:TrT) (z:Bool),args= [trV t]∧z=validT t∧K (.d (bo z))
theorem cRTValid_ok:∀args K,cRTValid args K→∃x,PCall prog 82 args x∧K x:=by
 rintro _ K ⟨n,_,rfl,rfl,h⟩;exact ⟨_,pcRValid n,h⟩
structure StT where
 no:NotT
 ps:List (List Int)
 qs:List (List Int)
 rows:List Row
 pf:List Int
 tr:TrT
def StT.sp (s:StT):SprT:=⟨s.no,s.ps,s.qs,rowsR s.rows,s.pf,s.tr.iv,s.tr.bg,s.tr.fi,s.tr.ct,s.tr.sd⟩
def stD (s:StT):List Dv:= [i64 s.no.v,i64 s.no.n,u64 s.no.r,i64 s.no.t, .sl 1 (partsR s.ps), .sl 1 (proofsR s.qs), .sl 2 (rowsR s.rows), .sl 1 (digR s.pf),i64 s.tr.iv,i64 s.tr.bg,i64 s.tr.fi,i64 s.tr.ct,i64 s.tr.sd]
def stL (s:StT):List AV:= [.d (i64 s.no.v), .d (i64 s.no.n), .d (u64 s.no.r), .d (i64 s.no.t), .d (.sl 1 (partsR s.ps)), .d (.sl 1 (proofsR s.qs)), .d (.sl 2 (rowsR s.rows)), .d (.sl 1 (digR s.pf)), .d (i64 s.tr.iv), .d (i64 s.tr.bg), .d (i64 s.tr.fi), .d (i64 s.tr.ct), .d (i64 s.tr.sd)]
def stV (s:StT):AV:= .agg (stL s)
theorem sann_nf (a n r t:Int):wpFn prog ⟨[], [],wl,y,false⟩ 100 f70 [notA a n r t] b R=(BIf (decide (a≥(1:Int))) (BIf (decide (a≤(1000000000:Int))) (BIf (decide (n≥(1:Int))) (BIf (decide (n≤(4096:Int))) (BIf (decide (t≥(0:Int))) (R (.d (bo (decide (t≤(1000000000:Int))))) b) (R (.d (bo false)) b)) (R (.d (bo false)) b)) (R (.d (bo false)) b)) (R (.d (bo false)) b)) (R (.d (bo false)) b)):=by kernel_rfl
theorem scount_nf (a n r t:Int):wpFn prog ⟨[], [],wl,y,false⟩ 100 f71 [notA a n r t] b R=(R (Zae (i64 (Zaa Zaq (Zbi (Zaa Zaq (Zaa Zaq (n+256) - (1:Int))) (256:Int))))) b):=by kernel_rfl
theorem sempty_nf (s:StT):wpFn prog ⟨[], [],wl,y,false⟩ 100 f62 [.rptr (stD s)] b R=(BIf (NotT.v (StT.no s)==(0:Int)&&(NotT.n (StT.no s)==(0:Int)&&(NotT.r (StT.no s)==(0:Int)&&(NotT.t (StT.no s)==(0:Int)&&true)))) (BIf (Zaa .i64 (Zaa .i64 (Zaa .i64 (((Zab (partsR (StT.ps s)):Nat):Int)+((Zab (proofsR (StT.qs s)):Nat):Int))+((Zab (rowsR (StT.rows s)):Nat):Int))+((Zab (digR (StT.pf s)):Nat):Int))==(0:Int)) (BIf (TrT.iv (StT.tr s)==(0:Int)&&(TrT.bg (StT.tr s)==(0:Int)&&(TrT.fi (StT.tr s)==(0:Int)&&(TrT.ct (StT.tr s)==(0:Int)&&(TrT.sd (StT.tr s)==TrT.sd (StT.tr s)&&true))))) (BIf (decide (TrT.sd (StT.tr s)≥(0:Int))) (R (.d (bo (decide (TrT.sd (StT.tr s)≤(1000000000:Int))))) b) (R (.d (bo false)) b)) (R (.d (bo false)) b)) (R (.d (bo false)) b)) (R (.d (bo false)) b)):=by kernel_rfl
def smallS (s:StT):Prop:=(s.ps.length≤1000∧∀p∈s.ps,p.length≤1000000)∧(s.qs.length≤1000∧∀q∈s.qs,q.length≤1000000)∧smallRows s.rows∧s.pf.length≤1000000
def zeroN (n:NotT):Bool:=n.v==0&&(n.n==0&&(n.r==0&&n.t==0))
def emptyS (s:StT):Bool:=zeroN s.no&&(s.ps.isEmpty&&s.qs.isEmpty&&s.rows.isEmpty&&s.pf.isEmpty)&&(s.tr.iv==0&&(s.tr.bg==0&&(s.tr.fi==0&&s.tr.ct==0)))&&tseedS s.tr.sd
def fullP (s:StT):Bool:=(s.ps.length:Int)==countS s.no.n
def soundT (s:StT):Bool:=soundS s.sp
def validP (s:StT):Bool:=emptyS s||(soundT s&&(validS s.rows&&(decide ((s.rows.length:Int)<16)&&((s.rows.isEmpty|| !fullP s)&&((!s.rows.isEmpty||s.pf.isEmpty)&&validT s.tr)))))
theorem pcSAnn (a n r t:Int):PCall prog 70 [notA a n r t] (.d (bo (announcedS a n t))):=by
 refine Zba (n:=100) (u:=false) mixed Zah Zad func70 (by rfl) (by rfl) fun Ev bb=> ?_
 rw [sann_nf]
 have e:announcedS a n t=(decide (a≥1)&&(decide (a≤1000000000)&&((decide (n≥1)&&decide (n≤4096))&&(decide (t≥0)&&decide (t≤1000000000))))):=rfl
 rw [e]
 refine Zan (fun h1=>Zan (fun h2=>Zan (fun h3=>Zan (fun h4=>Zan (fun h5=> ?_) fun h5=> ?_) fun h4=> ?_) fun h3=> ?_) fun h2=> ?_) fun h1=> ?_
 · rw [h1,h2,h3,h4,h5];rfl
 · rw [h5];simp
 · rw [h4];simp
 · rw [h3];simp
 · rw [h2];simp
 · rw [h1];rfl
theorem pcSCount (a n r t:Int):PCall prog 71 [notA a n r t] (.d (i64 (countS n))):=by
 refine Zba (n:=100) (u:=false) mixed Zah Zad func71 (by rfl) (by rfl) fun Ev bb=> ?_
 rw [scount_nf];rfl
def cSCount (args:List AV) (K:AV→Prop):Prop:=∃(a n r t z:Int),args= [notA a n r t]∧z=countS n∧K (.d (i64 z))
theorem cSCount_ok:∀args K,cSCount args K→∃x,PCall prog 71 args x∧K x:=by
 rintro _ K ⟨a,n,r,t,_,rfl,rfl,h⟩;exact ⟨_,pcSCount a n r t,h⟩
theorem isEmpty_len {α:Type} (l:List α):l.isEmpty=decide (l.length=0):=by cases l<;>simp
theorem sum4 {a b c d:Nat} (h:a≤1000000∧b≤1000000∧c≤1000000∧d≤1000000):(Zaa Zaq (Zaa Zaq (Zaa Zaq ((a:Int)+(b:Int))+(c:Int))+(d:Int))==0)=(decide (a=0)&&decide (b=0)&&decide (c=0)&&decide (d=0)):=by
 rw [wr64 (x:=(a:Int)+(b:Int)) (by omega) (by omega),wr64 (x:=(a:Int)+(b:Int)+(c:Int)) (by omega) (by omega),wr64 (by omega) (by omega)]
 rw [Bool.eq_iff_iff]
 simp only [beq_iff_eq,Zak,decide_eq_true_eq]
 omega
theorem pcSEmpty (s:StT) (hs:smallS s):PCall prog 62 [.rptr (stD s)] (.d (bo (emptyS s))):=by
 refine Zba (n:=100) (u:=false) mixed Zah Zad func62 (by rfl) (by rfl) fun Ev bb=> ?_
 rw [sempty_nf,partsR_len,proofs_len,rowsR_len,digR_len,sum4 ⟨by have:=hs.1.1;omega,by have:=hs.2.1.1;omega,by have:=hs.2.2.1.1;omega,hs.2.2.2⟩]
 rw [←isEmpty_len,←isEmpty_len,←isEmpty_len,←isEmpty_len]
 have e:tseedS s.tr.sd=(decide (s.tr.sd≥0)&&decide (s.tr.sd≤1000000000)):=rfl
 have e1:∀x:Int,(x==x)=true:=fun x=>by simp
 rw [emptyS,zeroN,e]
 simp only [Bool.and_true,e1]
 refine Zan (fun h1=>Zan (fun h2=>Zan (fun h3=>Zan (fun h4=> ?_) fun h4=> ?_) fun h3=> ?_) fun h2=> ?_) fun h1=> ?_
 · rw [h1,h2,h3,h4];rfl
 · rw [h4,Bool.false_and,Bool.and_false]
 · rw [h3,Bool.and_false];rfl
 · rw [h2,Bool.and_false];rfl
 · rw [h1];rfl
def cSEmpty (args:List AV) (K:AV→Prop):Prop:=∃(s:StT) (z:Bool),args= [.rptr (stD s)]∧(smallS s∧z=emptyS s)∧K (.d (bo z))
theorem cSEmpty_ok:∀args K,cSEmpty args K→∃x,PCall prog 62 args x∧K x:=by
 rintro _ K ⟨s,_,rfl,⟨hs,rfl⟩,h⟩;exact ⟨_,pcSEmpty s hs,h⟩
def TWl:List (Nat×(List AV→(AV→Prop)→Prop)):= [(71,cSCount),(74,cTHear),(53,lessC cPut)]
theorem TWl_ok:CallsOk prog TWl:=Zag cSCount_ok (Zag cTHear_ok (Zag (lessC_ok cPut_ok) Zah))
def GB5:List (Nat×(List AV→List Blk→(AV→List Blk→Prop)→Prop)):= [(1000005,fun _ _ _=>False)]
theorem GB5_ok:SCallsOk prog GB5:=Zbt (fun _ _ _ h=>h.elim) Zad
theorem swhole_nf (s:StT):wpFn prog ⟨TWl, [],wl,y,false⟩ 100 f121 [.rptr (stD s)] b R=(∃(a0:Int) (n1:Int) (r2:Int) (t3:Int) (z4:Int), [Zbp (noL (StT.no s))]=(Qz33 a0 n1 r2 t3)∧z4=countS n1∧R (.d (bo (((Zab (partsR (StT.ps s)):Nat):Int)==z4))) b):=by kernel_rfl
theorem stimed_nf (s:StT):wpFn prog ⟨TWl, [],wl,y,false⟩ 100 f133 [.rptr (stD s)] b R=(BIf (decide (TrT.ct (StT.tr s)≥(0:Int))) (BIf (decide (TrT.ct (StT.tr s)≤(100:Int))) (∃(t0:TrT) (z1:TrT), [Zbp [Zae (i64 (TrT.iv (StT.tr s))),Zae (i64 (TrT.bg (StT.tr s))),Zae (i64 (TrT.fi (StT.tr s))),Zae (i64 0),Zae (i64 (TrT.sd (StT.tr s)))]]= [Zbp (trL t0)]∧z1=hearT t0∧R (.d (bo !(TrT.iv z1==TrT.iv (StT.tr s)&&(TrT.bg z1==TrT.bg (StT.tr s)&&(TrT.fi z1==TrT.fi (StT.tr s)&&(TrT.ct z1==(0:Int)&&(TrT.sd z1==TrT.sd (StT.tr s)&&true))))))) b) (R (.d (bo false)) b)) (R (.d (bo false)) b)):=by kernel_rfl
theorem ssound_nf (s:StT):wpFn prog ⟨TWl,GB5,wl,y,false⟩ 100 f132 [.rptr (stD s)] b R=(∃(args0:List AV),LeVs [Zbp (stL s),AV.full 1 (bytesR (Zaf 256 0)),Zae (Dv.s (.slice none 0 0))] args0∧∃(s1:SprT) (p2:List Int) (q3:List Int) (z4:SprT) (e5:Int),args0= [Zbp (spL s1),Zae (Zam 1 (bytesR p2)),Zae (Zam 1 (digR q3))]∧((Zab (SprT.ps s1)≤9223372036854775807∧Zab q3≤1000000∧∀(x:List Int),x∈SprT.qs s1→Zab x≤1000000)∧(z4,e5)=putS s1 p2 q3)∧R (.d (bo (e5 !=(1:Int)))) b):=by kernel_rfl
theorem pcSWhole (s:StT):PCall prog 121 [.rptr (stD s)] (.d (bo (fullP s))):=by
 refine Zba (n:=100) (u:=false) mixed TWl_ok Zad func121 (by rfl) (by rfl) fun Ev bb=> ?_
 rw [swhole_nf,partsR_len]
 exact ⟨_,_,_,_,_,rfl,rfl,rfl⟩
def cSWhole (args:List AV) (K:AV→Prop):Prop:=∃(s:StT) (z:Bool),args= [.rptr (stD s)]∧z=fullP s∧K (.d (bo z))
theorem cSWhole_ok:∀args K,cSWhole args K→∃x,PCall prog 121 args x∧K x:=by
 rintro _ K ⟨s,_,rfl,rfl,h⟩;exact ⟨_,pcSWhole s,h⟩
theorem pcSTimed (s:StT):PCall prog 133 [.rptr (stD s)] (.d (bo (validT s.tr))):=by
 refine Zba (n:=100) (u:=false) mixed TWl_ok Zad func133 (by rfl) (by rfl) fun Ev bb=> ?_
 rw [stimed_nf]
 refine Zan (fun g1=>Zan (fun g2=>⟨⟨s.tr.iv,s.tr.bg,s.tr.fi,0,s.tr.sd⟩,_,rfl,rfl, ?_⟩) fun g2=> ?_) fun g1=> ?_
 · have g1:=of_decide_eq_true g1
   have g2:=of_decide_eq_true g2
   have e:validT s.tr=validT ⟨s.tr.iv,s.tr.bg,s.tr.fi,0,s.tr.sd⟩:=by rw [Bool.eq_iff_iff,validT_iff,validT_iff];simp only;omega
   rw [e]
   cases hv:validT ⟨s.tr.iv,s.tr.bg,s.tr.fi,0,s.tr.sd⟩
   · simp [hearT,hv]
   · have e1:∀x:Int,(x==x)=true:=fun x=>by simp
     simp only [hearT,hv,if_true,e1,Bool.true_and];rfl
 · have g2:=of_decide_eq_false g2
   rw [show validT s.tr=false from Zcr.2 fun h=>by have:=validT_iff.1 h;omega]
 · have g1:=of_decide_eq_false g1
   rw [show validT s.tr=false from Zcr.2 fun h=>by have:=validT_iff.1 h;omega]
def cSTimed (args:List AV) (K:AV→Prop):Prop:=∃(s:StT) (z:Bool),args= [.rptr (stD s)]∧z=validT s.tr∧K (.d (bo z))
theorem cSTimed_ok:∀args K,cSTimed args K→∃x,PCall prog 133 args x∧K x:=by
 rintro _ K ⟨s,_,rfl,rfl,h⟩;exact ⟨_,pcSTimed s,h⟩
theorem put_err {s:SprT} {p q:List Int} (hp:p.length=256):((putS s p q).2 !=1)=soundS s:=by
 unfold putS
 cases h:soundS s
 · rw [if_pos (.inl rfl)];rfl
 · rw [if_neg (by simp [hp])]
   split
   · rfl
   · split<;>rfl
theorem pcSSound (s:StT) (hs:smallS s):PCall prog 132 [.rptr (stD s)] (.d (bo (soundT s))):=by
 refine Zba (n:=100) (u:=false) mixed TWl_ok GB5_ok func132 (by rfl) (by rfl) fun Ev bb=> ?_
 rw [ssound_nf]
 refine ⟨_, .cons .rfl (.cons .full (.cons (.nil rfl) .nil)),s.sp,Zaf 256 0, [],(putS s.sp (Zaf 256 0) []).1,(putS s.sp (Zaf 256 0) []).2,rfl,⟨⟨by have:=hs.1.1;show s.ps.length≤_;omega,by simp,hs.2.1.2⟩,rfl⟩, ?_⟩
 show Zae (bo ((putS s.sp (Zaf 256 0) []).2 !=1))=_
 rw [put_err (List.length_replicate ..)];rfl
def cSSound (args:List AV) (K:AV→Prop):Prop:=∃(s:StT) (z:Bool),args= [.rptr (stD s)]∧(smallS s∧z=soundT s)∧K (.d (bo z))
theorem cSSound_ok:∀args K,cSSound args K→∃x,PCall prog 132 args x∧K x:=by
 rintro _ K ⟨s,_,rfl,⟨hs,rfl⟩,h⟩;exact ⟨_,pcSSound s hs,h⟩
def TVd:List (Nat×(List AV→(AV→Prop)→Prop)):= [(62,cSEmpty),(132,cSSound),(91,c20),(121,cSWhole),(133,cSTimed)]
theorem TVd_ok:CallsOk prog TVd:=Zag cSEmpty_ok (Zag cSSound_ok (Zag c20_ok (Zag cSWhole_ok (Zag cSTimed_ok Zah))))
theorem svalid_nf (s:StT):wpFn prog ⟨TVd, [],wl,y,false⟩ 100 f61 [.rptr (stD s)] b R=(∃(s0:StT) (z1:Bool), [Zbu (stD s)]= [Zbu (stD s0)]∧((smallS s0)∧z1=emptyS s0)∧BIf z1 (R (.d (bo true)) b) (∃(s2:StT) (z3:Bool), [Zbu (stD s)]= [Zbu (stD s2)]∧((smallS s2)∧z3=soundT s2)∧BIf z3 (∃(l4:List Row), [Zae (Zam 2 (rowsR (StT.rows s)))]= [Zae (Zam 2 (rowsR l4))]∧Zab l4≤9223372036854775807∧BIf (validS l4) (BIf (decide (((Zab (rowsR (StT.rows s)):Nat):Int)<(16:Int))) (BIf (((Zab (rowsR (StT.rows s)):Nat):Int)==(0:Int)) (BIf (decide (((Zab (rowsR (StT.rows s)):Nat):Int)>(0:Int))) (∃(s5:StT) (z6:Bool), [Zbu (stD s)]= [Zbu (stD s5)]∧z6=validT (StT.tr s5)∧R (.d (bo z6)) b) (BIf (((Zab (digR (StT.pf s)):Nat):Int)==(0:Int)) (∃(s7:StT) (z8:Bool), [Zbu (stD s)]= [Zbu (stD s7)]∧z8=validT (StT.tr s7)∧R (.d (bo z8)) b) (R (.d (bo false)) b))) (∃(s9:StT) (z10:Bool), [Zbu (stD s)]= [Zbu (stD s9)]∧z10=fullP s9∧BIf (!z10) (BIf (decide (((Zab (rowsR (StT.rows s)):Nat):Int)>(0:Int))) (∃(s11:StT) (z12:Bool), [Zbu (stD s)]= [Zbu (stD s11)]∧z12=validT (StT.tr s11)∧R (.d (bo z12)) b) (BIf (((Zab (digR (StT.pf s)):Nat):Int)==(0:Int)) (∃(s13:StT) (z14:Bool), [Zbu (stD s)]= [Zbu (stD s13)]∧z14=validT (StT.tr s13)∧R (.d (bo z14)) b) (R (.d (bo false)) b))) (R (.d (bo false)) b))) (R (.d (bo false)) b)) (R (.d (bo false)) b)) (R (.d (bo false)) b))):=by kernel_rfl
theorem len_eq0 {α:Type} (l:List α):((l.length:Int)==0)=l.isEmpty:=by cases l<;>simp<;>omega
theorem len_gt0 {α:Type} (l:List α):decide ((l.length:Int)>0)= !l.isEmpty:=by cases l<;>simp<;>omega
theorem pcSValid (s:StT) (hs:smallS s):PCall prog 61 [.rptr (stD s)] (.d (bo (validP s))):=by
 refine Zba (n:=100) (u:=false) mixed TVd_ok Zad func61 (by rfl) (by rfl) fun Ev bb=> ?_
 rw [svalid_nf,rowsR_len,digR_len,len_eq0,len_eq0,len_gt0]
 refine ⟨s,_,rfl,⟨hs,rfl⟩,Zan (fun h=>by rw [validP,h];rfl) fun h1=>⟨s,_,rfl,⟨hs,rfl⟩,Zan (fun h2=>⟨_,rfl,by have:=hs.2.2.1.1;omega,Zan (fun h3=>Zan (fun h4=>Zan (fun h5=>Zan (fun h6=> ?_) fun h6=>Zan (fun h7=> ?_) fun h7=> ?_) fun h5=>⟨s,_,rfl,rfl,Zan (fun h8=>Zan (fun h6=> ?_) fun h6=>Zan (fun h7=> ?_) fun h7=> ?_) fun h8=> ?_⟩) fun h4=> ?_) fun h3=> ?_⟩) fun h2=> ?_⟩⟩
 · rw [h5] at h6;cases h6
 · exact ⟨s,_,rfl,rfl,by rw [validP,h1,h2,h3,h4,h5,h7];rfl⟩
 · rw [validP,h1,h2,h3,h4,h5,h7];rfl
 · exact ⟨s,_,rfl,rfl,by rw [validP,h1,h2,h3,h4,h5,nbt h8];rfl⟩
 · rw [h5] at h6;cases h6
 · rw [h5] at h6;cases h6
 · rw [validP,h1,h2,h3,h4,h5,nbf h8];rfl
 · rw [validP,h1,h2,h3,h4];rfl
 · rw [validP,h1,h2,h3];rfl
 · rw [validP,h1,h2];rfl
def cSValid (args:List AV) (K:AV→Prop):Prop:=∃(s:StT) (z:Bool),args= [.rptr (stD s)]∧(smallS s∧z=validP s)∧K (.d (bo z))
theorem cSValid_ok:∀args K,cSValid args K→∃x,PCall prog 61 args x∧K x:=by
 rintro _ K ⟨s,_,rfl,⟨hs,rfl⟩,h⟩;exact ⟨_,pcSValid s hs,h⟩
def TCo:List (Nat×(List AV→(AV→Prop)→Prop)):= [(51,cClone50),(120,cCloneB)]
theorem TCo_ok:CallsOk prog TCo:=Zag cClone50_ok (Zag cCloneB_ok Zah)
noncomputable def lpCo1:Code:=sub [1,1,0,1,2,3] (code f47)
noncomputable def lpCo2:Code:=sub [1,1,1,0,1,2,3] (code f47)
noncomputable def lpCo3:Code:=sub [1,1,1,1,0,1,2,3] (code f47)
def stB (s:StT):Blk:=⟨stL s,false,false,0⟩
def outC (s:StT) (a c d:AV):Blk:=⟨noL s.no++ [a,c,d, .d (.sl 1 (digR s.pf))]++trL s.tr,false,false,0⟩
def tmCo (g k:Nat) (xs:List (List Dv)) (n i:Int):List AV:= [.bad, .ptr 0 0, .bad, .ptr 1 0]++Zaf (g - 4) .bad++ [.d (.sl k xs), .d (i64 n), .d (i64 i)]++Zaf (67 - g) .bad
theorem rCo1 (s:StT) (n i:Int) (xs:List (List Dv)) (c5 c6:AV):wpc prog ⟨TCo, [],wl,y,false⟩ 100 lpCo1 (tmCo 19 1 (partsR s.ps) n i) [stB s,outC s (.own 33 1 xs) c5 c6] b (maskT [1,3,19,20,21] K)=(BIf (decide (i<n)) (BIf (true&&decide (0≤i)) (∃(xs0:List (List Dv)),(partsR (StT.ps s))[Zap i]? =some [Zam 1 xs0]∧∃(xs3:List (List Dv)), [Zae (Zam 1 xs0)]= [Zae (Zam 1 xs3)]∧Zab xs3≤1000000∧BIf (true&&decide ((Zab xs+1)*24≤140737488355328)) (K .normal (Zav::Zaz 0 0::Zav::Zaz 1 0::bds 15 (Zae (Zam 1 (partsR (StT.ps s)))::Zae (i64 n)::Zae (i64 (Zaa .i64 (i+1)))::bds 48 [])) [stB s,Blk.mk [Zae (i64 (NotT.v (StT.no s))),Zae (i64 (NotT.n (StT.no s))),Zae (u64 (NotT.r (StT.no s))),Zae (i64 (NotT.t (StT.no s))),Zes 33 1 (xs++ [[Zam 1 xs3]]),c5,c6,Zae (Zam 1 (digR (StT.pf s))),Zae (i64 (TrT.iv (StT.tr s))),Zae (i64 (TrT.bg (StT.tr s))),Zae (i64 (TrT.fi (StT.tr s))),Zae (i64 (TrT.ct (StT.tr s))),Zae (i64 (TrT.sd (StT.tr s)))] false false 0] b) False) False) (K (Zet 0) (Zav::Zaz 0 0::Zav::Zaz 1 0::bds 15 (Zae (Zam 1 (partsR (StT.ps s)))::Zae (i64 n)::Zae (i64 i)::bds 48 [])) [stB s,Blk.mk [Zae (i64 (NotT.v (StT.no s))),Zae (i64 (NotT.n (StT.no s))),Zae (u64 (NotT.r (StT.no s))),Zae (i64 (NotT.t (StT.no s))),Zes 33 1 xs,c5,c6,Zae (Zam 1 (digR (StT.pf s))),Zae (i64 (TrT.iv (StT.tr s))),Zae (i64 (TrT.bg (StT.tr s))),Zae (i64 (TrT.fi (StT.tr s))),Zae (i64 (TrT.ct (StT.tr s))),Zae (i64 (TrT.sd (StT.tr s)))] false false 0] b)):=by kernel_rfl
theorem rCo2 (s:StT) (n i:Int) (xs:List (List Dv)) (c5 c6:AV):wpc prog ⟨TCo, [],wl,y,false⟩ 100 lpCo2 (tmCo 34 1 (proofsR s.qs) n i) [stB s,outC s c5 (.own 28 1 xs) c6] b (maskT [1,3,34,35,36] K)=(BIf (decide (i<n)) (BIf (true&&decide (0≤i)) (∃(xs0:List (List Dv)),(proofsR (StT.qs s))[Zap i]? =some [Zam 1 xs0]∧∃(xs3:List (List Dv)), [Zae (Zam 1 xs0)]= [Zae (Zam 1 xs3)]∧Zab xs3≤1000000∧BIf (true&&decide ((Zab xs+1)*24≤140737488355328)) (K .normal (Zav::Zaz 0 0::Zav::Zaz 1 0::bds 30 (Zae (Zam 1 (proofsR (StT.qs s)))::Zae (i64 n)::Zae (i64 (Zaa .i64 (i+1)))::bds 33 [])) [stB s,Blk.mk [Zae (i64 (NotT.v (StT.no s))),Zae (i64 (NotT.n (StT.no s))),Zae (u64 (NotT.r (StT.no s))),Zae (i64 (NotT.t (StT.no s))),c5,Zes 28 1 (xs++ [[Zam 1 xs3]]),c6,Zae (Zam 1 (digR (StT.pf s))),Zae (i64 (TrT.iv (StT.tr s))),Zae (i64 (TrT.bg (StT.tr s))),Zae (i64 (TrT.fi (StT.tr s))),Zae (i64 (TrT.ct (StT.tr s))),Zae (i64 (TrT.sd (StT.tr s)))] false false 0] b) False) False) (K (Zet 2) (Zav::Zaz 0 0::Zav::Zaz 1 0::bds 30 (Zae (Zam 1 (proofsR (StT.qs s)))::Zae (i64 n)::Zae (i64 i)::bds 33 [])) [stB s,Blk.mk [Zae (i64 (NotT.v (StT.no s))),Zae (i64 (NotT.n (StT.no s))),Zae (u64 (NotT.r (StT.no s))),Zae (i64 (NotT.t (StT.no s))),c5,Zes 28 1 xs,c6,Zae (Zam 1 (digR (StT.pf s))),Zae (i64 (TrT.iv (StT.tr s))),Zae (i64 (TrT.bg (StT.tr s))),Zae (i64 (TrT.fi (StT.tr s))),Zae (i64 (TrT.ct (StT.tr s))),Zae (i64 (TrT.sd (StT.tr s)))] false false 0] b)):=by kernel_rfl
theorem rCo3 (s:StT) (n i:Int) (xs A B:List (List Dv)):wpc prog ⟨TCo, [],wl,y,false⟩ 100 lpCo3 (tmCo 49 2 (rowsR s.rows) n i) [stB s,outC s (.own 33 1 A) (.own 28 1 B) (.own 71 2 xs)] b (maskK 2 [1,3,49,50,51] K)=(BIf (decide (i<n)) (BIf (true&&decide (0≤i)) (∃(x0:Int) (xs1:List (List Dv)),(rowsR (StT.rows s))[Zap i]? =some [i64 x0,Zam 1 xs1]∧∃(xs4:List (List Dv)), [Zae (Zam 1 xs1)]= [Zae (Zam 1 xs4)]∧Zab xs4≤1000000∧BIf (true&&decide ((Zab xs+1)*32≤140737488355328)) (K .normal (Zav::Zaz 0 0::Zav::Zaz 1 0::bds 45 (Zae (Zam 2 (rowsR (StT.rows s)))::Zae (i64 n)::Zae (i64 (Zaa .i64 (i+1)))::bds 18 [])) [stB s,Blk.mk [Zae (i64 (NotT.v (StT.no s))),Zae (i64 (NotT.n (StT.no s))),Zae (u64 (NotT.r (StT.no s))),Zae (i64 (NotT.t (StT.no s))),Zes 33 1 A,Zes 28 1 B,Zes 71 2 (xs++ [[i64 x0,Zam 1 xs4]]),Zae (Zam 1 (digR (StT.pf s))),Zae (i64 (TrT.iv (StT.tr s))),Zae (i64 (TrT.bg (StT.tr s))),Zae (i64 (TrT.fi (StT.tr s))),Zae (i64 (TrT.ct (StT.tr s))),Zae (i64 (TrT.sd (StT.tr s)))] false false 0] b) False) False) (K (Zet 4) (Zav::Zaz 0 0::Zav::Zaz 1 0::bds 45 (Zae (Zam 2 (rowsR (StT.rows s)))::Zae (i64 n)::Zae (i64 i)::bds 18 [])) [stB s,Blk.mk [Zae (i64 (NotT.v (StT.no s))),Zae (i64 (NotT.n (StT.no s))),Zae (u64 (NotT.r (StT.no s))),Zae (i64 (NotT.t (StT.no s))),Zes 33 1 A,Zes 28 1 B,Zes 71 2 xs,Zae (Zam 1 (digR (StT.pf s))),Zae (i64 (TrT.iv (StT.tr s))),Zae (i64 (TrT.bg (StT.tr s))),Zae (i64 (TrT.fi (StT.tr s))),Zae (i64 (TrT.ct (StT.tr s))),Zae (i64 (TrT.sd (StT.tr s)))] false false 0] b)):=by kernel_rfl
theorem takeL_next {α:Type} {l:List (List α)} {k:Nat} (h:k<l.length):l.take (k+1)=l.take k++ [nthL l k]:=by
 rw [Zdx h,nthL];simp [h]
def nthW (l:List Row) (i:Nat):Row:=l.getD i (0, [])
theorem nthW_mem {l:List Row} {k:Nat} (h:k<l.length):nthW l k∈l:=by
 rw [nthW,List.getD_eq_getElem?_getD,Zbj h];exact List.getElem_mem h
theorem takeW_next {l:List Row} {k:Nat} (h:k<l.length):l.take (k+1)=l.take k++ [nthW l k]:=by
 rw [Zdx h,nthW];simp [h]
theorem rowW_at {l:List Row} {k:Nat} (h:k<l.length):(rowsR l)[k]? =some [i64 (nthW l k).1, .sl 1 (bytesR (nthW l k).2)]:=by simp [rowsR,rowD,nthW,h]
theorem rowsW_app (l:List Row) (x:Row):rowsR l++ [[i64 x.1, .sl 1 (bytesR x.2)]]=rowsR (l++ [x]):=by simp [rowsR,rowD]
theorem wrapN {j:Nat} (h:j<1000000):Zaa Zaq ((j:Int)+1)=((j+1:Nat):Int):=by
 rw [wrap_i64 (by omega) (by omega)];simp
theorem wrCo1 {Ev:Env prog} {b:Ev.β} {Q:Exit→St Ev.β→Prop} (s:StT) (hs:smallS s) (c5 c6:AV) (hQ:∀i:Int,Q (.exit 0) ⟨tmCo 19 1 (partsR s.ps) s.ps.length i, [stB s,outC s (.own 33 1 (partsR s.ps)) c5 c6],b⟩):
   WR Ev lpCo1 (s.ps.length+1) ⟨tmCo 19 1 (partsR s.ps) s.ps.length 0, [stB s,outC s (.own 33 1 (partsR [])) c5 c6],b⟩ Q:=by
 have hl:=hs.1.1
 refine WR.steps (X:=⟨TCo, [],wlW Ev,Ev.Y,false⟩) (k:=100) [1,3,19,20,21] mixed (CX.Ok.of TCo_ok Zad) (e:= .exit 0) (by simp) b (fun j=>tmCo 19 1 (partsR s.ps) s.ps.length (j:Nat)) (fun j=> [stB s,outC s (.own 33 1 (partsR (s.ps.take j))) c5 c6]) s.ps.length 0 (fun j _ hj K k1=> ?_) (fun K k1=> ?_) ?_
 · have hj:j<s.ps.length:=by omega
   rw [rCo1]
   refine Zbl (by simp;omega) (Zbl (by simp) ⟨bytesR (nthL s.ps j),by rw [Zax];exact parts_at hj,_,rfl,by rw [bytesR_len];exact hs.1.2 _ (nthL_mem hj),Zbl (by simp [partsR_len];omega) ?_⟩)
   rw [wrapN (by omega),parts_app1,←takeL_next hj]
   exact k1
 · rw [rCo1]
   exact Zct (by simp) k1
 · have:=hQ s.ps.length
   simpa using this
theorem wrCo2 {Ev:Env prog} {b:Ev.β} {Q:Exit→St Ev.β→Prop} (s:StT) (hs:smallS s) (c5 c6:AV) (hQ:∀i:Int,Q (.exit 2) ⟨tmCo 34 1 (proofsR s.qs) s.qs.length i, [stB s,outC s c5 (.own 28 1 (proofsR s.qs)) c6],b⟩):
   WR Ev lpCo2 (s.qs.length+1) ⟨tmCo 34 1 (proofsR s.qs) s.qs.length 0, [stB s,outC s c5 (.own 28 1 (proofsR [])) c6],b⟩ Q:=by
 have hl:=hs.2.1.1
 refine WR.steps (X:=⟨TCo, [],wlW Ev,Ev.Y,false⟩) (k:=100) [1,3,34,35,36] mixed (CX.Ok.of TCo_ok Zad) (e:= .exit 2) (by simp) b (fun j=>tmCo 34 1 (proofsR s.qs) s.qs.length (j:Nat)) (fun j=> [stB s,outC s c5 (.own 28 1 (proofsR (s.qs.take j))) c6]) s.qs.length 0 (fun j _ hj K k1=> ?_) (fun K k1=> ?_) ?_
 · have hj:j<s.qs.length:=by omega
   rw [rCo2]
   refine Zbl (by simp;omega) (Zbl (by simp) ⟨digR (nthL s.qs j),by rw [Zax];exact proofs_at hj,_,rfl,by rw [digR_len];exact hs.2.1.2 _ (nthL_mem hj),Zbl (by simp [proofs_len];omega) ?_⟩)
   rw [wrapN (by omega),proofs_app1,←takeL_next hj]
   exact k1
 · rw [rCo2]
   exact Zct (by simp) k1
 · have:=hQ s.qs.length
   simpa using this
theorem wrCo3 {Ev:Env prog} {b:Ev.β} {Q:Exit→St Ev.β→Prop} (s:StT) (hs:smallS s) (A B:List (List Dv)) (hQ:∀i:Int,Q (.exit 4) ⟨tmCo 49 2 (rowsR s.rows) s.rows.length i, [stB s,outC s (.own 33 1 A) (.own 28 1 B) (.own 71 2 (rowsR s.rows))],b⟩):
   WR Ev lpCo3 (s.rows.length+1) ⟨tmCo 49 2 (rowsR s.rows) s.rows.length 0, [stB s,outC s (.own 33 1 A) (.own 28 1 B) (.own 71 2 (rowsR []))],b⟩ Q:=by
 have hl:=hs.2.2.1.1
 refine WR.stepsM (m:=2) (X:=⟨TCo, [],wlW Ev,Ev.Y,false⟩) (k:=100) [1,3,49,50,51] mixed (CX.Ok.of TCo_ok Zad) (e:= .exit 4) (by simp) b (fun j=>tmCo 49 2 (rowsR s.rows) s.rows.length (j:Nat)) (fun j=> [stB s,outC s (.own 33 1 A) (.own 28 1 B) (.own 71 2 (rowsR (s.rows.take j)))]) (fun _=>rfl) s.rows.length 0 (fun j _ hj K k1=> ?_) (fun K k1=> ?_) ?_
 · have hj:j<s.rows.length:=by omega
   rw [rCo3]
   refine Zbl (by simp;omega) (Zbl (by simp) ⟨(nthW s.rows j).1,bytesR (nthW s.rows j).2,by rw [Zax];exact rowW_at hj,_,rfl,by rw [bytesR_len];have:=hs.2.2.1.2 _ (nthW_mem hj);omega,Zbl (by simp [rowsR_len];omega) ?_⟩)
   rw [wrapN (by omega),rowsW_app,←takeW_next hj]
   exact k1
 · rw [rCo3]
   exact Zct (by simp) k1
 · have:=hQ s.rows.length
   simpa using this
def wlCo {β:Type}:WLT β:=fun c tm hp b K=>match cidO c with
 |4=>∃s,smallS s∧c= .loop lpCo1∧maskTm [1,3,19,20,21] 0 tm=tmCo 19 1 (partsR s.ps) (partsR s.ps).length 0∧hp= [stB s,outC s nilV nilV nilV]∧∀i:Int,K (.exit 0) (tmCo 19 1 (partsR s.ps) s.ps.length i) [stB s,outC s (.own 33 1 (partsR s.ps)) nilV nilV] b
 |9=>∃s,smallS s∧c= .loop lpCo2∧maskTm [1,3,34,35,36] 0 tm=tmCo 34 1 (proofsR s.qs) (proofsR s.qs).length 0∧hp= [stB s,outC s (.own 33 1 (partsR s.ps)) nilV nilV]∧∀i:Int,K (.exit 2) (tmCo 34 1 (proofsR s.qs) s.qs.length i) [stB s,outC s (.own 33 1 (partsR s.ps)) (.own 28 1 (proofsR s.qs)) nilV] b
 |14=>∃s,smallS s∧c= .loop lpCo3∧maskTm [1,3,49,50,51] 0 tm=tmCo 49 2 (rowsR s.rows) (rowsR s.rows).length 0∧hp= [stB s,outC s (.own 33 1 (partsR s.ps)) (.own 28 1 (proofsR s.qs)) nilV]∧∀i:Int,K (.exit 4) (tmCo 49 2 (rowsR s.rows) s.rows.length i) [stB s,outC s (.own 33 1 (partsR s.ps)) (.own 28 1 (proofsR s.qs)) (.own 71 2 (rowsR s.rows))] b
 |_=>False
theorem wlCo_ok {Ev:Env prog} (c:Code) (tm:List AV) (hp:List Blk) (b:Ev.β) (K:Exit→List AV→List Blk→Ev.β→Prop) (h:wlCo c tm hp b K):W Ev c ⟨tm,hp,b⟩ (fun e s=>K e s.tm s.hp s.b):=by
 unfold wlCo at h
 split at h
 · obtain ⟨s,hs,rfl,htm,rfl,hK⟩:=h
   rw [partsR_len] at htm
   refine W.cast (htm▸maskTm_le _ tm 0) (hp':= [stB s,outC s (.own 33 1 (partsR [])) nilV nilV]) (LeH.at [stB s] [] (LeL.at [_,_,_,_] _ (LeA.nilOwn rfl))) ?_
   exact W.rounds (wrCo1 (Q:=fun e s=>K e s.tm s.hp s.b) s hs _ _ hK)
 · obtain ⟨s,hs,rfl,htm,rfl,hK⟩:=h
   rw [proofs_len] at htm
   refine W.cast (htm▸maskTm_le _ tm 0) (hp':= [stB s,outC s (.own 33 1 (partsR s.ps)) (.own 28 1 (proofsR [])) nilV]) (LeH.at [stB s] [] (LeL.at [_,_,_,_,_] _ (LeA.nilOwn rfl))) ?_
   exact W.rounds (wrCo2 (Q:=fun e s=>K e s.tm s.hp s.b) s hs _ _ hK)
 · obtain ⟨s,hs,rfl,htm,rfl,hK⟩:=h
   rw [rowsR_len] at htm
   refine W.cast (htm▸maskTm_le _ tm 0) (hp':= [stB s,outC s (.own 33 1 (partsR s.ps)) (.own 28 1 (proofsR s.qs)) (.own 71 2 (rowsR []))]) (LeH.at [stB s] [] (LeL.at [_,_,_,_,_,_] _ (LeA.nilOwn rfl))) ?_
   exact W.rounds (wrCo3 (Q:=fun e s=>K e s.tm s.hp s.b) s hs _ _ hK)
 · exact h.elim
abbrev Qz11 (v0:StT):List AV:= [Zae (i64 (NotT.v (StT.no v0))),Zae (i64 (NotT.n (StT.no v0))),Zae (u64 (NotT.r (StT.no v0))),Zae (i64 (NotT.t (StT.no v0))),Zes 33 1 (partsR (StT.ps v0)),Zes 28 1 (proofsR (StT.qs v0)),Zes 71 2 (rowsR (StT.rows v0)),Zae (Zam 1 (digR (StT.pf v0))),Zae (i64 (TrT.iv (StT.tr v0))),Zae (i64 (TrT.bg (StT.tr v0))),Zae (i64 (TrT.fi (StT.tr v0))),Zae (i64 (TrT.ct (StT.tr v0))),Zae (i64 (TrT.sd (StT.tr v0)))]
abbrev Qz16 (v0:StT):= [stB v0,Blk.mk [Zae (i64 (NotT.v (StT.no v0))),Zae (i64 (NotT.n (StT.no v0))),Zae (u64 (NotT.r (StT.no v0))),Zae (i64 (NotT.t (StT.no v0))),Zes 33 1 (partsR (StT.ps v0)),Zes 28 1 (proofsR (StT.qs v0)),Zae (Dv.s (.slice none 0 0)),Zae (Zam 1 (digR (StT.pf v0))),Zae (i64 (TrT.iv (StT.tr v0))),Zae (i64 (TrT.bg (StT.tr v0))),Zae (i64 (TrT.fi (StT.tr v0))),Zae (i64 (TrT.ct (StT.tr v0))),Zae (i64 (TrT.sd (StT.tr v0)))] false false 0]
abbrev Qz17 (v0:StT):= [stB v0,Blk.mk [Zae (i64 (NotT.v (StT.no v0))),Zae (i64 (NotT.n (StT.no v0))),Zae (u64 (NotT.r (StT.no v0))),Zae (i64 (NotT.t (StT.no v0))),Zes 33 1 (partsR (StT.ps v0)),Zae (Dv.s (.slice none 0 0)),Zae (Dv.s (.slice none 0 0)),Zae (Zam 1 (digR (StT.pf v0))),Zae (i64 (TrT.iv (StT.tr v0))),Zae (i64 (TrT.bg (StT.tr v0))),Zae (i64 (TrT.fi (StT.tr v0))),Zae (i64 (TrT.ct (StT.tr v0))),Zae (i64 (TrT.sd (StT.tr v0)))] false false 0]
abbrev Qz20 (v0:StT):=Zav::Zaz 0 0::Zav::Zaz 1 0::bds 30 (Zae (Zam 1 (proofsR (StT.qs v0)))::Zae (i64 ((Zab (proofsR (StT.qs v0)):Nat):Int))::Zae (i64 0)::bds 33 [])
abbrev Qz21 (v0:StT):=Zav::Zaz 0 0::Zav::Zaz 1 0::bds 45 (Zae (Zam 2 (rowsR (StT.rows v0)))::Zae (i64 ((Zab (rowsR (StT.rows v0)):Nat):Int))::Zae (i64 0)::bds 18 [])
abbrev Qz22 (v0:StT):=Zav::Zaz 0 0::Zav::Zaz 1 0::bds 15 (Zae (Zam 1 (partsR (StT.ps v0)))::Zae (i64 ((Zab (partsR (StT.ps v0)):Nat):Int))::Zae (i64 0)::bds 48 [])
theorem copied_nf (s:StT):wpFnS prog ⟨TCo, [],wlCo,y,false⟩ 100 f47 [stV s] b RS=(∃(xs0:List (List Dv)), [Zae (Zam 1 (digR (StT.pf s)))]= [Zae (Zam 1 xs0)]∧Zab xs0≤1000000∧∃(s1:StT),(smallS s1)∧Zbd lpCo1=Zbd lpCo1∧(Qz22 s)=(Qz22 s1)∧ [stB s,Blk.mk [Zae (i64 (NotT.v (StT.no s))),Zae (i64 (NotT.n (StT.no s))),Zae (u64 (NotT.r (StT.no s))),Zae (i64 (NotT.t (StT.no s))),Zae (Dv.s (.slice none 0 0)),Zae (Dv.s (.slice none 0 0)),Zae (Dv.s (.slice none 0 0)),Zae (Zam 1 xs0),Zae (i64 (TrT.iv (StT.tr s))),Zae (i64 (TrT.bg (StT.tr s))),Zae (i64 (TrT.fi (StT.tr s))),Zae (i64 (TrT.ct (StT.tr s))),Zae (i64 (TrT.sd (StT.tr s)))] false false 0]= [stB s1,Blk.mk [Zae (i64 (NotT.v (StT.no s1))),Zae (i64 (NotT.n (StT.no s1))),Zae (u64 (NotT.r (StT.no s1))),Zae (i64 (NotT.t (StT.no s1))),Zae (Dv.s (.slice none 0 0)),Zae (Dv.s (.slice none 0 0)),Zae (Dv.s (.slice none 0 0)),Zae (Zam 1 (digR (StT.pf s1))),Zae (i64 (TrT.iv (StT.tr s1))),Zae (i64 (TrT.bg (StT.tr s1))),Zae (i64 (TrT.fi (StT.tr s1))),Zae (i64 (TrT.ct (StT.tr s1))),Zae (i64 (TrT.sd (StT.tr s1)))] false false 0]∧∀(i:Int),∃(s2:StT),(smallS s2)∧Zbd lpCo2=Zbd lpCo2∧(Qz20 s1)=(Qz20 s2)∧(Qz17 s1)=(Qz17 s2)∧∀(i:Int),∃(s3:StT),(smallS s3)∧Zbd lpCo3=Zbd lpCo3∧(Qz21 s2)=(Qz21 s3)∧(Qz16 s2)=(Qz16 s3)∧∀(i:Int),RS (Zaz 2 0) [stB s3,Blk.mk (Qz11 s3) false false 0,stB s3] b):=by kernel_rfl
noncomputable def lpEq:Code:=sub [1,1,0,1,2,3] (code f122)
def tmEq (a c:List (List Dv)) (n i:Int):List AV:= [.d (.sl 1 a), .d (.sl 1 c)]++Zaf 10 .bad++ [.d (i64 n), .d (i64 i)]++Zaf 12 .bad
theorem rEq (a c:List (List Dv)) (n i:Int):wpc prog ⟨[], [],wl,y,false⟩ 100 lpEq (tmEq a c n i) [] b (maskT [0,1,4,12,13] K)=(BIf (decide (i<n)) (BIf (true&&decide (0≤i)) (∃(x0:Int),a[Zap i]? =some [u64 x0]∧BIf (true&&decide (0≤i)) (∃(x3:Int),c[Zap i]? =some [u64 x3]∧BIf (x0 !=x3) (K .ret (Zae (Zam 1 a)::Zae (Zam 1 c)::Zav::Zav::Zae (bo false)::bds 7 (Zae (i64 n)::Zae (i64 i)::bds 12 [])) [] b) (K .normal (Zae (Zam 1 a)::Zae (Zam 1 c)::bds 10 (Zae (i64 n)::Zae (i64 (Zaa .i64 (i+1)))::bds 12 [])) [] b)) False) False) (K (Zet 0) (Zae (Zam 1 a)::Zae (Zam 1 c)::bds 10 (Zae (i64 n)::Zae (i64 i)::bds 12 [])) [] b)):=by kernel_rfl
theorem wrEq {Ev:Env prog} {b:Ev.β} {Q:Exit→St Ev.β→Prop} (a c:List Int) (hl:a.length=c.length) (hb:a.length≤9223372036854775807) (h1:a=c→∀i:Int,Q (.exit 0) ⟨tmEq (digR a) (digR c) a.length i, [],b⟩) (h2:a≠c→∀i:Int,Q .ret ⟨(tmEq (digR a) (digR c) a.length i).set 4 (.d (bo false)), [],b⟩):
   WR Ev lpEq (a.length+1) ⟨tmEq (digR a) (digR c) a.length (0:Nat), [],b⟩ Q:=by
 refine Zex (X:=⟨[], [],wlW Ev,Ev.Y,false⟩) (k:=100) [0,1,4,12,13] mixed (CX.Ok.of Zah Zad) a.length (fun i=>nth a i !=nth c i) (fun i=>tmEq (digR a) (digR c) a.length (i:Nat)) (fun i=>(tmEq (digR a) (digR c) a.length (i:Nat)).set 4 (.d (bo false))) [] 0 (fun i hi K k1 k2=> ?_) (fun K k1=> ?_) (fun h=>h1 ?_ _) fun h i=>h2 ?_ _
 · rw [rEq]
   refine Zbl (by simp<;>omega) (Zbl (by simp) ⟨nth a i,by rw [Zax];exact digs_at hi,Zbl (by simp) ⟨nth c i,by rw [Zax];exact digs_at (by omega),Zan (fun g=>k1 g) fun g=> ?_⟩⟩)
   rw [wrap_succ hi hb];exact k2 g
 · rw [rEq]
   exact Zct (by simp) k1
 · rw [any_ne hl] at h;simpa using h
 · rw [any_ne hl] at h;simpa using h
def wlEq {β:Type}:WLT β:=fun t tm hp b K=>∃(a c:List Int) (z:Bool),t= .loop lpEq∧maskTm [0,1,12,13] 0 tm=tmEq (digR a) (digR c) (digR a).length 0∧hp= []∧((a.length=c.length∧a.length≤9223372036854775807)∧z=decide (a=c))∧
 BIf z (∀i:Int,K (.exit 0) (tmEq (digR a) (digR c) a.length i) [] b) (∀i:Int,K .ret ((tmEq (digR a) (digR c) a.length i).set 4 (.d (bo false))) [] b)
theorem wlEq_ok {Ev:Env prog} (c:Code) (tm:List AV) (hp:List Blk) (b:Ev.β) (K:Exit→List AV→List Blk→Ev.β→Prop) (h:wlEq c tm hp b K):W Ev c ⟨tm,hp,b⟩ (fun e s=>K e s.tm s.hp s.b):=by
 obtain ⟨a,d,z,rfl,htm,rfl,⟨⟨hl,hb⟩,hz⟩,hK⟩:=h
 rw [digR_len] at htm
 refine W.cast (htm▸maskTm_le _ tm 0) (Zbw _) ?_
 exact W.rounds (wrEq (Q:=fun e s=>K e s.tm s.hp s.b) a d hl hb (fun h=>by rw [hz,decide_eq_true h] at hK;exact hK) fun h=>by rw [hz,decide_eq_false h] at hK;exact hK)
theorem equal_nf (a c:List (List Dv)):wpFn prog ⟨[], [],wlEq,y,false⟩ 100 f122 [.d (.sl 1 a), .d (.sl 1 c)] b R=(BIf (((Zab a:Nat):Int) !=((Zab c:Nat):Int)) (R (.d (bo false)) b) (∃(a0:List Int) (c1:List Int) (z2:Bool),Zbd lpEq=Zbd lpEq∧(Zae (Zam 1 a)::Zae (Zam 1 c)::bds 10 (Zae (i64 ((Zab a:Nat):Int))::Zae (i64 0)::bds 12 []))=(Zae (Zam 1 (digR a0))::Zae (Zam 1 (digR c1))::bds 10 (Zae (i64 ((Zab (digR a0):Nat):Int))::Zae (i64 0)::bds 12 []))∧([]:List Blk)= []∧((Zab a0=Zab c1∧Zab a0≤9223372036854775807)∧z2=decide (a0=c1))∧BIf z2 (∀(i:Int),R (.d (bo true)) b) (∀(i:Int),R (.d (bo false)) b))):=by kernel_rfl
theorem pcEqual (a c:List Int) (ha:a.length≤9223372036854775807):PCall prog 122 [.d (.sl 1 (digR a)), .d (.sl 1 (digR c))] (.d (bo (decide (a=c)))):=by
 refine Zcp (n:=100) (u:=false) (fun _=>wlEq) mixed Zah Zad (fun Ev=>wlEq_ok) func122 (by rfl) (by rfl) fun Ev bb=> ?_
 rw [equal_nf,digR_len,digR_len]
 refine Zan (fun g=> ?_) fun g=>⟨a,c,_,rfl,by rw [digR_len],rfl,⟨⟨by simp at g;omega,ha⟩,rfl⟩,Zan (fun h i=>by rw [h]) fun h i=>by rw [h]⟩
 rw [decide_eq_false fun h=>by rw [h] at g;simp at g]
def cEqual (args:List AV) (K:AV→Prop):Prop:=∃(a c:List Int) (z:Bool),args= [.d (.sl 1 (digR a)), .d (.sl 1 (digR c))]∧(a.length≤9223372036854775807∧z=decide (a=c))∧K (.d (bo z))
theorem cEqual_ok:∀args K,cEqual args K→∃x,PCall prog 122 args x∧K x:=by
 rintro _ K ⟨a,c,_,rfl,⟨hl,rfl⟩,h⟩;exact ⟨_,pcEqual a c hl,h⟩
theorem pcCopied (s:StT) (hs:smallS s):FCall prog 47 [stV s] (.ptr 2 0) [stB s,outC s (.own 33 1 (partsR s.ps)) (.own 28 1 (proofsR s.qs)) (.own 71 2 (rowsR s.rows)),stB s]:=by
 refine Zey (n:=100) (u:=false) (fun _=>wlCo) mixed TCo_ok Zad (fun Ev=>wlCo_ok) func47 (by rfl) (by rfl) (by rfl) fun Ev bb=> ?_
 rw [copied_nf]
 exact ⟨_,rfl,by rw [digR_len];exact hs.2.2.2,s,hs,rfl,rfl,rfl,fun i=>⟨s,hs,rfl,rfl,rfl,fun i=>⟨s,hs,rfl,rfl,rfl,fun i=>⟨.rfl,rfl⟩⟩⟩⟩
def sCopied (args:List AV) (hp:List Blk) (K:AV→List Blk→Prop):Prop:=∃(s:StT),args= [stV s]∧smallS s∧
 K (.ptr (hp.length+2) 0) (hp++ [stB s,outC s (.own 33 1 (partsR s.ps)) (.own 28 1 (proofsR s.qs)) (.own 71 2 (rowsR s.rows)),stB s])
theorem sCopied_ok:∀args hp K,sCopied args hp K→∃x hp',SCall prog 47 args hp x hp'∧K x hp':=by
 rintro _ hp K ⟨s,rfl,hs,h⟩;exact ⟨_,_,(pcCopied s hs).toS rfl hp,h⟩
structure BlkT where
 n:Int
 s:Int
 d:List Int
 pf:List Int
def bkL (x:BlkT):List AV:= [.d (i64 x.n), .d (i64 x.s), .d (.sl 1 (bytesR x.d)), .d (.sl 1 (digR x.pf))]
def bkV (x:BlkT):AV:= .agg (bkL x)
def TRf:List (Nat×(List AV→(AV→Prop)→Prop)):= [(61,cSValid),(62,cSEmpty),(121,cSWhole),(122,cEqual)]
theorem TRf_ok:CallsOk prog TRf:=Zag cSValid_ok (Zag cSEmpty_ok (Zag cSWhole_ok (Zag cEqual_ok Zah)))
theorem refused_nf (s:StT) (x:BlkT):wpFn prog ⟨TRf, [],wl,y,false⟩ 100 f48 [.rptr (stD s),bkV x] b R=(∃(s0:StT) (z1:Bool), [Zbu (stD s)]= [Zbu (stD s0)]∧((smallS s0)∧z1=validP s0)∧BIf (!z1) (R (.d (i64 1)) b) (BIf (decide (BlkT.n x<(0:Int))) (R (.d (i64 1)) b) (BIf (decide (BlkT.n x≥(16:Int))) (R (.d (i64 1)) b) (BIf (decide (BlkT.s x<(0:Int))) (R (.d (i64 1)) b) (BIf (decide (BlkT.s x>(1000000000:Int))) (R (.d (i64 1)) b) (BIf (((Zab (bytesR (BlkT.d x)):Nat):Int) !=(16:Int)) (R (.d (i64 1)) b) (∃(s2:StT) (z3:Bool), [Zbu (stD s)]= [Zbu (stD s2)]∧((smallS s2)∧z3=emptyS s2)∧BIf z3 (R (.d (i64 4)) b) (∃(s4:StT) (z5:Bool), [Zbu (stD s)]= [Zbu (stD s4)]∧z5=fullP s4∧BIf z5 (R (.d (i64 10)) b) (BIf (decide (BlkT.n x<((Zab (partsR (StT.ps s)):Nat):Int))) (R (.d (i64 14)) b) (BIf (decide (BlkT.n x>((Zab (partsR (StT.ps s)):Nat):Int))) (R (.d (i64 6)) b) (BIf (decide (((Zab (rowsR (StT.rows s)):Nat):Int)>(0:Int))) (∃(a6:List Int) (c7:List Int) (z8:Bool), [Zae (Zam 1 (digR (BlkT.pf x))),Zae (Zam 1 (digR (StT.pf s)))]= [Zae (Zam 1 (digR a6)),Zae (Zam 1 (digR c7))]∧(Zab a6≤9223372036854775807∧z8=decide (a6=c7))∧BIf (!z8) (R (.d (i64 12)) b) (R (.d (i64 0)) b)) (R (.d (i64 0)) b)))))))))))):=by kernel_rfl
abbrev Qz3 (v0:StT):List AV:= [Zae (i64 (NotT.v (StT.no v0))),Zae (i64 (NotT.n (StT.no v0))),Zae (u64 (NotT.r (StT.no v0))),Zae (i64 (NotT.t (StT.no v0))),Zae (Zam 1 (partsR (StT.ps v0))),Zae (Zam 1 (proofsR (StT.qs v0))),Zae (Dv.s (.slice none 0 0)),Zae (Dv.s (.slice none 0 0)),Zae (i64 (TrT.iv (StT.tr v0))),Zae (i64 (TrT.bg (StT.tr v0))),Zae (i64 (TrT.fi (StT.tr v0))),Zae (i64 (TrT.ct (StT.tr v0))),Zae (i64 (TrT.sd (StT.tr v0)))]
theorem anew6_nf (b0 b1 b2 b3 b4:Blk) (s:StT) (e:Int):wpc prog ⟨[], [],wl,y,false⟩ 100 (code f50) (startTm f50 [.ptr 5 0, .d (i64 e)]) [b0,b1,b2,b3,b4,stB s] b (fnKS prog f50 RS)=(RS (AV.tup [Zbp (Qz3 s),Zae (i64 e)]) [b0,b1,b2,b3,b4,Blk.mk (Qz3 s) false false 0,Blk.mk (Qz3 s) false false 0] b):=by kernel_rfl
theorem anew7_nf (b0 b1 b2 b3 b4 b6:Blk) (s:StT) (e:Int):wpc prog ⟨[], [],wl,y,false⟩ 100 (code f50) (startTm f50 [.ptr 5 0, .d (i64 e)]) [b0,b1,b2,b3,b4,stB s,b6] b (fnKS prog f50 RS)=(RS (AV.tup [Zbp (Qz3 s),Zae (i64 e)]) [b0,b1,b2,b3,b4,Blk.mk (Qz3 s) false false 0,b6,Blk.mk (Qz3 s) false false 0] b):=by kernel_rfl
def badB (x:BlkT):Bool:=decide (x.n<0)||(decide (x.n≥16)||(decide (x.s<0)||(decide (x.s>1000000000)||((x.d.length:Int) !=16))))
def refusedS (s:StT) (x:BlkT):Int:=
 if (!validP s||badB x)=true then 1 else if emptyS s=true then 4 else if fullP s=true then 10 else if x.n<s.ps.length then 14 else if x.n>s.ps.length then 6 else if (!s.rows.isEmpty&& !decide (x.pf=s.pf))=true then 12 else 0
theorem pcRefused (s:StT) (x:BlkT) (hs:smallS s) (hx:x.pf.length≤1000000):PCall prog 48 [.rptr (stD s),bkV x] (.d (i64 (refusedS s x))):=by
 refine Zba (n:=100) (u:=false) mixed TRf_ok Zad func48 (by rfl) (by rfl) fun Ev bb=> ?_
 rw [refused_nf,partsR_len,rowsR_len,bytesR_len,len_gt0]
 have bad:(!validP s||badB x)=true→refusedS s x=1:=fun h=>by rw [refusedS,if_pos h]
 refine ⟨s,_,rfl,⟨hs,rfl⟩,Zan (fun h=>by rw [bad (by rw [h];rfl)]) fun h1=>Zan (fun h=>by rw [bad (by rw [badB,h];simp)]) fun h2=>Zan (fun h=>by rw [bad (by rw [badB,h];simp)]) fun h3=>Zan (fun h=>by rw [bad (by rw [badB,h];simp)]) fun h4=>Zan (fun h=>by rw [bad (by rw [badB,h];simp)]) fun h5=>Zan (fun h=>by rw [bad (by rw [badB,h];simp)]) fun h6=> ?_⟩
 have hb:¬(!validP s||badB x)=true:=by rw [h1,badB,h2,h3,h4,h5,h6];decide
 refine ⟨s,_,rfl,⟨hs,rfl⟩,Zan (fun h=>by rw [refusedS,if_neg hb,if_pos h]) fun g1=>⟨s,_,rfl,rfl,Zan (fun h=>by rw [refusedS,if_neg hb,if_neg (by rw [g1];decide),if_pos h]) fun g2=>Zan (fun h=> ?_) fun g3=>Zan (fun h=> ?_) fun g4=>Zan (fun g5=>⟨_,_,_,rfl,⟨by omega,rfl⟩,Zan (fun h=> ?_) fun g6=> ?_⟩) fun g5=> ?_⟩⟩
 all_goals rw [refusedS,if_neg hb,if_neg (by rw [g1];decide),if_neg (by rw [g2];decide)]
 · rw [if_pos (of_decide_eq_true h)]
 · rw [if_neg (of_decide_eq_false g3),if_pos (of_decide_eq_true h)]
 · rw [if_neg (of_decide_eq_false g3),if_neg (of_decide_eq_false g4),if_pos (by rw [g5,h];rfl)]
 · rw [if_neg (of_decide_eq_false g3),if_neg (of_decide_eq_false g4),if_neg (by rw [g6,Bool.and_false];decide)]
 · rw [if_neg (of_decide_eq_false g3),if_neg (of_decide_eq_false g4),if_neg (by rw [g5,Bool.false_and];decide)]
def cRefused (args:List AV) (K:AV→Prop):Prop:=∃(s:StT) (x:BlkT) (z:Int),args= [.rptr (stD s),bkV x]∧((smallS s∧x.pf.length≤1000000)∧z=refusedS s x)∧K (.d (i64 z))
theorem cRefused_ok:∀args K,cRefused args K→∃x,PCall prog 48 args x∧K x:=by
 rintro _ K ⟨s,x,_,rfl,⟨⟨hs,hx⟩,rfl⟩,h⟩;exact ⟨_,pcRefused s x hs hx,h⟩
def anL (s:StT):List AV:=noL s.no++ [.d (.sl 1 (partsR s.ps)), .d (.sl 1 (proofsR s.qs)), .d (.s (.slice none 0 0)), .d (.s (.slice none 0 0))]++trL s.tr
def anewS (s:StT):StT:=⟨s.no,s.ps,s.qs, [], [],s.tr⟩
theorem anew_body:Tryz.f50.body=some (code f50):=by rfl
theorem scAnew6 (b0 b1 b2 b3 b4:Blk) (s:StT) (e:Int):SCall prog 50 [.ptr 5 0, .d (i64 e)] [b0,b1,b2,b3,b4,stB s] (.tup [.agg (anL s), .d (i64 e)]) [b0,b1,b2,b3,b4,⟨anL s,false,false,0⟩,⟨anL s,false,false,0⟩]:=by
 refine Zeq (n:=100) (u:=false) mixed Zah Zad func50 anew_body (by rfl) fun Ev b=> ?_
 rw [anew6_nf]
 exact ⟨rfl,rfl⟩
theorem scAnew7 (b0 b1 b2 b3 b4 b6:Blk) (s:StT) (e:Int):SCall prog 50 [.ptr 5 0, .d (i64 e)] [b0,b1,b2,b3,b4,stB s,b6] (.tup [.agg (anL s), .d (i64 e)]) [b0,b1,b2,b3,b4,⟨anL s,false,false,0⟩,b6,⟨anL s,false,false,0⟩]:=by
 refine Zeq (n:=100) (u:=false) mixed Zah Zad func50 anew_body (by rfl) fun Ev b=> ?_
 rw [anew7_nf]
 exact ⟨rfl,rfl⟩
def sAnew (args:List AV) (hp:List Blk) (K:AV→List Blk→Prop):Prop:=match hp with
 | [b0,b1,b2,b3,b4,b5]=>∃(s:StT) (e:Int),args= [.ptr 5 0, .d (i64 e)]∧b5=stB s∧K (.tup [.agg (anL s), .d (i64 e)]) [b0,b1,b2,b3,b4,⟨anL s,false,false,0⟩,⟨anL s,false,false,0⟩]
 | [b0,b1,b2,b3,b4,b5,b6]=>∃(s:StT) (e:Int),args= [.ptr 5 0, .d (i64 e)]∧b5=stB s∧K (.tup [.agg (anL s), .d (i64 e)]) [b0,b1,b2,b3,b4,⟨anL s,false,false,0⟩,b6,⟨anL s,false,false,0⟩]
 |_=>False
theorem sAnew_ok:∀args hp K,sAnew args hp K→∃x hp',SCall prog 50 args hp x hp'∧K x hp':=by
 intro args hp K h
 unfold sAnew at h
 split at h
 · obtain ⟨s,e,rfl,rfl,h⟩:=h
   exact ⟨_,_,scAnew6 _ _ _ _ _ s e,h⟩
 · obtain ⟨s,e,rfl,rfl,h⟩:=h
   exact ⟨_,_,scAnew7 _ _ _ _ _ _ s e,h⟩
 · exact h.elim
def zeroSt:StT:=⟨⟨0,0,0,0⟩, [], [], [], [],⟨0,0,0,0,0⟩⟩
def putT (s:StT) (p q:List Int):StT×Int:=
 if soundT s=false∨p.length≠256 then (zeroSt,1) else if (s.ps.length:Int)=countS s.no.n then (zeroSt,10) else if provedS s.sp s.ps.length p q=false then (zeroSt,12)
 else (⟨s.no,s.ps++ [p],s.qs++ [q], [], [],s.tr⟩,0)
theorem putT_sp (s:StT) (p q:List Int):spV (putS s.sp p q).1=stV (putT s p q).1∧(putS s.sp p q).2=(putT s p q).2:=by
 unfold putS putT soundT
 by_cases h1:soundS s.sp=false∨p.length≠256
 · rw [if_pos h1,if_pos h1];exact ⟨rfl,rfl⟩
 · rw [if_neg h1,if_neg h1]
   by_cases h2:(s.ps.length:Int)=countS s.no.n
   · rw [if_pos (show (s.sp.ps.length:Int)=countS s.sp.no.n from h2),if_pos h2];exact ⟨rfl,rfl⟩
   · rw [if_neg (show ¬(s.sp.ps.length:Int)=countS s.sp.no.n from h2),if_neg h2]
     by_cases h3:provedS s.sp s.ps.length p q=false
     · rw [if_pos (show provedS s.sp s.sp.ps.length p q=false from h3),if_pos h3];exact ⟨rfl,rfl⟩
     · rw [if_neg (show ¬provedS s.sp s.sp.ps.length p q=false from h3),if_neg h3];exact ⟨rfl,rfl⟩
def okPut (s:StT) (q:List Int):Prop:=s.ps.length≤9223372036854775807∧q.length≤1000000∧∀x∈s.qs,x.length≤1000000
theorem pcPutT (s:StT) (p q:List Int) (h:okPut s q):PCall prog 53 [stV s, .d (.sl 1 (bytesR p)), .d (.sl 1 (digR q))] (.tup [stV (putT s p q).1, .d (i64 (putT s p q).2)]):=by
 have:=pcPut s.sp p q h.1 h.2.1 h.2.2
 rw [(putT_sp s p q).1,(putT_sp s p q).2] at this
 exact this
def cPutT (args:List AV) (K:AV→Prop):Prop:=∃(s:StT) (p q:List Int) (z:StT) (e:Int),args= [stV s, .d (.sl 1 (bytesR p)), .d (.sl 1 (digR q))]∧(okPut s q∧(z,e)=putT s p q)∧K (.tup [stV z, .d (i64 e)])
theorem cPutT_ok:∀args K,cPutT args K→∃x,PCall prog 53 args x∧K x:=by
 rintro _ K ⟨s,p,q,z,e,rfl,⟨h1,he⟩,h⟩
 have:=pcPutT s p q h1
 rw [←he] at this
 exact ⟨_,this,h⟩
def cRecB (args:List AV) (K:AV→Prop):Prop:=∃(l:List Row) (x:BlkT) (z:List Row) (n:Bool) (e:Int),args= [.d (.sl 2 (rowsR l)),bkV x]∧(2*l.length≤1000000∧(z,n,e)=recS l x.n x.s x.d)∧K (.tup [.d (.sl 2 (rowsR z)), .d (bo n), .d (i64 e)])
theorem cRecB_ok:∀args K,cRecB args K→∃x,PCall prog 49 args x∧K x:=by
 rintro _ K ⟨l,x,z,n,e,rfl,⟨h1,he⟩,h⟩
 have:=pcReceive l x.n x.s x.d (digR x.pf) h1
 rw [←he] at this
 exact ⟨_,this,h⟩
def cPageB (args:List AV) (K:AV→Prop):Prop:=∃(l:List Row) (z:List Int) (e:Bool),args= [.d (.sl 2 (rowsR l))]∧(l.length≤9223372036854775807∧(z,e)=pagesS l)∧K (.tup [.d (.sl 1 (bytesR z)), .d (bo e)])
theorem cPageB_ok:∀args K,cPageB args K→∃x,PCall prog 52 args x∧K x:=by
 rintro _ K ⟨l,z,e,rfl,⟨h1,he⟩,h⟩
 have:=pcPage l h1
 rw [←he] at this
 exact ⟨_,this,h⟩
def TRc:List (Nat×(List AV→(AV→Prop)→Prop)):= [(49,cRecB),(51,cClone50),(52,cPageB),(53,cPutT)]
theorem TRc_ok:CallsOk prog TRc:=Zag cRecB_ok (Zag cClone50_ok (Zag cPageB_ok (Zag cPutT_ok Zah)))
def SRc:List (Nat×(List AV→List Blk→(AV→List Blk→Prop)→Prop)):= [(47,sCopied),(48,lendC cRefused),(50,sAnew)]
theorem SRc_ok:SCallsOk prog SRc:=Zbt sCopied_ok (Zbt (lendC_ok cRefused_ok) (Zbt sAnew_ok Zad))
abbrev Qz12 (v0:StT) (v1:List Row) (v2:List (List Dv)):List AV:= [Zae (i64 (NotT.v (StT.no v0))),Zae (i64 (NotT.n (StT.no v0))),Zae (u64 (NotT.r (StT.no v0))),Zae (i64 (NotT.t (StT.no v0))),Zae (Zam 1 (partsR (StT.ps v0))),Zae (Zam 1 (proofsR (StT.qs v0))),Zae (Zam 2 (rowsR v1)),Zae (Zam 1 v2),Zae (i64 (TrT.iv (StT.tr v0))),Zae (i64 (TrT.bg (StT.tr v0))),Zae (i64 (TrT.fi (StT.tr v0))),Zae (i64 (TrT.ct (StT.tr v0))),Zae (i64 (TrT.sd (StT.tr v0)))]
theorem sreceive_nf (s:StT) (x:BlkT):wpFn prog ⟨TRc,SRc,wl,y,false⟩ 100 f15 [stV s,bkV x] b R=(∃(s0:StT), [stV s]= [stV s0]∧(smallS s0)∧∃(s1:StT) (x2:BlkT) (z3:Int), [Zbu (stD s0),bkV x]= [Zbu (stD s1),bkV x2]∧(((smallS s1)∧Zab (BlkT.pf x2)≤1000000)∧z3=refusedS s1 x2)∧BIf (z3 !=(0:Int)) (R (.tup [stV s0,Zae (i64 z3)]) b) (∃(l4:List Row) (x5:BlkT) (z6:List Row) (n7:Bool) (e8:Int), [Zae (Zam 2 (rowsR (StT.rows s0))),bkV x]= [Zae (Zam 2 (rowsR l4)),bkV x5]∧(2*Zab l4≤1000000∧(z6,n7,e8)=recS l4 (BlkT.n x5) (BlkT.s x5) (BlkT.d x5))∧BIf (e8 !=(0:Int)) (∃(s9:StT) (e10:Int), [Zaz 5 0,Zae (i64 e8)]= [Zaz 5 0,Zae (i64 e10)]∧stB s0=stB s9∧R (.tup [Zbp (Qz3 s9),Zae (i64 e10)]) b) (∃(xs11:List (List Dv)), [Zae (Zam 1 (digR (BlkT.pf x)))]= [Zae (Zam 1 xs11)]∧Zab xs11≤1000000∧∃(l12:List Row) (z13:List Int) (e14:Bool), [Zae (Zam 2 (rowsR z6))]= [Zae (Zam 2 (rowsR l12))]∧(Zab l12≤9223372036854775807∧(z13,e14)=pagesS l12)∧BIf (!e14) (R (.tup [Zbp (Qz12 s0 z6 xs11),Zae (i64 0)]) b) (∃(s15:StT) (p16:List Int) (q17:List Int) (z18:StT) (e19:Int), [Zbp (Qz12 s0 z6 xs11),Zae (Zam 1 (bytesR z13)),Zae (Zam 1 (digR (BlkT.pf x)))]= [stV s15,Zae (Zam 1 (bytesR p16)),Zae (Zam 1 (digR q17))]∧((Zab (StT.ps s15)≤9223372036854775807∧Zab q17≤1000000∧∀(x:List Int),x∈StT.qs s15→Zab x≤1000000)∧(z18,e19)=putT s15 p16 q17)∧BIf (e19 !=(0:Int)) (∃(s20:StT) (e21:Int), [Zaz 5 0,Zae (i64 12)]= [Zaz 5 0,Zae (i64 e21)]∧Blk.mk (Qz12 s0 z6 xs11) false false 0=stB s20∧R (.tup [Zbp (Qz3 s20),Zae (i64 e21)]) b) (R (.tup [stV z18,Zae (i64 0)]) b))))):=by kernel_rfl
set_option maxHeartbeats 1000000
def nextSt (s:StT) (x:BlkT):StT:=⟨s.no,s.ps,s.qs,(recS s.rows x.n x.s x.d).1,x.pf,s.tr⟩
def recvT (s:StT) (x:BlkT):StT×Int:=
 if refusedS s x≠0 then (s,refusedS s x) else if (recS s.rows x.n x.s x.d).2.2≠0 then (anewS s,(recS s.rows x.n x.s x.d).2.2)
 else if (pagesS (recS s.rows x.n x.s x.d).1).2=false then (nextSt s x,0)
 else if (putT (nextSt s x) (pagesS (recS s.rows x.n x.s x.d).1).1 x.pf).2≠0 then (anewS s,12) else ((putT (nextSt s x) (pagesS (recS s.rows x.n x.s x.d).1).1 x.pf).1,0)
theorem anLe (s:StT) (e:Int):LeV (.tup [.agg (anL s), .d (i64 e)]) (.tup [stV (anewS s), .d (i64 e)]):=
 Zdo (.cons (LeV.aggs (.cons .rfl (.cons .rfl (.cons .rfl (.cons .rfl (.cons .rfl (.cons .rfl (.cons (.nil rfl) (.cons (.nil rfl) (LeVs.refl _)))))))))) (.cons .rfl .nil))
theorem pcSReceive (s:StT) (x:BlkT) (hs:smallS s) (hx:x.pf.length≤1000000):PCall prog 15 [stV s,bkV x] (.tup [stV (recvT s x).1, .d (i64 (recvT s x).2)]):=by
 refine Zdh (n:=100) (u:=false) (fun _=>wlNo _) mixed TRc_ok SRc_ok (fun Ev=>wlNo_ok Ev) func15 (by rfl) (by rfl) fun Ev bb=> ?_
 rw [sreceive_nf]
 have hl:=hs.2.2.1.1
 refine ⟨s,rfl,hs,s,x,_,rfl,⟨⟨hs,hx⟩,rfl⟩,Zan (fun h=> ?_) fun g1=> ?_⟩
 · rw [recvT,if_pos (by simpa using h)];exact .rfl
 have g1:refusedS s x=0:=by simpa using g1
 refine ⟨s.rows,x,(recS s.rows x.n x.s x.d).1,(recS s.rows x.n x.s x.d).2.1,(recS s.rows x.n x.s x.d).2.2,rfl,⟨by omega,rfl⟩,Zan (fun h=> ?_) fun g2=> ?_⟩
 · refine ⟨s,_,rfl,rfl, ?_⟩
   rw [recvT,if_neg (by rw [g1];simp),if_pos (by simpa using h)]
   exact anLe s _
 have g2:(recS s.rows x.n x.s x.d).2.2=0:=by simpa using g2
 have hr:=rec_len s.rows x.n x.s x.d
 refine ⟨_,rfl,by rw [digR_len];exact hx,(recS s.rows x.n x.s x.d).1,(pagesS (recS s.rows x.n x.s x.d).1).1,(pagesS (recS s.rows x.n x.s x.d).1).2,rfl,⟨by omega,rfl⟩,Zan (fun h=> ?_) fun g3=> ?_⟩
 · rw [recvT,if_neg (by rw [g1];simp),if_neg (by rw [g2];simp),if_pos (nbt h)]
   exact .rfl
 have g3:=nbf g3
 refine ⟨nextSt s x,_,x.pf,(putT (nextSt s x) (pagesS (recS s.rows x.n x.s x.d).1).1 x.pf).1,(putT (nextSt s x) (pagesS (recS s.rows x.n x.s x.d).1).1 x.pf).2,rfl,⟨⟨by have:=hs.1.1;show s.ps.length≤_;omega,hx,hs.2.1.2⟩,rfl⟩,Zan (fun h=> ?_) fun g4=> ?_⟩
 · refine ⟨nextSt s x,_,rfl,rfl, ?_⟩
   rw [recvT,if_neg (by rw [g1];simp),if_neg (by rw [g2];simp),if_neg (by rw [g3];simp),if_pos (by simpa using h)]
   exact anLe (nextSt s x) 12
 · rw [recvT,if_neg (by rw [g1];simp),if_neg (by rw [g2];simp),if_neg (by rw [g3];simp),if_neg (by simpa using g4)]
   exact .rfl
def cSReceive (args:List AV) (K:AV→Prop):Prop:=∃(s:StT) (x:BlkT) (z:StT) (e:Int),args= [stV s,bkV x]∧((smallS s∧x.pf.length≤1000000)∧(z,e)=recvT s x)∧K (.tup [stV z, .d (i64 e)])
theorem cSReceive_ok:∀args K,cSReceive args K→∃x,PCall prog 15 args x∧K x:=by
 rintro _ K ⟨s,x,z,e,rfl,⟨⟨h1,h2⟩,he⟩,h⟩
 have:=pcSReceive s x h1 h2
 rw [←he] at this
 exact ⟨_,this,h⟩
def noV (n:NotT):AV:= .agg (noL n)
def cAnnN (args:List AV) (K:AV→Prop):Prop:=∃(n:NotT) (z:Bool),args= [noV n]∧z=announcedS n.v n.n n.t∧K (.d (bo z))
theorem cAnnN_ok:∀args K,cAnnN args K→∃x,PCall prog 70 args x∧K x:=by
 rintro _ K ⟨n,_,rfl,rfl,h⟩;exact ⟨_,pcSAnn n.v n.n n.r n.t,h⟩
def cCntN (args:List AV) (K:AV→Prop):Prop:=∃(n:NotT) (z:Int),args= [noV n]∧z=countS n.n∧K (.d (i64 z))
theorem cCntN_ok:∀args K,cCntN args K→∃x,PCall prog 71 args x∧K x:=by
 rintro _ K ⟨n,_,rfl,rfl,h⟩;exact ⟨_,pcSCount n.v n.n n.r n.t,h⟩
def THr:List (Nat×(List AV→(AV→Prop)→Prop)):= [(70,cAnnN),(71,cCntN),(72,cTNew),(73,cTReset),(74,cTHear)]
theorem THr_ok:CallsOk prog THr:=Zag cAnnN_ok (Zag cCntN_ok (Zag cTNew_ok (Zag cTReset_ok (Zag cTHear_ok Zah))))
def SHr:List (Nat×(List AV→List Blk→(AV→List Blk→Prop)→Prop)):= [(47,sCopied),(61,lendC cSValid)]
theorem SHr_ok:SCallsOk prog SHr:=Zbt sCopied_ok (Zbt (lendC_ok cSValid_ok) Zad)
abbrev Qz2 (v0:StT) (v1:TrT):List AV:= [Zae (i64 (NotT.v (StT.no v0))),Zae (i64 (NotT.n (StT.no v0))),Zae (u64 (NotT.r (StT.no v0))),Zae (i64 (NotT.t (StT.no v0))),Zae (Zam 1 (partsR (StT.ps v0))),Zae (Zam 1 (proofsR (StT.qs v0))),Zae (Zam 2 (rowsR (StT.rows v0))),Zae (Zam 1 (digR (StT.pf v0))),Zae (i64 (TrT.iv v1)),Zae (i64 (TrT.bg v1)),Zae (i64 (TrT.fi v1)),Zae (i64 (TrT.ct v1)),Zae (i64 (TrT.sd v1))]
abbrev Qz10 (v0:NotT) (v1:TrT):List AV:= [Zae (i64 (NotT.v v0)),Zae (i64 (NotT.n v0)),Zae (u64 (NotT.r v0)),Zae (i64 (NotT.t v0)),Zae (Dv.s (.slice none 0 0)),Zae (Dv.s (.slice none 0 0)),Zae (Dv.s (.slice none 0 0)),Zae (Dv.s (.slice none 0 0)),Zae (i64 (TrT.iv v1)),Zae (i64 (TrT.bg v1)),Zae (i64 (TrT.fi v1)),Zae (i64 (TrT.ct v1)),Zae (i64 (TrT.sd v1))]
abbrev Qz26 (v0:StT) (v1:Int):List AV:= [Zbp (trL (StT.tr v0)),Zae (i64 v1)]
abbrev Qz36 (v0:StT) (v1:Int):List AV:= [Zae (i64 (TrT.sd (StT.tr v0))),Zae (i64 v1)]
theorem shear_nf (s:StT) (n:NotT) (p f:Int):wpFn prog ⟨THr,SHr,wl,y,false⟩ 100 f21 [stV s,noV n, .d (i64 p), .d (i64 f)] b R=(∃(s0:StT), [stV s]= [stV s0]∧(smallS s0)∧∃(s1:StT) (z2:Bool), [Zbu (stD s0)]= [Zbu (stD s1)]∧((smallS s1)∧z2=validP s1)∧BIf (!z2) (R (stV s0) b) (BIf (!(NotT.v n==(0:Int)&&(NotT.n n==(0:Int)&&(NotT.r n==(0:Int)&&(NotT.t n==(0:Int)&&true))))) (∃(n3:NotT) (z4:Bool), [noV n]= [noV n3]∧z4=announcedS (NotT.v n3) (NotT.n n3) (NotT.t n3)∧BIf (!z4) (R (stV s0) b) (BIf (decide (p<(0:Int))) (R (stV s0) b) (∃(n5:NotT) (z6:Int), [noV n]= [noV n5]∧z6=countS (NotT.n n5)∧BIf (decide (p>z6)) (R (stV s0) b) (BIf (decide (f<(0:Int))) (R (stV s0) b) (BIf (decide (f>(999999984:Int))) (R (stV s0) b) (BIf (!(NotT.v n==(0:Int)&&(NotT.n n==(0:Int)&&(NotT.r n==(0:Int)&&(NotT.t n==(0:Int)&&true))))) (BIf (decide (NotT.v n>NotT.v (StT.no s0))) (∃(s7:Int) (f8:Int) (z9:TrT) (e10:Int),(Qz36 s0 f)= [Zae (i64 s7),Zae (i64 f8)]∧(z9,e10)=newT s7 f8∧R (.agg (Qz10 n z9)) b) (BIf (decide (NotT.v n<NotT.v (StT.no s0))) (∃(t11:TrT) (f12:Int) (z13:TrT),(Qz26 s0 f)= [trV t11,Zae (i64 f12)]∧z13=resetT t11 f12∧R (.agg (Qz2 s0 z13)) b) (BIf (NotT.v n==NotT.v (StT.no s0)&&(NotT.n n==NotT.n (StT.no s0)&&(NotT.r n==NotT.r (StT.no s0)&&(NotT.t n==NotT.t (StT.no s0)&&true)))) (BIf (p !=((Zab (partsR (StT.ps s0)):Nat):Int)) (∃(t14:TrT) (f15:Int) (z16:TrT),(Qz26 s0 f)= [trV t14,Zae (i64 f15)]∧z16=resetT t14 f15∧R (.agg (Qz2 s0 z16)) b) (BIf (NotT.v n==NotT.v (StT.no s0)&&(NotT.n n==NotT.n (StT.no s0)&&(NotT.r n==NotT.r (StT.no s0)&&(NotT.t n==NotT.t (StT.no s0)&&true)))) (∃(t17:TrT) (z18:TrT), [Zbp (trL (StT.tr s0))]= [trV t17]∧z18=hearT t17∧R (.agg (Qz2 s0 z18)) b) (R (stV s0) b))) (BIf (NotT.v n==NotT.v (StT.no s0)&&(NotT.n n==NotT.n (StT.no s0)&&(NotT.r n==NotT.r (StT.no s0)&&(NotT.t n==NotT.t (StT.no s0)&&true)))) (∃(t19:TrT) (z20:TrT), [Zbp (trL (StT.tr s0))]= [trV t19]∧z20=hearT t19∧R (.agg (Qz2 s0 z20)) b) (R (stV s0) b))))) (BIf (decide (NotT.v n>NotT.v (StT.no s0))) (∃(s21:Int) (f22:Int) (z23:TrT) (e24:Int),(Qz36 s0 f)= [Zae (i64 s21),Zae (i64 f22)]∧(z23,e24)=newT s21 f22∧R (.agg (Qz10 n z23)) b) (BIf (decide (NotT.v n<NotT.v (StT.no s0))) (∃(t25:TrT) (f26:Int) (z27:TrT),(Qz26 s0 f)= [trV t25,Zae (i64 f26)]∧z27=resetT t25 f26∧R (.agg (Qz2 s0 z27)) b) (R (stV s0) b))))))))) (BIf (decide (p<(0:Int))) (R (stV s0) b) (∃(n28:NotT) (z29:Int), [noV n]= [noV n28]∧z29=countS (NotT.n n28)∧BIf (decide (p>z29)) (R (stV s0) b) (BIf (decide (f<(0:Int))) (R (stV s0) b) (BIf (decide (f>(999999984:Int))) (R (stV s0) b) (BIf (!(NotT.v n==(0:Int)&&(NotT.n n==(0:Int)&&(NotT.r n==(0:Int)&&(NotT.t n==(0:Int)&&true))))) (BIf (decide (NotT.v n>NotT.v (StT.no s0))) (∃(s30:Int) (f31:Int) (z32:TrT) (e33:Int),(Qz36 s0 f)= [Zae (i64 s30),Zae (i64 f31)]∧(z32,e33)=newT s30 f31∧R (.agg (Qz10 n z32)) b) (BIf (decide (NotT.v n<NotT.v (StT.no s0))) (∃(t34:TrT) (f35:Int) (z36:TrT),(Qz26 s0 f)= [trV t34,Zae (i64 f35)]∧z36=resetT t34 f35∧R (.agg (Qz2 s0 z36)) b) (BIf (NotT.v n==NotT.v (StT.no s0)&&(NotT.n n==NotT.n (StT.no s0)&&(NotT.r n==NotT.r (StT.no s0)&&(NotT.t n==NotT.t (StT.no s0)&&true)))) (BIf (p !=((Zab (partsR (StT.ps s0)):Nat):Int)) (∃(t37:TrT) (f38:Int) (z39:TrT),(Qz26 s0 f)= [trV t37,Zae (i64 f38)]∧z39=resetT t37 f38∧R (.agg (Qz2 s0 z39)) b) (BIf (NotT.v n==NotT.v (StT.no s0)&&(NotT.n n==NotT.n (StT.no s0)&&(NotT.r n==NotT.r (StT.no s0)&&(NotT.t n==NotT.t (StT.no s0)&&true)))) (∃(t40:TrT) (z41:TrT), [Zbp (trL (StT.tr s0))]= [trV t40]∧z41=hearT t40∧R (.agg (Qz2 s0 z41)) b) (R (stV s0) b))) (BIf (NotT.v n==NotT.v (StT.no s0)&&(NotT.n n==NotT.n (StT.no s0)&&(NotT.r n==NotT.r (StT.no s0)&&(NotT.t n==NotT.t (StT.no s0)&&true)))) (∃(t42:TrT) (z43:TrT), [Zbp (trL (StT.tr s0))]= [trV t42]∧z43=hearT t42∧R (.agg (Qz2 s0 z43)) b) (R (stV s0) b))))) (BIf (decide (NotT.v n>NotT.v (StT.no s0))) (∃(s44:Int) (f45:Int) (z46:TrT) (e47:Int),(Qz36 s0 f)= [Zae (i64 s44),Zae (i64 f45)]∧(z46,e47)=newT s44 f45∧R (.agg (Qz10 n z46)) b) (BIf (decide (NotT.v n<NotT.v (StT.no s0))) (∃(t48:TrT) (f49:Int) (z50:TrT),(Qz26 s0 f)= [trV t48,Zae (i64 f49)]∧z50=resetT t48 f49∧R (.agg (Qz2 s0 z50)) b) (R (stV s0) b)))))))))):=by kernel_rfl
def eqN (a c:NotT):Bool:=a.v==c.v&&(a.n==c.n&&(a.r==c.r&&a.t==c.t))
theorem eqN_iff {a c:NotT}:eqN a c=true↔a=c:=by
 obtain ⟨a1,a2,a3,a4⟩:=a
 obtain ⟨c1,c2,c3,c4⟩:=c
 simp [eqN]
def okHear (s:StT) (n:NotT) (p f:Int):Bool:=validP s&&(zeroN n||announcedS n.v n.n n.t)&&decide (0≤p)&&decide (p≤countS n.n)&&frameS f
def withTr (s:StT) (t:TrT):StT:=⟨s.no,s.ps,s.qs,s.rows,s.pf,t⟩
def hearS (s:StT) (n:NotT) (p f:Int):StT:=
 if okHear s n p f=false then s else if n.v>s.no.v then ⟨n, [], [], [], [],(newT s.tr.sd f).1⟩
 else if n.v<s.no.v then withTr s (resetT s.tr f) else if (!zeroN n&&eqN n s.no)=true then (if p≠s.ps.length then withTr s (resetT s.tr f) else withTr s (hearT s.tr)) else s
theorem pcSHear (s:StT) (n:NotT) (p f:Int) (hs:smallS s):PCall prog 21 [stV s,noV n, .d (i64 p), .d (i64 f)] (stV (hearS s n p f)):=by
 refine Zdh (n:=100) (u:=false) (fun _=>wlNo _) mixed THr_ok SHr_ok (fun Ev=>wlNo_ok Ev) func21 (by rfl) (by rfl) fun Ev bb=> ?_
 rw [shear_nf]
 refine ⟨s,rfl,hs,s,_,rfl,⟨hs,rfl⟩, ?_⟩
 have hz:(NotT.v n==(0:Int)&&(NotT.n n==(0:Int)&&(NotT.r n==(0:Int)&&(NotT.t n==(0:Int)&&true))))=zeroN n:=by simp only [zeroN,Bool.and_true]
 have he:(NotT.v n==NotT.v (StT.no s)&&(NotT.n n==NotT.n (StT.no s)&&(NotT.r n==NotT.r (StT.no s)&&(NotT.t n==NotT.t (StT.no s)&&true))))=eqN n s.no:=by simp only [eqN,Bool.and_true]
 rw [hz,he,partsR_len]
 have bad:okHear s n p f=false→LeV (stV s) (stV (hearS s n p f)):=fun h=>by rw [hearS,if_pos h];exact .rfl
 have bV:(!validP s)=true→LeV (stV s) (stV (hearS s n p f)):=fun h=>bad (by rw [okHear,nbt h];rfl)
 have bP:decide (p<0)=true→LeV (stV s) (stV (hearS s n p f)):=fun h=>bad (by rw [okHear,decide_eq_false (p:=0≤p) (by have:=of_decide_eq_true h;omega)];simp)
 have bC:decide (p>countS n.n)=true→LeV (stV s) (stV (hearS s n p f)):=fun h=>bad (by rw [okHear,decide_eq_false (p:=p≤countS n.n) (by have:=of_decide_eq_true h;omega)];simp)
 have bF0:decide (f<0)=true→LeV (stV s) (stV (hearS s n p f)):=fun h=>bad (by rw [okHear,show frameS f=false from Zcr.2 fun h'=>by have:=inS_iff.1 h';have:=of_decide_eq_true h;omega];simp)
 have bF1:decide (f>999999984)=true→LeV (stV s) (stV (hearS s n p f)):=fun h=>bad (by rw [okHear,show frameS f=false from Zcr.2 fun h'=>by have:=inS_iff.1 h';have:=of_decide_eq_true h;omega];simp)
 have good:(!validP s)=false→(zeroN n||announcedS n.v n.n n.t)=true→decide (p<0)=false→decide (p>countS n.n)=false→decide (f<0)=false→decide (f>999999984)=false→¬okHear s n p f=false:=by
   intro h1 h2 h3 h4 h5 h6
   have h3:=of_decide_eq_false h3
   have h4:=of_decide_eq_false h4
   have h5:=of_decide_eq_false h5
   have h6:=of_decide_eq_false h6
   rw [okHear,nbf h1,h2,decide_eq_true (p:=0≤p) (by omega),decide_eq_true (p:=p≤countS n.n) (by omega),show frameS f=true from inS_iff.2 (by omega)]
   decide
 have newer:¬okHear s n p f=false→decide (n.v>s.no.v)=true→LeV (Zbp [Zae (i64 n.v),Zae (i64 n.n),Zae (u64 n.r),Zae (i64 n.t),Zae (Dv.s (Zbo none 0 0)),Zae (Dv.s (Zbo none 0 0)),Zae (Dv.s (Zbo none 0 0)),Zae (Dv.s (Zbo none 0 0)),Zae (i64 (newT s.tr.sd f).1.iv),Zae (i64 (newT s.tr.sd f).1.bg),Zae (i64 (newT s.tr.sd f).1.fi),Zae (i64 (newT s.tr.sd f).1.ct),Zae (i64 (newT s.tr.sd f).1.sd)]) (stV (hearS s n p f)):=by
   intro h1 h2
   rw [hearS,if_neg h1,if_pos (of_decide_eq_true h2)]
   exact LeV.aggs (.cons .rfl (.cons .rfl (.cons .rfl (.cons .rfl (.cons (.nil rfl) (.cons (.nil rfl) (.cons (.nil rfl) (.cons (.nil rfl) (LeVs.refl _)))))))))
 have older:¬okHear s n p f=false→decide (n.v>s.no.v)=false→decide (n.v<s.no.v)=true→hearS s n p f=withTr s (resetT s.tr f):=by
   intro h1 h2 h3
   rw [hearS,if_neg h1,if_neg (of_decide_eq_false h2),if_pos (of_decide_eq_true h3)]
 have rest:¬okHear s n p f=false→decide (n.v>s.no.v)=false→decide (n.v<s.no.v)=false→hearS s n p f=if (!zeroN n&&eqN n s.no)=true then (if p≠s.ps.length then withTr s (resetT s.tr f) else withTr s (hearT s.tr)) else s:=by
   intro h1 h2 h3
   rw [hearS,if_neg h1,if_neg (of_decide_eq_false h2),if_neg (of_decide_eq_false h3)]
 cases hzz:zeroN n<;>cases hee:eqN n s.no<;>simp only [Bool.not_true,Bool.not_false,BIf_true,BIf_false]<;>simp only [hzz,hee] at good rest
 · refine Zan bV fun g1=>⟨n,_,rfl,rfl,Zan (fun h=>bad (by rw [okHear,hzz,nbt h];simp)) fun g2=>Zan bP fun g3=>⟨n,_,rfl,rfl,Zan bC fun g4=>Zan bF0 fun g5=>Zan bF1 fun g6=> ?_⟩⟩
   have g:=good g1 (by rw [nbf g2];rfl) g3 g4 g5 g6
   refine Zan (fun h=>⟨_,_,_,_,rfl,rfl,newer g h⟩) fun g7=>Zan (fun h=>⟨s.tr,_,_,rfl,rfl, ?_⟩) fun g8=> ?_
   · rw [older g g7 h];exact .rfl
   · rw [rest g g7 g8];exact .rfl
 · refine Zan bV fun g1=>⟨n,_,rfl,rfl,Zan (fun h=>bad (by rw [okHear,hzz,nbt h];simp)) fun g2=>Zan bP fun g3=>⟨n,_,rfl,rfl,Zan bC fun g4=>Zan bF0 fun g5=>Zan bF1 fun g6=> ?_⟩⟩
   have g:=good g1 (by rw [nbf g2];rfl) g3 g4 g5 g6
   refine Zan (fun h=>⟨_,_,_,_,rfl,rfl,newer g h⟩) fun g7=>Zan (fun h=>⟨s.tr,_,_,rfl,rfl, ?_⟩) fun g8=>Zan (fun h=>⟨s.tr,_,_,rfl,rfl, ?_⟩) fun h=>⟨s.tr,_,rfl,rfl, ?_⟩
   · rw [older g g7 h];exact .rfl
   · rw [rest g g7 g8,if_pos (c:=(!false&&true)=true) rfl,if_pos (by simpa using h)];exact .rfl
   · rw [rest g g7 g8,if_pos (c:=(!false&&true)=true) rfl,if_neg (by simpa using h)];exact .rfl
 · refine Zan bV fun g1=>Zan bP fun g3=>⟨n,_,rfl,rfl,Zan bC fun g4=>Zan bF0 fun g5=>Zan bF1 fun g6=> ?_⟩
   have g:=good g1 rfl g3 g4 g5 g6
   refine Zan (fun h=>⟨_,_,_,_,rfl,rfl,newer g h⟩) fun g7=>Zan (fun h=>⟨s.tr,_,_,rfl,rfl, ?_⟩) fun g8=> ?_
   · rw [older g g7 h];exact .rfl
   · rw [rest g g7 g8];exact .rfl
 · refine Zan bV fun g1=>Zan bP fun g3=>⟨n,_,rfl,rfl,Zan bC fun g4=>Zan bF0 fun g5=>Zan bF1 fun g6=> ?_⟩
   have g:=good g1 rfl g3 g4 g5 g6
   refine Zan (fun h=>⟨_,_,_,_,rfl,rfl,newer g h⟩) fun g7=>Zan (fun h=>⟨s.tr,_,_,rfl,rfl, ?_⟩) fun g8=> ?_
   · rw [older g g7 h];exact .rfl
   · rw [rest g g7 g8];exact .rfl
def cSHear (args:List AV) (K:AV→Prop):Prop:=∃(s:StT) (n:NotT) (p f:Int) (z:StT),args= [stV s,noV n, .d (i64 p), .d (i64 f)]∧(smallS s∧z=hearS s n p f)∧K (stV z)
theorem cSHear_ok:∀args K,cSHear args K→∃x,PCall prog 21 args x∧K x:=by
 rintro _ K ⟨s,n,p,f,_,rfl,⟨h1,rfl⟩,h⟩;exact ⟨_,pcSHear s n p f h1,h⟩
structure NearT where
 x0:Int
 x1:Int
 x2:Int
 x3:Int
 x4:Int
 x5:Int
 x6:Int
 x7:Int
 x8:Int
 x9:Int
 x10:Int
 x11:Int
 s12:List (List Dv)
 s13:List (List Dv)
 s14:List (List Dv)
 s15:List (List Dv)
 b16:Bool
 s17:List (List Dv)
 s18:List (List Dv)
 s19:List (List Dv)
 no:NotT
 pg:Int
 x25:Int
 x26:Int
 x27:Int
 s28:List (List Dv)
 s29:List (List Dv)
 b30:Bool
def nearD (x:NearT):List Dv:= [i64 x.x0,i64 x.x1,i64 x.x2,i64 x.x3,i64 x.x4,i64 x.x5,i64 x.x6,i64 x.x7,i64 x.x8,i64 x.x9,i64 x.x10,i64 x.x11, .sl 4 x.s12, .sl 5 x.s13, .sl 3 x.s14, .sl 4 x.s15,bo x.b16, .sl 8 x.s17, .sl 8 x.s18, .sl 1 x.s19,i64 x.no.v,i64 x.no.n,u64 x.no.r,i64 x.no.t,i64 x.pg,i64 x.x25,i64 x.x26,i64 x.x27, .sl 1 x.s28, .sl 1 x.s29,bo x.b30]
def nearR (l:List NearT):List (List Dv):=l.map nearD
theorem nearR_len (l:List NearT):(nearR l).length=l.length:=by simp [nearR]
def tmLk (s:StT) (near:List (List Dv)) (n i:Int):List AV:= [.yl, .rptr [.sl 31 near], .rptr [.pt (stD s)], .bad, .bad, .bad, .d (.sl 31 near), .d (i64 n), .d (i64 i)]++Zaf 21 .bad
noncomputable def lpLk:Code:=sub [1,2,3] (code f137)
theorem lacking_nf (s:StT) (near:List (List Dv)):wpFn prog ⟨[], [],wl,y,false⟩ 100 f64 [.rptr (stD s), .d (.sl 31 near)] b R=(R (AV.fn (Fn.func 137) [] [Zbu [Zam 31 near],Zbu [Dv.pt (stD s)]]) b):=by kernel_rfl
theorem rLk (s:StT) (near:List (List Dv)) (n i:Int):wpc prog ⟨[], [],wl,y,false⟩ 100 lpLk (tmLk s near n i) [] b (maskK 0 [0,1,2,6,7,8] K)=(BIf (decide (i<n)) (BIf (true&&decide (0≤i)) (∃(x0:Int) (x1:Int) (x2:Int) (x3:Int) (x4:Int) (x5:Int) (x6:Int) (x7:Int) (x8:Int) (x9:Int) (x10:Int) (x11:Int) (xs12:List (List Dv)) (xs13:List (List Dv)) (xs14:List (List Dv)) (xs15:List (List Dv)) (b16:Bool) (xs17:List (List Dv)) (xs18:List (List Dv)) (xs19:List (List Dv)) (x20:Int) (x21:Int) (x22:Int) (x23:Int) (x24:Int) (x25:Int) (x26:Int) (x27:Int) (xs28:List (List Dv)) (xs29:List (List Dv)) (b30:Bool),near[Zap i]? =some [i64 x0,i64 x1,i64 x2,i64 x3,i64 x4,i64 x5,i64 x6,i64 x7,i64 x8,i64 x9,i64 x10,i64 x11,Zam 4 xs12,Zam 5 xs13,Zam 3 xs14,Zam 4 xs15,bo b16,Zam 8 xs17,Zam 8 xs18,Zam 1 xs19,i64 x20,i64 x21,u64 x22,i64 x23,i64 x24,i64 x25,i64 x26,i64 x27,Zam 1 xs28,Zam 1 xs29,bo b30]∧BIf (x20==NotT.v (StT.no s)&&(x21==NotT.n (StT.no s)&&(x22==NotT.r (StT.no s)&&(x23==NotT.t (StT.no s)&&true)))) (y b [Zae (i64 x24)] fun (cont33:Bool) (b34:β)=>BIf (!cont33) (K .ret (AV.yl::Zbu [Zam 31 near]::Zbu [Dv.pt (stD s)]::bds 3 (Zae (Zam 31 near)::Zae (i64 n)::Zae (i64 i)::bds 21 [])) [] b34) (K .normal (AV.yl::Zbu [Zam 31 near]::Zbu [Dv.pt (stD s)]::bds 3 (Zae (Zam 31 near)::Zae (i64 n)::Zae (i64 (Zaa .i64 (i+1)))::bds 21 [])) [] b34)) (K .normal (AV.yl::Zbu [Zam 31 near]::Zbu [Dv.pt (stD s)]::bds 3 (Zae (Zam 31 near)::Zae (i64 n)::Zae (i64 (Zaa .i64 (i+1)))::bds 21 [])) [] b)) False) (K (Zet 0) (AV.yl::Zbu [Zam 31 near]::Zbu [Dv.pt (stD s)]::bds 3 (Zae (Zam 31 near)::Zae (i64 n)::Zae (i64 i)::bds 21 [])) [] b)):=by kernel_rfl
theorem near_at {l rest:List NearT} {x:NearT} {k:Nat} (hd:l.drop k=x::rest):(nearR l)[k]? =some (nearD x):=by
 obtain ⟨h1,h2,_⟩:=drop_cons hd
 simp [nearR,h2]
def lackL (s:StT) (l:List NearT):List (List AV):=(l.filter fun x=>eqN x.no s.no).map fun x=> [.d (i64 x.pg)]
theorem wrLk {Ev:Env prog} {Q:Exit→St Ev.β→Prop} (s:StT) (l:List NearT) (hl:l.length≤1000000):∀(rest:List NearT) (k:Nat) (b:Ev.β),l.drop k=rest→
   YList Ev.Y (lackL s rest) b (fun b'=>∀i:Int,Q (.exit 0) ⟨tmLk s (nearR l) l.length i, [],b'⟩∧Q .ret ⟨tmLk s (nearR l) l.length i, [],b'⟩)→WR Ev lpLk (rest.length+1) ⟨tmLk s (nearR l) l.length k, [],b⟩ Q
 | [],k,b,hd,h=>by
   have hk:=drop_nil hd
   refine Zcm [0,1,2,6,7,8] mixed (CX.Ok.of (u:=false) Zah Zad) (k:=100) ?_
   refine Eq.mpr (rLk _ _ _ _ s (nearR l) l.length k) ?_
   refine Zct (by simp;omega) ?_
   exact (h k).1
 | x::rest,k,b,hd,h=>by
   obtain ⟨hk,h2,hd'⟩:=drop_cons hd
   refine Zcm [0,1,2,6,7,8] mixed (CX.Ok.of (u:=false) Zah Zad) (k:=100) ?_
   refine Eq.mpr (rLk _ _ _ _ s (nearR l) l.length k) ?_
   have e1:Zaa Zaq ((k:Int)+1)=((k+1:Nat):Int):=wrapN (by omega)
   rw [e1,Zax]
   refine Zbl (by simp;omega) (Zbl (by simp) ⟨x.x0,x.x1,x.x2,x.x3,x.x4,x.x5,x.x6,x.x7,x.x8,x.x9,x.x10,x.x11,x.s12,x.s13,x.s14,x.s15,x.b16,x.s17,x.s18,x.s19,x.no.v,x.no.n,x.no.r,x.no.t,x.pg,x.x25,x.x26,x.x27,x.s28,x.s29,x.b30,near_at hd, ?_⟩)
   have he:(x.no.v==s.no.v&&(x.no.n==s.no.n&&(x.no.r==s.no.r&&(x.no.t==s.no.t&&true))))=eqN x.no s.no:=by simp only [eqN,Bool.and_true]
   rw [he]
   refine Zan (fun g=> ?_) fun g=> ?_
   · have hL:lackL s (x::rest)= [.d (i64 x.pg)]::lackL s rest:=by simp [lackL,g]
     rw [hL] at h
     refine Ev.Ymono h fun c b' h=> ?_
     cases c with
     |true=>exact Zct rfl (wrLk s l hl rest (k+1) b' hd' h)
     |false=>exact Zbl rfl (h _).2
   · have hL:lackL s (x::rest)=lackL s rest:=by simp [lackL,g]
     rw [hL] at h
     exact wrLk s l hl rest (k+1) b hd' h
def wlLk {β:Type} (Y:YieldT β):WLT β:=fun c tm hp b K=>∃(s:StT) (l:List NearT),c= .loop lpLk∧maskTm [0,1,2,6,7,8] 0 tm=tmLk s (nearR l) (nearR l).length 0∧hp= []∧l.length≤1000000∧YList Y (lackL s l) b (fun b'=>∀i:Int,K (.exit 0) (tmLk s (nearR l) l.length i) [] b'∧K .ret (tmLk s (nearR l) l.length i) [] b')
theorem wlLk_ok {Ev:Env prog} (c:Code) (tm:List AV) (hp:List Blk) (b:Ev.β) (K:Exit→List AV→List Blk→Ev.β→Prop) (h:wlLk Ev.Y c tm hp b K):W Ev c ⟨tm,hp,b⟩ (fun e s=>K e s.tm s.hp s.b):=by
 obtain ⟨s,l,rfl,htm,rfl,hl,hK⟩:=h
 rw [nearR_len] at htm
 refine W.cast (htm▸maskTm_le _ tm 0) (Zbw _) ?_
 exact W.rounds (wrLk (Q:=fun e s=>K e s.tm s.hp s.b) s l hl l 0 b rfl hK)
theorem lk_nf (s:StT) (near:List (List Dv)):wpc prog ⟨[], [],wlLk y,y,false⟩ 100 (code f137) (startTm f137 [.yl, .rptr [.sl 31 near], .rptr [.pt (stD s)]]) [] b (fnK prog f137 fun _ b=>Q b)=(
 ∃(s0:StT) (l1:List NearT),Zbd lpLk= .loop lpLk∧tmLk s near near.length 0=tmLk s0 (nearR l1) (nearR l1).length 0∧([]:List Blk)= []∧l1.length≤1000000∧YList y (lackL s0 l1) b fun b'=>∀_:Int,Q b'∧Q b'):=by kernel_rfl
theorem icLk (s:StT) (l:List NearT) (hl:l.length≤1000000):ICall prog 137 [.yl, .rptr [.sl 31 (nearR l)], .rptr [.pt (stD s)]] (fun Y b Q=>YList Y (lackL s l) b Q):=by
 refine ICall.ofW (c:=code f137) func137 (by rfl) (by rfl) fun Ev b Q h=> ?_
 have h1:wpc prog ⟨[], [],wlLk Ev.Y,Ev.Y,false⟩ 100 (code f137) (startTm f137 [.yl, .rptr [.sl 31 (nearR l)], .rptr [.pt (stD s)]]) [] b (fnK prog f137 fun _ b=>Q b):=by
   rw [lk_nf]
   exact ⟨s,l,rfl,rfl,rfl,hl,YList.mono (fun b h _=>⟨h,h⟩) _ _ h⟩
 refine wpc_sound mixed (CX.Ok.ofWl Zah Zad wlLk_ok) h1 fun e tm hp b hK=> ?_
 obtain ⟨g1,ys,g2,z,g3,g4⟩:=fnK_sound hK
 exact ⟨g1,ys,g2,g4⟩
theorem pcLacking (s:StT) (near:List (List Dv)):PCall prog 64 [.rptr (stD s), .d (.sl 31 near)] (.fn (.func 137) [] [.rptr [.sl 31 near], .rptr [.pt (stD s)]]):=by
 refine Zba (n:=100) (u:=false) mixed Zah Zad func64 (by rfl) (by rfl) fun Ev bb=> ?_
 rw [lacking_nf]
def cLacking (args:List AV) (K:AV→Prop):Prop:=∃(s:StT) (near:List (List Dv)),args= [.rptr (stD s), .d (.sl 31 near)]∧K (.fn (.func 137) [] [.rptr [.sl 31 near], .rptr [.pt (stD s)]])
theorem cLacking_ok:∀args K,cLacking args K→∃x,PCall prog 64 args x∧K x:=by
 rintro _ K ⟨s,l,rfl,h⟩;exact ⟨_,pcLacking s l,h⟩
def cEncB (args:List AV) (K:AV→Prop):Prop:=∃(p:List Int) (n s:Int) (d:List Int),args= [.d (.sl 1 (bytesR p)), .d (i64 n), .d (i64 s)]∧(encOk p n s=true∧d=encS p s)∧K (.tup [.agg [.d (i64 n), .d (i64 s), .d (.sl 1 (bytesR d)),nilV], .d (i64 0)])
theorem cEncB_ok:∀args K,cEncB args K→∃x,PCall prog 34 args x∧K x:=by
 rintro _ K ⟨p,n,s,d,rfl,⟨h1,rfl⟩,h⟩
 have:=pcEncode p n s
 rw [encA,if_pos h1] at this
 exact ⟨_,this,h⟩
def TSv:List (Nat×(List AV→(AV→Prop)→Prop)):= [(63,cTTick),(64,cLacking),(34,cEncB),(51,cClone50)]
theorem TSv_ok:CallsOk prog TSv:=Zag cTTick_ok (Zag cLacking_ok (Zag cEncB_ok (Zag cClone50_ok Zah)))
def SSv:List (Nat×(List AV→List Blk→(AV→List Blk→Prop)→Prop)):= [(47,sCopied),(61,lendC cSValid),(62,lendC cSEmpty)]
theorem SSv_ok:SCallsOk prog SSv:=Zbt sCopied_ok (Zbt (lendC_ok cSValid_ok) (Zbt (lendC_ok cSEmpty_ok) Zad))
noncomputable def rfSv:Code:=sub [1,1,1,1,1,1,0,1,2] (code f17)
theorem rfSv_shape:rfSv= .rangeFunc (.tmp 61) #[62] (assignOf rfSv) (bodyOf rfSv):=by kernel_rfl
def tmSv (s:StT) (near:List (List Dv)) (f:Int) (e:Bool):List AV:= [.bad, .bad, .d (i64 f), .ptr 0 0, .bad, .bad, .ptr 1 0, .ptr 2 0, .d (bo false), .ptr 5 0, .ptr 6 0, .d (bo e), .ptr 7 0]++Zaf 48 .bad++ [.fn (.func 137) [] [.rptr [.sl 31 near], .rptr [.pt (stD s)]]]++Zaf 60 .bad
def nil0:AV:= .d (.s (.slice none 0 0))
def zB13:Blk:=⟨[.d (i64 0), .d (i64 0), .d (u64 0), .d (i64 0),nil0,nil0,nil0,nil0, .d (i64 0), .d (i64 0), .d (i64 0), .d (i64 0), .d (i64 0)],false,false,0⟩
def zB4:Blk:=⟨[.d (i64 0), .d (i64 0),nil0,nil0],false,false,0⟩
def hpSv (s:StT) (t:TrT) (p:Int):List Blk:= [stB s,zB13,zB4,stB s,outC s (.own 33 1 (partsR s.ps)) (.own 28 1 (proofsR s.qs)) (.own 71 2 (rowsR s.rows)),⟨stL (withTr s t),true,false,0⟩,trB t,⟨[.d (i64 p)],false,false,0⟩]
def minS (p x:Int):Int:=if x<p then x else p
theorem sv_round (s s1:StT) (t:TrT) (near:List (List Dv)) (f p x:Int) (e:Bool):wpcY prog ⟨TSv,SSv,wl,y,false⟩ 100 #[62] (assignOf rfSv) (bodyOf rfSv) (tmSv s1 near f e) [.d (i64 x)] (hpSv s t p) b (takeK 8 Kh)=(
 ∃z:Int,z=minS p x∧Kh .normal (hpSv s t z) b):=by kernel_rfl
def leastS (l:List Int) (p:Int):Int:=l.foldl minS p
def lackP (s:StT) (l:List NearT):List Int:=(l.filter fun x=>eqN x.no s.no).map (·.pg)
theorem lackL_eq (s:StT) (l:List NearT):lackL s l=(lackP s l).map fun p=> [.d (i64 p)]:=by simp [lackL,lackP]
theorem rangeSv {Ev:Env prog} {b:Ev.β} {Q:Exit→St Ev.β→Prop} (s s1:StT) (t:TrT) (near:List (List Dv)) (f:Int) (e:Bool):∀(l:List Int) (p:Int),
   Q .normal ⟨tmSv s1 near f e,hpSv s t (leastS l p),b⟩→
   YList (YBody Ev (tmSv s1 near f e) #[62] (assignOf rfSv) (bodyOf rfSv) 8) (l.map fun p=> [.d (i64 p)]) (hpSv s t p,b,none) (rangeQ (tmSv s1 near f e) Q)
 | [],p,h=>h
 | x::l,p,h=>by
   refine YList.step (X:=⟨TSv,SSv,wlW Ev,Ev.Y,false⟩) (k:=100) mixed (CX.Ok.of TSv_ok SSv_ok) rfl ?_
   show wpcY _ _ _ _ _ _ _ [.d (i64 _)] (hpSv _ _ _) b (takeK 8 _)
   rw [sv_round]
   exact ⟨_,rfl,rangeSv s s1 t near f e l (minS p x) h⟩
def wlSv {β:Type}:WLT β:=fun c tm hp b K=>∃(s:StT) (t:TrT) (l:List NearT) (f p:Int) (e:Bool) (z:Int),c=rfSv∧maskTm [2,3,6,7,8,9,10,11,12,61] 0 tm=tmSv (withTr s t) (nearR l) f e∧hp=hpSv s t p∧(l.length≤1000000∧z=leastS (lackP (withTr s t) l) p)∧
 K .normal (tmSv (withTr s t) (nearR l) f e) (hpSv s t z) b
theorem wlSv_ok {Ev:Env prog} (c:Code) (tm:List AV) (hp:List Blk) (b:Ev.β) (K:Exit→List AV→List Blk→Ev.β→Prop) (h:wlSv c tm hp b K):W Ev c ⟨tm,hp,b⟩ (fun e s=>K e s.tm s.hp s.b):=by
 obtain ⟨s,t,l,f,p,e,z,rfl,htm,rfl,⟨hl,rfl⟩,hK⟩:=h
 refine W.cast (htm▸maskTm_le [2,3,6,7,8,9,10,11,12,61] tm 0) (Zbw _) ?_
 rw [rfSv_shape]
 refine W.range (s:=⟨tmSv (withTr s t) (nearR l) f e,_,b⟩) (k:=137) (first:= []) (caps:= [.rptr [.sl 31 (nearR l)], .rptr [.pt (stD (withTr s t))]]) rfl rfl rfl (icLk (withTr s t) l hl) ?_
 rw [lackL_eq]
 exact rangeSv s (withTr s t) t (nearR l) f e _ p hK
abbrev Qz13:List AV:= [Zae (i64 0),Zae (i64 0),Zae (Dv.s (.slice none 0 0)),Zae (Dv.s (.slice none 0 0))]
abbrev Qz39 (v0:StT) (v1:TrT):List AV:= [Zbp (stL (withTr v0 v1)),Zbp Qz13,Zae (bo false)]
theorem sserve_nf (s:StT) (near:List (List Dv)) (f:Int):wpFn prog ⟨TSv,SSv,wlSv,y,false⟩ 100 f17 [stV s, .d (.sl 31 near), .d (i64 f)] b R=(∃(s0:StT), [stV s]= [stV s0]∧(smallS s0)∧∃(s1:StT) (z2:Bool), [Zbu (stD s0)]= [Zbu (stD s1)]∧((smallS s1)∧z2=validP s1)∧BIf (!z2) (R (.tup [stV s0,Zbp Qz13,Zae (bo false)]) b) (∃(s3:StT) (z4:Bool), [Zbu (stD s0)]= [Zbu (stD s3)]∧((smallS s3)∧z4=emptyS s3)∧BIf z4 (R (.tup [stV s0,Zbp Qz13,Zae (bo false)]) b) (BIf (decide (f<(0:Int))) (R (.tup [stV s0,Zbp Qz13,Zae (bo false)]) b) (BIf (decide (f>(999999984:Int))) (R (.tup [stV s0,Zbp Qz13,Zae (bo false)]) b) (∃(t5:TrT) (f6:Int) (z7:TrT) (e8:Bool),(Qz26 s0 f)= [trV t5,Zae (i64 f6)]∧(z7,e8)=tickT t5 f6∧∃(s9:StT) (near10:List (List Dv)), [Zbu [i64 (NotT.v (StT.no s0)),i64 (NotT.n (StT.no s0)),u64 (NotT.r (StT.no s0)),i64 (NotT.t (StT.no s0)),Zam 1 (partsR (StT.ps s0)),Zam 1 (proofsR (StT.qs s0)),Zam 2 (rowsR (StT.rows s0)),Zam 1 (digR (StT.pf s0)),i64 (TrT.iv z7),i64 (TrT.bg z7),i64 (TrT.fi z7),i64 (TrT.ct z7),i64 (TrT.sd z7)],Zae (Zam 31 near)]= [Zbu (stD s9),Zae (Zam 31 near10)]∧∃(s11:StT) (t12:TrT) (l13:List NearT) (f14:Int) (p15:Int) (e16:Bool) (z17:Int),rfSv=rfSv∧(Zav::Zav::Zae (i64 f)::Zaz 0 0::Zav::Zav::Zaz 1 0::Zaz 2 0::Zae (bo false)::Zaz 5 0::Zaz 6 0::Zae (bo e8)::Zaz 7 0::bds 48 (AV.fn (Fn.func 137) [] [Zbu [Zam 31 near10],Zbu [Dv.pt (stD s9)]]::bds 60 []))=(Zav::Zav::Zae (i64 f14)::Zaz 0 0::Zav::Zav::Zaz 1 0::Zaz 2 0::Zae (bo false)::Zaz 5 0::Zaz 6 0::Zae (bo e16)::Zaz 7 0::bds 48 (AV.fn (Fn.func 137) [] [Zbu [Zam 31 (nearR l13)],Zbu [Dv.pt (stD (withTr s11 t12))]]::bds 60 []))∧ [stB s,Blk.mk Qz4 false false 0,Blk.mk Qz13 false false 0,stB s0,Blk.mk (Qz11 s0) false false 0,Blk.mk (Qz2 s0 z7) true false 0,Blk.mk (trL z7) false false 0,cell (i64 ((Zab (partsR (StT.ps s0)):Nat):Int))]= [stB s11,Blk.mk Qz4 false false 0,Blk.mk Qz13 false false 0,stB s11,Blk.mk (Qz11 s11) false false 0,Blk.mk (stL (withTr s11 t12)) true false 0,Blk.mk (trL t12) false false 0,cell (i64 p15)]∧(Zab l13≤1000000∧z17=leastS (lackP (withTr s11 t12) l13) p15)∧BIf (!e16) (R (.tup (Qz39 s11 t12)) b) (BIf (decide (z17<(0:Int))) (R (.tup (Qz39 s11 t12)) b) (BIf (decide (z17≥((Zab (partsR (StT.ps (withTr s11 t12))):Nat):Int))) (R (.tup (Qz39 s11 t12)) b) (BIf (true&&decide (0≤z17)) (∃(xs18:List (List Dv)),(partsR (StT.ps (withTr s11 t12)))[Zap z17]? =some [Zam 1 xs18]∧∃(p21:List Int) (n22:Int) (s23:Int) (d24:List Int), [Zae (Zam 1 xs18),Zae (i64 z17),Zae (i64 (Int.tmod (Zaa .i64 (Zaa .i64 ((64:Int)*f14)+Int.tmod (TrT.sd t12) (64:Int))) (1000000001:Int)))]= [Zae (Zam 1 (bytesR p21)),Zae (i64 n22),Zae (i64 s23)]∧(encOk p21 n22 s23=true∧d24=encS p21 s23)∧BIf (true&&decide (0≤z17)) (∃(xs25:List (List Dv)),(proofsR (StT.qs (withTr s11 t12)))[Zap z17]? =some [Zam 1 xs25]∧∃(xs28:List (List Dv)), [Zae (Zam 1 xs25)]= [Zae (Zam 1 xs28)]∧Zab xs28≤1000000∧R (.tup [Zbp (stL (withTr s11 t12)),Zbp [Zae (i64 n22),Zae (i64 s23),Zae (Zam 1 (bytesR d24)),Zae (Zam 1 xs28)],Zae (bo true)]) b) False) False)))))))):=by kernel_rfl
theorem sound_16 {s:StT} (h:soundT s=true):(s.ps.length:Int)≤countS s.no.n∧countS s.no.n≤16∧1≤countS s.no.n∧s.qs.length=s.ps.length∧(∀p∈s.ps,p.length=256)∧announcedS s.no.v s.no.n s.no.t=true:=by
 obtain ⟨f1,f2,f3,f4,f5⟩:=sound_facts h
 obtain ⟨k,hk,hk1,hk2⟩:=sized_nat f4
 have hk:s.no.n=(k:Int):=hk
 have hc:=countS_eq (n:=k) (by omega)
 have h':=h
 simp only [soundT,soundS,Zak] at h'
 have h2:(s.ps.length:Int)≤countS s.no.n:=by have:=h'.2.1;simp at this;exact this
 rw [hk,hc] at h2 ⊢
 exact ⟨h2,by omega,by omega,f2,f3,by rw [←hk];exact f5⟩
theorem valid_sound {s:StT} (h:validP s=true) (he:emptyS s=false):soundT s=true∧validS s.rows=true∧(s.rows.length:Int)<16∧(s.rows.isEmpty|| !fullP s)=true∧(!s.rows.isEmpty||s.pf.isEmpty)=true∧validT s.tr=true:=by
 rw [validP,he,Bool.false_or] at h
 simp only [Zak,decide_eq_true_eq] at h
 exact ⟨h.1,h.2.1,h.2.2.1,h.2.2.2.1,h.2.2.2.2.1,h.2.2.2.2.2⟩
theorem later_sd (t:TrT) (f:Int):(laterT t f).sd=t.sd:=by
 unfold laterT;split<;>rfl
theorem tick_sd (t:TrT) (f:Int):(tickT t f).1.sd=t.sd:=by
 unfold tickT
 split
 · exact later_sd t f
 · rfl
def zeroBk:BlkT:=⟨0,0, [], []⟩
def seedF (f sd:Int):Int:=(64*f+sd % 64) % 1000000001
def okServe (s:StT) (f:Int):Bool:=validP s&& !emptyS s&&frameS f
def serveS (s:StT) (l:List NearT) (f:Int):StT×BlkT×Bool:=
 if okServe s f=false then (s,zeroBk,false)
 else if (tickT s.tr f).2=false∨leastS (lackP s l) s.ps.length<0∨leastS (lackP s l) s.ps.length≥s.ps.length then (withTr s (tickT s.tr f).1,zeroBk,false)
 else (withTr s (tickT s.tr f).1,⟨leastS (lackP s l) s.ps.length,seedF f s.tr.sd,encS (nthL s.ps (leastS (lackP s l) s.ps.length).toNat) (seedF f s.tr.sd),nthL s.qs (leastS (lackP s l) s.ps.length).toNat⟩,true)
theorem zbLe (x:AV) (e:Bool):LeV (.tup [x,Zbp [Zae (i64 0),Zae (i64 0),Zae (Dv.s (Zbo none 0 0)),Zae (Dv.s (Zbo none 0 0))], .d (bo e)]) (.tup [x,bkV zeroBk, .d (bo e)]):=
 Zdo (.cons .rfl (.cons (LeV.aggs (.cons .rfl (.cons .rfl (.cons (.nil rfl) (.cons (.nil rfl) .nil))))) (.cons .rfl .nil)))
theorem pcSServe (s:StT) (l:List NearT) (f:Int) (hs:smallS s) (hl:l.length≤1000000):PCall prog 17 [stV s, .d (.sl 31 (nearR l)), .d (i64 f)] (.tup [stV (serveS s l f).1,bkV (serveS s l f).2.1, .d (bo (serveS s l f).2.2)]):=by
 refine Zdh (n:=100) (u:=false) (fun _=>wlSv) mixed TSv_ok SSv_ok (fun Ev=>wlSv_ok) func17 (by rfl) (by rfl) fun Ev bb=> ?_
 rw [sserve_nf]
 have bad:okServe s f=false→LeV (.tup [stV s,Zbp [Zae (i64 0),Zae (i64 0),Zae (Dv.s (Zbo none 0 0)),Zae (Dv.s (Zbo none 0 0))], .d (bo false)]) (.tup [stV (serveS s l f).1,bkV (serveS s l f).2.1, .d (bo (serveS s l f).2.2)]):=fun h=>by
   rw [serveS,if_pos h];exact zbLe _ _
 refine ⟨s,rfl,hs,s,_,rfl,⟨hs,rfl⟩,Zan (fun h=>bad (by rw [okServe,nbt h];rfl)) fun g1=>⟨s,_,rfl,⟨hs,rfl⟩,Zan (fun h=>bad (by rw [okServe,h];simp)) fun g2=>Zan (fun h=>bad ?_) fun g3=>Zan (fun h=>bad ?_) fun g4=> ?_⟩⟩
 · rw [okServe,show frameS f=false from Zcr.2 fun h'=>by have:=inS_iff.1 h';have:=of_decide_eq_true h;omega,Bool.and_false]
 · rw [okServe,show frameS f=false from Zcr.2 fun h'=>by have:=inS_iff.1 h';have:=of_decide_eq_true h;omega,Bool.and_false]
 have g3:=of_decide_eq_false g3
 have g4:=of_decide_eq_false g4
 have hv:=nbf g1
 have hok:¬okServe s f=false:=by rw [okServe,hv,g2,show frameS f=true from inS_iff.2 (by omega)];decide
 obtain ⟨a1,a2,a3,a4,a5,a6⟩:=valid_sound hv g2
 obtain ⟨b1,b2,b3,b4,b5,b6⟩:=sound_16 a1
 have hsd:=(validT_iff.1 a6).2.2.1
 refine ⟨s.tr,f,(tickT s.tr f).1,(tickT s.tr f).2,rfl,rfl,withTr s (tickT s.tr f).1,_,rfl,s,(tickT s.tr f).1,l,f,s.ps.length,(tickT s.tr f).2,leastS (lackP s l) s.ps.length,rfl,rfl,by rw [partsR_len];rfl,⟨hl,rfl⟩,Zan (fun h=> ?_) fun g5=>Zan (fun h=> ?_) fun g6=>Zan (fun h=> ?_) fun g7=> ?_⟩
 · rw [serveS,if_neg hok,if_pos (.inl (nbt h))];exact zbLe _ _
 · rw [serveS,if_neg hok,if_pos (.inr (.inl (of_decide_eq_true h)))];exact zbLe _ _
 · rw [serveS,if_neg hok,if_pos (.inr (.inr (by have:=of_decide_eq_true h;rw [partsR_len] at this;exact this)))];exact zbLe _ _
 have g5:=nbf g5
 have g6:=of_decide_eq_false g6
 have g7:=of_decide_eq_false g7
 rw [partsR_len] at g7
 have g7:¬leastS (lackP s l) (s.ps.length:Int)≥s.ps.length:=g7
 generalize hp:leastS (lackP s l) (s.ps.length:Int)=p at g6 g7 ⊢
 have hpl:p.toNat<s.ps.length:=by omega
 have hpq:p.toNat<s.qs.length:=by omega
 have hseed:Int.tmod (Zaa Zaq (Zaa Zaq (64*f)+Int.tmod (tickT s.tr f).1.sd 64)) 1000000001=seedF f s.tr.sd:=by
   rw [tick_sd,Int.tmod_eq_emod_of_nonneg (a:=s.tr.sd) hsd.1,wr64 (x:=64*f) (by omega) (by omega),wr64 (by omega) (by omega),Int.tmod_eq_emod_of_nonneg (by omega)];rfl
 have hsr:0≤seedF f s.tr.sd∧seedF f s.tr.sd≤1000000000:=by unfold seedF;omega
 refine Zbl (by simp;omega) ⟨bytesR (nthL s.ps p.toNat),parts_at hpl,nthL s.ps p.toNat,p,seedF f s.tr.sd,_,by rw [hseed],⟨?_,rfl⟩,Zbl (by simp;omega) ⟨digR (nthL s.qs p.toNat),proofs_at hpq,_,rfl,by rw [digR_len];exact hs.2.1.2 _ (nthL_mem hpq), ?_⟩⟩
 · rw [encOk,b5 _ (nthL_mem hpl),seedS_iff.2 hsr,Bool.and_true]
   simp [pageS];omega
 · rw [serveS,if_neg hok,hp,if_neg (by rw [g5];simp;omega)];exact .rfl
def cSServe (args:List AV) (K:AV→Prop):Prop:=∃(s:StT) (l:List NearT) (f:Int) (z:StT) (x:BlkT) (e:Bool),args= [stV s, .d (.sl 31 (nearR l)), .d (i64 f)]∧((smallS s∧l.length≤1000000)∧(z,x,e)=serveS s l f)∧K (.tup [stV z,bkV x, .d (bo e)])
theorem cSServe_ok:∀args K,cSServe args K→∃x,PCall prog 17 args x∧K x:=by
 rintro _ K ⟨s,l,f,z,x,e,rfl,⟨⟨h1,h2⟩,he⟩,h⟩
 have:=pcSServe s l f h1 h2
 rw [←he] at this
 exact ⟨_,this,h⟩
end Go.Proofs.YtibhflogmbfpcaaGreatDoor.Am
