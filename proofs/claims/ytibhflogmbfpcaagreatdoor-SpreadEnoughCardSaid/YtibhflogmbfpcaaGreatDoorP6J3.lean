import Derived.Test.YtibhflogmbfpcaaGreatDoorP6J2
set_option linter.unusedSimpArgs false
set_option linter.unusedVariables false
namespace Go.Proofs.YtibhflogmbfpcaaGreatDoor.Am
open Go Go.RowKit Go.Proofs Tryz
open AV renaming bad → Zaz, d → Zae
open BIf renaming f → Zea, of → Zar, t → Zbt
open BitVec renaming ofInt → Zao
open Bool renaming and_eq_true → Zam
open CallsOk renaming cons → Zag, nil → Zaj
open Go.Code renaming loop → Zbq
open Dv renaming sl → Zal
open Int renaming toNat → Zat, toNat_natCast → Zba
open Go.IntKind renaming i64 → Zax, wrap → Zaa
open LeH renaming refl → Zco
open List renaming all_eq_true → Zbc, append_assoc → Zcl, foldl_cons → Zcz, getElem?_eq_getElem → Zbk, getElem?_replicate → Zda, length → Zac, length_append → Zdo, map_cons → Zck, mem_cons → Zcp, mem_cons_of_mem → Zaw, mem_cons_self → Zay, mem_iff_getElem? → Zak, mem_map → Zbe, mem_of_getElem? → Zbb, mem_range'_1 → Zdg, pairwise_cons → Zbr, range → Zbd, range' → Zcd, range'_succ → Zdr, replicate → Zad
open Nat renaming eq_of_testBit_eq → Zdb, testBit_two_pow → Zcn
open PCall renaming ofFn → Zbi
open SCallsOk renaming cons → Zcc, nil → Zaf
open WR renaming ofMaskT → Zdk
variable {β:Type} (wl:WLT β) (y:YieldT β) (b:β) (R:AV→β→Prop) (K:Exit→List AV→List Blk→β→Prop) (Kh:Exit→List Blk→β→Prop) (Q:β→Prop)
open AV (bad)
set_option linter.unusedVariables false
set_option maxRecDepth 20000
theorem PCall.ofCallsG {P:Program} {f:Nat} (vals:List Value) {v:Value} (hent:∀(us:Array Value) (w:World),(callFunc f us).run P w= .ok (.enter f us) w)
   (h:∀S w,Glob S w→Calls P f vals.toArray w fun e w'=>e= .returned v∧w'=w):PCall P f (vals.map fun v=> .d (.s v)) (ofVal v):=by
 refine ⟨hent,fun S w vs hl hvs hlt hgl=> ?_⟩
 have he:vs=vals:=by
   apply List.ext_getElem?
   intro i
   by_cases hi:i<vals.length
   · have h1:=hvs i (.d (.s vals[i])) (vs[i]'(by simpa [←hl] using hi)) (by simp [hi]) (by simp)
     cases h1 with
     | d h1=>
       generalize hv:vs[i]'(by simpa [←hl] using hi)=u at h1
       cases h1
       rw [List.getElem?_eq_some_iff.2 ⟨by simpa [←hl] using hi,hv⟩]
       simp [hi]
   · rw [List.getElem?_eq_none (by simpa [←hl] using hi),List.getElem?_eq_none (by omega)]
 subst he
 refine CallsIn.mono (callsIn_wide.2 (h S w hgl)) ?_
 rintro e w' ⟨rfl,rfl⟩
 exact ⟨v,S,rfl,Below.refl _ _,fun _ _ h=>h,fun _ _ h=> .inl h,(RV.ofVal v).view⟩
theorem tab64:laidTable 1=Lib.deBruijn64tab.map fun (n:Nat)=>Value.int .u8 (n:Int):=by rfl
theorem tabAt64 {S:Pr} {w:World} (h:Glob S w):TabAt 1 Lib.deBruijn64tab w:=by
 intro j hj
 have h1:(laidTable 1)[j]? =some (.int .u8 (Lib.deBruijn64tab.getD j 0)):=by
   rw [tab64,List.getElem?_map,Zbk hj]
   simp [List.getD_eq_getElem?_getD,Zbk hj]
 exact (h 1 j _ h1).2.1
def tzS (x:Int):Int:=(Lib.ctz 64 x.toNat:Int)
theorem pcTz {x:Int} (h0:0≤x) (h1:x<18446744073709551616):PCall prog 102 [.d (u64 x)] (.d (i64 (tzS x))):=by
 have:=PCall.ofCallsG (P:=prog) (f:=102) [.int .u64 x] (v:= .int .i64 (tzS x)) (enters_of (f:=102) func102 (by rfl) (by rfl)) fun S w hg=>by
   have h2:=Any7.bits_TrailingZeros Tryz.lays27 x.toNat (by omega) w (fun _=>tabAt64 hg)
   rw [Int.toNat_of_nonneg h0] at h2
   exact h2
 exact this
def cTz (args:List AV) (K:AV→Prop):Prop:=∃(x z:Int),args= [.d (u64 x)]∧((0≤x∧x<18446744073709551616)∧z=tzS x)∧K (.d (i64 z))
theorem cTz_ok:∀args K,cTz args K→∃x,PCall prog 102 args x∧K x:=by
 rintro _ K ⟨x,z,rfl,⟨⟨h0,h1⟩,rfl⟩,h⟩;exact ⟨_,pcTz h0 h1,h⟩
theorem clone_nf (x:Int) (xs:List (List Dv)):wpFn prog ⟨[], [],wl,y,false⟩ 100 f103 [.d (.sl 1 ([u8 x]::xs))] b R=
 ∀(t:Bool),(t=true→ [u8 x]::xs= [])→BIf t (R (Zae (Dv.s (Value.slice none 0 0))) b) (BIf (decide ((0+Zac ([u8 x]::xs))*1≤140737488355328)) (R (.d (.sl 1 ([u8 x]::xs))) b) False):=by kernel_rfl
theorem pcClone (p:List Int) (h0:p≠ []) (h1:p.length≤140737488355328):PCall prog 103 [.d (.sl 1 (bytesR p))] (.d (.sl 1 (bytesR p))):=by
 cases p with
 |nil=>exact absurd rfl h0
 | cons x p=>
   refine Zbi (n:=100) (u:=false) mixed Zaj Zaf func103 (by rfl) (by rfl) fun Ev bb=> ?_
   show wpFn prog _ 100 f103 [.d (.sl 1 ([u8 x]::bytesR p))] bb _
   rw [clone_nf]
   refine fun t ht=>Zar (fun h=>by cases ht h) fun _=>Zbt ?_ rfl
   simp [bytesR] at h1 ⊢;omega
def cClone (args:List AV) (K:AV→Prop):Prop:=∃(p:List Int),args= [.d (.sl 1 (bytesR p))]∧(p≠ []∧p.length≤140737488355328)∧K (.d (.sl 1 (bytesR p)))
theorem cClone_ok:∀args K,cClone args K→∃x,PCall prog 103 args x∧K x:=by
 rintro _ K ⟨p,rfl,⟨h0,h1⟩,h⟩;exact ⟨_,pcClone p h0 h1,h⟩
def blkS (p:List Int) (i:Nat):List Int:=(p.drop (16*i)).take 16
def itemB (p:List Int) (i:Nat):List AV:= [.d (i64 i), .agg (cells16 (blkS p i))]
noncomputable def lp42:Code:=sub [1,2,3] (code f154)
def tm42 (xs:List (List Dv)) (i:Int):List AV:= [.yl, .rptr [.sl 1 xs], .bad, .bad, .d (i64 i)]++Zad 13 .bad
theorem f42_round (xs:List (List Dv)) (i:Int):wpc prog ⟨[], [],wl,y,false⟩ 100 lp42 (tm42 xs i) [] b (maskT [0,1,4] K)=(
 BIf (decide (i<16)) (BIf (true&&decide (0≤Zaa .i64 (i*16)∧Zaa .i64 (i*16)≤↑xs.length∧(↑xs.length:Int)≤↑xs.length∧(↑xs.length:Int)≤↑xs.length))
   (BIf (decide (16≤((xs.drop (Zaa .i64 (i*16)).toNat).take ((xs.length:Int).toNat - (Zaa .i64 (i*16)).toNat)).length))
     (∃x0 x1 x2 x3 x4 x5 x6 x7 x8 x9 x10 x11 x12 x13 x14 x15:Int,(((xs.drop (Zaa .i64 (i*16)).toNat).take ((xs.length:Int).toNat - (Zaa .i64 (i*16)).toNat)).take 16).flatten=
         [u8 x0,u8 x1,u8 x2,u8 x3,u8 x4,u8 x5,u8 x6,u8 x7,u8 x8,u8 x9,u8 x10,u8 x11,u8 x12,u8 x13,u8 x14,u8 x15]∧
       y b [.d (i64 i), .agg [.d (u8 x0), .d (u8 x1), .d (u8 x2), .d (u8 x3), .d (u8 x4), .d (u8 x5), .d (u8 x6), .d (u8 x7), .d (u8 x8), .d (u8 x9), .d (u8 x10), .d (u8 x11), .d (u8 x12), .d (u8 x13), .d (u8 x14), .d (u8 x15)]]
         fun c b1=>BIf (!c) (K .ret (tm42 xs i) [] b1) (K .normal (tm42 xs (Zaa .i64 (i+1))) [] b1)) False) False)
   (K (.exit 0) (tm42 xs i) [] b)):=by kernel_rfl
theorem list16u {p:List Int} (h:p.length=16):p.map u8= [u8 (nth p 0),u8 (nth p 1),u8 (nth p 2),u8 (nth p 3),u8 (nth p 4),u8 (nth p 5),u8 (nth p 6),u8 (nth p 7),u8 (nth p 8),u8 (nth p 9),u8 (nth p 10),u8 (nth p 11),u8 (nth p 12),u8 (nth p 13),u8 (nth p 14),u8 (nth p 15)]:=by
 match p,h with
 | [a0,a1,a2,a3,a4,a5,a6,a7,a8,a9,a10,a11,a12,a13,a14,a15],_=>rfl
theorem flatten_bytesR (p:List Int):(bytesR p).flatten=p.map u8:=by
 induction p with
 |nil=>rfl
 |cons x p ih=>simpa [bytesR] using ih
def wl42 {β:Type} (y:YieldT β):WLT β:=fun c tm hp b K=>∃(p:List Int),c= .loop lp42∧maskTm [0,1,4] 0 tm=tm42 (bytesR p) 0∧hp= []∧p.length=256∧
 YList y ((Zcd 0 16).map (itemB p)) b fun b'=>∀i:Int,K (.exit 0) (tm42 (bytesR p) i) [] b'∧K .ret (tm42 (bytesR p) i) [] b'
theorem wr42 {Ev:Env prog} {Q:Exit→St Ev.β→Prop} (p:List Int) (hp:p.length=256):∀(n k:Nat) (b:Ev.β),k+n=16→
   (YList Ev.Y ((Zcd k n).map (itemB p)) b fun b'=>∀i:Int,Q (.exit 0) ⟨tm42 (bytesR p) i, [],b'⟩∧Q .ret ⟨tm42 (bytesR p) i, [],b'⟩)→WR Ev lp42 (n+1) ⟨tm42 (bytesR p) k, [],b⟩ Q
 | 0,k,b,hk,h=>by
   refine Zdk [0,1,4] mixed (CX.Ok.of (u:=false) Zaj Zaf) (k:=100) ?_
   rw [f42_round]
   exact Zea (by simp;omega) (h _).1
 | n+1,k,b,hk,h=>by
   refine Zdk [0,1,4] mixed (CX.Ok.of (u:=false) Zaj Zaf) (k:=100) ?_
   rw [f42_round]
   have e1:Zaa .i64 ((k:Int)*16)=((16*k:Nat):Int):=by rw [wrap_i64 (by omega) (by omega)];omega
   have e2:Zaa .i64 ((k:Int)+1)=((k+1:Nat):Int):=by rw [wrap_i64 (by omega) (by omega)];omega
   rw [e1,e2,bytesR_len,hp]
   simp only [Zba,bytesR_drop,bytesR_take,bytesR_len]
   have e3:(p.drop (16*k)).take (Zat (256:Int) - 16*k)=p.drop (16*k):=List.take_of_length_le (by simp;omega)
   have e3':(p.drop (16*k)).take (256 - 16*k)=p.drop (16*k):=List.take_of_length_le (by simp;omega)
   simp only [e3,e3']
   have e4:(blkS p k).length=16:=by simp [blkS];omega
   refine Zbt (by simp;omega) (Zbt (by simp;omega) (Zbt (by simp;omega) ⟨nth (blkS p k) 0,nth (blkS p k) 1,nth (blkS p k) 2,nth (blkS p k) 3,nth (blkS p k) 4,nth (blkS p k) 5,nth (blkS p k) 6,nth (blkS p k) 7,nth (blkS p k) 8,nth (blkS p k) 9,nth (blkS p k) 10,nth (blkS p k) 11,nth (blkS p k) 12,nth (blkS p k) 13,nth (blkS p k) 14,nth (blkS p k) 15, ?_, ?_⟩))
   · rw [flatten_bytesR];exact list16u (p:=blkS p k) e4
   · rw [Zdr,Zck] at h
     refine Ev.Ymono h fun c b' h=> ?_
     cases c with
     |true=>exact Zea rfl (wr42 p hp n (k+1) b' (by omega) h)
     |false=>exact Zbt rfl (h _).2
theorem wl42_ok {Ev:Env prog} (c:Code) (tm:List AV) (hp:List Blk) (b:Ev.β) (K:Exit→List AV→List Blk→Ev.β→Prop) (h:wl42 Ev.Y c tm hp b K):W Ev c ⟨tm,hp,b⟩ (fun e s=>K e s.tm s.hp s.b):=by
 obtain ⟨p,rfl,htm,rfl,hp,hK⟩:=h
 refine W.cast (htm▸maskTm_le _ tm 0) (Zco _) ?_
 exact W.rounds (wr42 (Q:=fun e s=>K e s.tm s.hp s.b) p hp 16 0 b rfl hK)
theorem f42_nf (xs:List (List Dv)):wpc prog ⟨[], [],wl42 y,y,false⟩ 100 (code f154) (startTm f154 [.yl, .rptr [.sl 1 xs]]) [] b (fnK prog f154 fun _ b=>Q b)=(
 ∃p:List Int,Zbq lp42= .loop lp42∧tm42 xs 0=tm42 (bytesR p) 0∧([]:List Blk)= []∧p.length=256∧YList y ((Zcd 0 16).map (itemB p)) b fun b'=>∀_:Int,Q b'∧Q b'):=by kernel_rfl
theorem f31b_nf (xs:List (List Dv)):wpFn prog ⟨[], [],wl,y,false⟩ 100 f101 [.d (.sl 1 xs)] b R=R (.fn (.func 154) [] [.rptr [.sl 1 xs]]) b:=by kernel_rfl
theorem ic42 (p:List Int) (hp:p.length=256):ICall prog 154 [.yl, .rptr [.sl 1 (bytesR p)]] (fun Y b Q=>YList Y ((Zcd 0 16).map (itemB p)) b Q):=by
 refine ICall.ofW (c:=code f154) func154 rfl rfl fun Ev b Q h=> ?_
 have h1:wpc prog ⟨[], [],wl42 Ev.Y,Ev.Y,false⟩ 100 (code f154) (startTm f154 [.yl, .rptr [.sl 1 (bytesR p)]]) [] b (fnK prog f154 fun _ b=>Q b):=by
   rw [f42_nf]
   exact ⟨p,rfl,rfl,rfl,hp,YList.mono (fun b h _=>⟨h,h⟩) _ _ h⟩
 refine wpc_sound mixed (CX.Ok.ofWl Zaj Zaf wl42_ok) h1 fun e tm hp b hK=> ?_
 obtain ⟨g1,ys,g2,z,g3,g4⟩:=fnK_sound hK
 exact ⟨g1,ys,g2,g4⟩
theorem pcBlocks (xs:List (List Dv)):PCall prog 101 [.d (.sl 1 xs)] (.fn (.func 154) [] [.rptr [.sl 1 xs]]):=by
 refine Zbi (n:=100) (u:=false) mixed Zaj Zaf func101 (by rfl) (by rfl) fun Ev bb=> ?_
 rw [f31b_nf]
def cBlocks (args:List AV) (K:AV→Prop):Prop:=∃(xs:List (List Dv)),args= [.d (.sl 1 xs)]∧K (.fn (.func 154) [] [.rptr [.sl 1 xs]])
theorem cBlocks_ok:∀args K,cBlocks args K→∃x,PCall prog 101 args x∧K x:=by
 rintro _ K ⟨xs,rfl,h⟩;exact ⟨_,pcBlocks xs,h⟩
def cell16 (p:List Int):Blk:=⟨cells16 p,false,false,0⟩
section
variable {β:Type} (wl:WLT β) (y:YieldT β) (b:β) (R:AV→List Blk→β→Prop)
theorem f30_nf2 (p q:List Int) (b0 b2 b3 b4:Blk):wpc prog ⟨[], [],wl,y,true⟩ 100 (code f100) (startTm f100 [.agg (cells16 q), .ptr 1 0]) [b0,cell16 p,b2,b3,b4] b (fnKS prog f100 R)=
 R (.tup []) [b0,cell16 (xorL p q),b2,b3,b4,cell16 q] b:=by kernel_rfl
end
theorem sc30 (p q:List Int) (b0 b2 b3 b4:Blk):SCall prog 100 [.agg (cells16 q), .ptr 1 0] [b0,cell16 p,b2,b3,b4] (.tup []) [b0,cell16 (xorL p q),b2,b3,b4,cell16 q]:=by
 refine SCall.ofW (c:=code f100) func100 rfl rfl fun Ev b=> ?_
 have h1:wpc prog ⟨[], [],wlW Ev,Ev.Y,true⟩ 100 (code f100) (startTm f100 [.agg (cells16 q), .ptr 1 0]) [b0,cell16 p,b2,b3,b4] b (fnKS prog f100 fun x hp _=>x= .tup []∧hp= [b0,cell16 (xorL p q),b2,b3,b4,cell16 q]):=by
   rw [f30_nf2];exact ⟨rfl,rfl⟩
 exact wpc_sound mixed (CX.Ok.of Zaj Zaf) h1 fun e tm hp b hK=>fnKS_sound hK
def s30 (args:List AV) (hp:List Blk) (K:AV→List Blk→Prop):Prop:=match hp with
 | [b0,b1,b2,b3,b4]=>∃(p q:List Int),args= [.agg (cells16 q), .ptr 1 0]∧b1=cell16 p∧K (.tup []) [b0,cell16 (xorL p q),b2,b3,b4,cell16 q]
 |_=>False
theorem s30_ok:∀args hp K,s30 args hp K→∃x hp',SCall prog 100 args hp x hp'∧K x hp':=by
 intro args hp K h
 unfold s30 at h
 split at h
 · rename_i b0 b1 b2 b3 b4
   obtain ⟨p,q,rfl,rfl,h⟩:=h
   exact ⟨_,_,sc30 p q b0 b2 b3 b4,h⟩
 · exact h.elim
noncomputable def rf12:Code:=sub [1,1,1,1,1,0,1,2] (code f34)
def TEnc:List (Nat×(List AV→(AV→Prop)→Prop)):= [(99,cIsPage),(97,cSeed),(33,cSet),(101,cBlocks),(102,cTz),(103,cClone)]
theorem TEnc_ok:CallsOk prog TEnc:=Zag cIsPage_ok (Zag cIsSeed_ok (Zag cSet_ok (Zag cBlocks_ok (Zag cTz_ok (Zag cClone_ok Zaj)))))
def SEnc:List (Nat×(List AV→List Blk→(AV→List Blk→Prop)→Prop)):= [(100,s30)]
theorem SEnc_ok:SCallsOk prog SEnc:=Zcc s30_ok Zaf
theorem rf12_shape:rf12= .rangeFunc (.tmp 32) #[33,34] (assignOf rf12) (bodyOf rf12):=by kernel_rfl
def tmE (xs:List (List Dv)) (n s:Int):List AV:= [.bad, .d (i64 n), .d (i64 s), .bad, .bad, .bad, .ptr 0 0, .bad, .ptr 1 0, .ptr 2 0, .ptr 3 0]++Zad 21 .bad++ [.fn (.func 154) [] [.rptr [.sl 1 xs]]]++Zad 18 .bad
def resE:Blk:=⟨[.d (i64 0), .d (i64 0), .d (.s (.slice none 0 0)), .d (.s (.slice none 0 0))],false,false,0⟩
def hpE (acc:List Int) (set:Int):List Blk:= [resE,cell16 acc,⟨[.fn (.func 100) [] [.ptr 1 0]],false,false,0⟩,cellU set]
def andU (a b:Int):Int:=Zaa .u64 ((Zao 64 a&&&Zao 64 b).toNat:Int)
def clearS (a:Int):Int:=andU a (Zaa .u64 (a - 1))
def encStep (p:List Int) (st:List Int×Int) (i:Nat):List Int×Int:=if (i:Int)==tzS st.2 then (xorL st.1 (blkS p i),clearS st.2) else st
theorem enc_round (xs:List (List Dv)) (n s i set:Int) (x acc:List Int):wpcY prog ⟨TEnc,SEnc,wl,y,false⟩ 100 #[33,34] (assignOf rf12) (bodyOf rf12) (tmE xs n s) [.d (i64 i), .agg (cells16 x)] (hpE acc set) b (takeK 4 Kh)=(
 ∃ x0 z1:Int, [Zae (u64 set)]= [.d (u64 x0)]∧((0≤x0∧x0<18446744073709551616)∧z1=tzS x0)∧BIf (i==z1)
   (∃p2 q3:List Int, [AV.agg (cells16 x), .ptr 1 0]= [.agg (cells16 q3), .ptr 1 0]∧cell16 acc=cell16 p2∧Kh .normal (hpE (xorL p2 q3) (clearS set)) b) (Kh .normal (hpE acc set) b)):=by kernel_rfl
theorem clearS_range (a:Int):0≤clearS a∧clearS a<18446744073709551616:=wrap_u64_range _
theorem range12 {Ev:Env prog} {b:Ev.β} {Q:Exit→St Ev.β→Prop} (xs:List (List Dv)) (n s:Int) (p:List Int):∀(l:List Nat) (st:List Int×Int),(0≤st.2∧st.2<18446744073709551616)→
   Q .normal ⟨tmE xs n s,hpE (l.foldl (encStep p) st).1 (l.foldl (encStep p) st).2,b⟩→
   YList (YBody Ev (tmE xs n s) #[33,34] (assignOf rf12) (bodyOf rf12) 4) (l.map (itemB p)) (hpE st.1 st.2,b,none) (rangeQ (tmE xs n s) Q)
 | [],st,_,h=>h
 | i::l,st,hs,h=>by
   refine YList.step (X:=⟨TEnc,SEnc,wlW Ev,Ev.Y,false⟩) (k:=100) mixed (CX.Ok.of TEnc_ok SEnc_ok) rfl ?_
   show wpcY _ _ _ _ _ _ _ [.d (i64 _), .agg (cells16 _)] (hpE _ _) b (takeK 4 _)
   rw [enc_round]
   rw [Zcz] at h
   refine ⟨st.2,_,rfl,⟨hs,rfl⟩,Zar (fun hc=>⟨st.1,_,rfl,rfl, ?_⟩) fun hc=> ?_⟩
   · have e:encStep p st i=(xorL st.1 (blkS p i),clearS st.2):=by unfold encStep;rw [if_pos hc]
     rw [e] at h
     exact range12 xs n s p l (xorL st.1 (blkS p i),clearS st.2) (clearS_range _) h
   · have e:encStep p st i=st:=by unfold encStep;rw [if_neg (by simp [hc])]
     rw [e] at h
     exact range12 xs n s p l st hs h
def encFold (p:List Int) (set:Int):List Int×Int:=(Zcd 0 16).foldl (encStep p) ([],set)
def wlEnc {β:Type}:WLT β:=fun c tm hp b K=>∃(p:List Int) (n s set:Int),c=rf12∧maskTm [1,2,6,8,9,10,32] 0 tm=tmE (bytesR p) n s∧hp=hpE [] set∧(p.length=256∧0≤set∧set<18446744073709551616)∧
 ∃a z,encFold p set=(a,z)∧K .normal (tmE (bytesR p) n s) (hpE a z) b
theorem wlEnc_ok {Ev:Env prog} (c:Code) (tm:List AV) (hp:List Blk) (b:Ev.β) (K:Exit→List AV→List Blk→Ev.β→Prop) (h:wlEnc c tm hp b K):W Ev c ⟨tm,hp,b⟩ (fun e s=>K e s.tm s.hp s.b):=by
 obtain ⟨p,n,s,set,rfl,htm,rfl,⟨hp,h0,h1⟩,a,z,hf,hK⟩:=h
 refine W.cast (htm▸maskTm_le [1,2,6,8,9,10,32] tm 0) (Zco _) ?_
 rw [rf12_shape]
 refine W.range (s:=⟨tmE (bytesR p) n s,_,b⟩) (k:=154) (first:= []) (caps:= [.rptr [.sl 1 (bytesR p)]]) rfl rfl rfl (ic42 p hp) (range12 (bytesR p) n s p _ ([],set) ⟨h0,h1⟩ ?_)
 have:(Zcd 0 16).foldl (encStep p) ([],set)=(a,z):=hf
 rw [this];exact hK
def nilS:AV:= .d (.s (.slice none 0 0))
def codeA (n s:Int) (d:AV) (e:Int):AV:= .tup [.agg [.d (i64 n), .d (i64 s),d,nilS], .d (i64 e)]
theorem encode_nf (xs:List (List Dv)) (n s:Int):wpFn prog ⟨TEnc,SEnc,wlEnc,y,false⟩ 100 f34 [.d (.sl 1 xs), .d (i64 n), .d (i64 s)] b R=(
 BIf ((xs.length:Int) !=256) (R (codeA 0 0 nilS 1) b) (∃x0:Int, [Zae (i64 n)]= [.d (i64 x0)]∧BIf (!pageS x0) (R (codeA 0 0 nilS 1) b) (∃x1:Int, [Zae (i64 s)]= [.d (i64 x1)]∧BIf (!seedS x1) (R (codeA 0 0 nilS 1) b)
   (∃x2 z3:Int, [Zae (i64 s)]= [.d (i64 x2)]∧z3=setS x2∧∃xs4:List (List Dv), [Zae (.sl 1 xs)]= [.d (.sl 1 xs4)]∧∃(p5:List Int) (n6 s7 set8:Int),rf12=rf12∧tmE xs4 n s=tmE (bytesR p5) n6 s7∧
     hpE [] (Zaa .u64 z3)=hpE [] set8∧(p5.length=256∧0≤set8∧set8<18446744073709551616)∧∃(a9:List Int) (z10:Int),encFold p5 set8=(a9,z10)∧
       ∃p11:List Int, [Zae (.sl 1 (bytesR (b16 a9)))]= [.d (.sl 1 (bytesR p11))]∧(p11≠ []∧p11.length≤140737488355328)∧R (codeA n6 s7 (.d (.sl 1 (bytesR p11))) 0) b)))):=by kernel_rfl
def encOk (p:List Int) (n s:Int):Bool:=decide (p.length=256)&&pageS n&&seedS s
def encS (p:List Int) (s:Int):List Int:=b16 (encFold p (setS s)).1
def encA (p:List Int) (n s:Int):AV:=if encOk p n s then codeA n s (.d (.sl 1 (bytesR (encS p s)))) 0 else codeA 0 0 nilS 1
theorem pcEncode (p:List Int) (n s:Int):PCall prog 34 [.d (.sl 1 (bytesR p)), .d (i64 n), .d (i64 s)] (encA p n s):=by
 refine PCall.ofFnW (n:=100) (u:=false) (fun _=>wlEnc) mixed TEnc_ok SEnc_ok (fun Ev=>wlEnc_ok) func34 (by rfl) (by rfl) fun Ev bb=> ?_
 rw [encode_nf,bytesR_len]
 refine Zar (fun h=> ?_) fun h=>⟨n,rfl,Zar (fun h1=> ?_) fun h1=>⟨s,rfl,Zar (fun h2=> ?_) fun h2=> ?_⟩⟩
 · have:encOk p n s=false:=by simp [encOk];intro h3;simp at h;omega
   simp [encA,this]
 · have:encOk p n s=false:=by simp at h1;simp [encOk,h1]
   simp [encA,this]
 · have:encOk p n s=false:=by simp at h2;simp [encOk,h2]
   simp [encA,this]
 · have h3:p.length=256:=by simp at h;omega
   simp at h1 h2
   have ho:encOk p n s=true:=by simp [encOk,h1,h2,h3]
   have hr:=setS_range h2
   refine ⟨s,_,rfl,rfl,_,rfl,p,n,s,setS s,rfl,rfl, ?_,⟨h3,by omega,by omega⟩,(encFold p (setS s)).1,(encFold p (setS s)).2,by generalize encFold p (setS s)=z;rfl,b16 (encFold p (setS s)).1,by generalize (encFold p (setS s)).1=z;rfl,⟨fun h=>by have:=congrArg Zac h;simp [b16] at this,by generalize (encFold p (setS s)).1=z;simp [b16]⟩, ?_⟩
   · rw [wrap_u64 (by omega) (by omega)]
   · rw [encA,if_pos ho,encS]
def TRec:List (Nat×(List AV→(AV→Prop)→Prop)):= [(99,cIsPage),(97,cSeed),(33,cSet),(32,c12)]
theorem TRec_ok:CallsOk prog TRec:=Zag cIsPage_ok (Zag cIsSeed_ok (Zag cSet_ok (Zag c12_ok Zaj)))
def nil3:AV:= .tup [.d (.s (.slice none 0 0)), .d (bo false), .d (i64 1)]
def recA (n s:Int) (d pr:List (List Dv)):AV:= .agg [.d (i64 n), .d (i64 s), .d (.sl 1 d), .d (.sl 1 pr)]
theorem receive_nf (xs ys pr:List (List Dv)) (n s:Int):wpFn prog ⟨TRec, [],wl,y,false⟩ 100 f49 [.d (.sl 2 xs),recA n s ys pr] b R=(
 ∃ x0:Int, [Zae (i64 n)]= [.d (i64 x0)]∧BIf (!pageS x0) (R nil3 b) (∃x1:Int, [Zae (i64 s)]= [.d (i64 x1)]∧BIf (!seedS x1) (R nil3 b) (BIf ((ys.length:Int) !=16) (R nil3 b)
   (∃x2 z3:Int, [Zae (i64 s)]= [.d (i64 x2)]∧z3=setS x2∧∃(l4:List Row) (m5:Int) (b6:List Int) (x7:List Row×Bool×Int), [Zae (.sl 2 xs), .agg [.d (i64 z3), .d (.sl 1 ys)]]= [.d (.sl 2 (rowsR l4)),rowA m5 b6]∧
     2*l4.length≤1000000∧x7=addS l4 m5 b6∧R (addR x7) b)))):=by kernel_rfl
def recOk (n s:Int) (d:List Int):Bool:=pageS n&&seedS s&&decide (d.length=16)
def recS (l:List Row) (n s:Int) (d:List Int):List Row×Bool×Int:=if recOk n s d then addS l (setS s) d else ([],false,1)
theorem pcReceive (l:List Row) (n s:Int) (d:List Int) (pr:List (List Dv)) (hl:2*l.length≤1000000):PCall prog 49 [.d (.sl 2 (rowsR l)),recA n s (bytesR d) pr] (addR (recS l n s d)):=by
 refine PCall.ofFnL (n:=100) (u:=false) (fun _=>fun _ _ _ _ _=>False) mixed TRec_ok Zaf (fun Ev _ _ _ _ _ h=>h.elim) func49 (by rfl) (by rfl) fun Ev bb=> ?_
 rw [receive_nf,bytesR_len]
 refine ⟨n,rfl,Zar (fun h1=> ?_) fun h1=>⟨s,rfl,Zar (fun h2=> ?_) fun h2=>Zar (fun h3=> ?_) fun h3=> ?_⟩⟩
 · rw [recS,if_neg (by simp at h1;simp [recOk,h1])];exact nilTup _ _
 · rw [recS,if_neg (by simp at h2;simp [recOk,h2])];exact nilTup _ _
 · rw [recS,if_neg (by simp at h3;simp [recOk];intro _ _ h;omega)];exact nilTup _ _
 · simp at h1 h2 h3
   rw [recS,if_pos (by simp [recOk,h1,h2];omega)]
   exact ⟨s,_,rfl,rfl,l,_,d,_,rfl,hl,rfl, .rfl⟩
def GB:List (Nat×(List AV→List Blk→(AV→List Blk→Prop)→Prop)):= [((1000000+5),fun _ _ _=>False)]
theorem GB_ok:SCallsOk prog GB:=Zcc (fun _ _ _ h=>h.elim) Zaf
def TPg:List (Nat×(List AV→(AV→Prop)→Prop)):= [(123,c14)]
theorem TPg_ok:CallsOk prog TPg:=Zag c14_ok Zaj
noncomputable def lp16:Code:=sub [1,1,1,0,1,2,3] (code f52)
def setF (l:List Bool) (i:Nat) (z:Bool):List Bool:=(Zbd 16).map fun j=>if j=i then z else l.getD j false
def cellB (l:List Bool):Blk:=⟨(Zbd 16).map fun i=> .d (bo (l.getD i false)),false,false,0⟩
def tm16 (xs:List (List Dv)) (v n:Nat) (i:Int):List AV:= [.d (.sl 2 xs), .bad, .bad, .bad, .ptr 0 0, .gref 1 v n 1, .bad, .bad, .bad, .d (i64 i)]++Zad 25 .bad
def growB (cs:List AV) (v:Nat):Blk:=⟨cs,false,true,v⟩
def pageR {β:Type} (K:Exit→List AV→List Blk→β→Prop) (b:β) (xs:List (List Dv)) (cs:List AV) (l:List Bool) (v n i:Nat):Prop:=
 ∃ (l0:List Row) (m1:Int) (x2:List Int×Bool), [Zae (.sl 2 xs), .d (i64 i)]= [.d (.sl 2 (rowsR l0)), .d (i64 m1)]∧l0.length≤9223372036854775807∧x2=solvedS l0 m1∧
   BIf x2.2 (v=v∧BIf (decide ((n+(bytesR x2.1).length)*1≤140737488355328)) (K .normal (tm16 xs (v+1) (n+(bytesR x2.1).length) (i+1:Nat)) [cellB (setF l i x2.2),growB (cs++flatA (bytesR x2.1)) (v+1)] b) False)
     (K .normal (tm16 xs v n (i+1:Nat)) [cellB (setF l i x2.2),growB cs v] b)
theorem page_round (xs:List (List Dv)) (cs:List AV) (l:List Bool) (v n:Nat):∀i:Nat,i<16→
   wpc prog ⟨TPg,GB,wl,y,false⟩ 100 lp16 (tm16 xs v n i) [cellB l,growB cs v] b (maskT [0,4,5,9] K)=pageR K b xs cs l v n i
 |0,_=>by kernel_rfl
 |1,_=>by kernel_rfl
 |2,_=>by kernel_rfl
 |3,_=>by kernel_rfl
 |4,_=>by kernel_rfl
 |5,_=>by kernel_rfl
 |6,_=>by kernel_rfl
 |7,_=>by kernel_rfl
 |8,_=>by kernel_rfl
 |9,_=>by kernel_rfl
 |10,_=>by kernel_rfl
 |11,_=>by kernel_rfl
 |12,_=>by kernel_rfl
 |13,_=>by kernel_rfl
 |14,_=>by kernel_rfl
 |15,_=>by kernel_rfl
 |n+16,h=>absurd h (by omega)
theorem page_end (xs:List (List Dv)) (cs:List AV) (l:List Bool) (v n:Nat):wpc prog ⟨TPg,GB,wl,y,false⟩ 100 lp16 (tm16 xs v n 16) [cellB l,growB cs v] b (maskT [0,4,5,9] K)=K (.exit 0) (tm16 xs v n 16) [cellB l,growB cs v] b:=by kernel_rfl
theorem solvedS_len (l:List Row) (i:Int):(solvedS l i).1.length≤16:=by
 unfold solvedS
 split
 · simp
 · split
   · unfold foundS;split<;>simp [b16]
   · simp
def pageStep (l:List Row) (st:List Int×List Bool) (i:Nat):List Int×List Bool:=
 if (solvedS l i).2 then (st.1++(solvedS l i).1,setF st.2 i (solvedS l i).2) else (st.1,setF st.2 i (solvedS l i).2)
theorem wrPage {Ev:Env prog} {b:Ev.β} {Q:Exit→St Ev.β→Prop} (l:List Row) (hl:l.length≤9223372036854775807):∀(n k:Nat) (st:List Int×List Bool) (v:Nat),k+n=16→st.1.length≤16*k→
   (∀v',Q (.exit 0) ⟨tm16 (rowsR l) v' ((Zcd k n).foldl (pageStep l) st).1.length 16, [cellB ((Zcd k n).foldl (pageStep l) st).2,growB (flatA (bytesR ((Zcd k n).foldl (pageStep l) st).1)) v'],b⟩)→
   WR Ev lp16 (n+1) ⟨tm16 (rowsR l) v st.1.length k, [cellB st.2,growB (flatA (bytesR st.1)) v],b⟩ Q
 | 0,k,st,v,hk,hs,h=>by
   refine Zdk [0,4,5,9] mixed (CX.Ok.of (u:=false) TPg_ok GB_ok) (k:=100) ?_
   obtain rfl:k=16:=by omega
   show wpc _ _ _ _ (tm16 (rowsR l) v st.1.length 16) _ _ _
   rw [page_end]
   exact h v
 | n+1,k,st,v,hk,hs,h=>by
   refine Zdk [0,4,5,9] mixed (CX.Ok.of (u:=false) TPg_ok GB_ok) (k:=100) ?_
   rw [page_round _ _ _ _ _ _ _ _ _ k (by omega)]
   rw [Zdr,Zcz] at h
   have hd:=solvedS_len l k
   refine ⟨l,_,solvedS l k,rfl,hl,rfl,Zar (fun hf=>⟨rfl,Zbt (by rw [bytesR_len];simp;omega) ?_⟩) fun hf=> ?_⟩
   · have e:pageStep l st k=(st.1++(solvedS l k).1,setF st.2 k (solvedS l k).2):=by simp [pageStep,hf]
     rw [e] at h
     have:=wrPage l hl n (k+1) (st.1++(solvedS l k).1,setF st.2 k (solvedS l k).2) (v+1) (by omega) (by simp;omega) h
     rw [bytesR_app,flatA_append,Zdo] at this
     rw [bytesR_len]
     exact this
   · have e:pageStep l st k=(st.1,setF st.2 k (solvedS l k).2):=by simp [pageStep,hf]
     rw [e] at h
     exact wrPage l hl n (k+1) (st.1,setF st.2 k (solvedS l k).2) v (by omega) (by simp;omega) h
def boolsR (f:List Bool):List (List Dv):=f.map fun z=> [bo z]
def ixS (w:Bool):List Bool→Nat→Int
 | [],_=> -1
 |z::f,k=>if w==z then k else ixS w f (k+1)
theorem ixS_ge (w:Bool):∀(f:List Bool) (k:Nat),decide (ixS w f k≥0)=f.contains w
 | [],k=>by simp [ixS]
 | z::f,k=>by
   unfold ixS
   rw [List.contains_cons]
   cases h:w==z with
   |true=>simp
   |false=>simpa using ixS_ge w f (k+1)
noncomputable def lp57:Code:=sub [1,0,1,2,3] (code f176)
def tm57 (xs:List (List Dv)) (w:Bool) (n i:Int):List AV:= [.d (.sl 1 xs), .d (bo w), .bad, .bad, .bad, .bad, .bad, .d (i64 n), .d (i64 i)]++Zad 10 .bad
theorem f57_round (xs:List (List Dv)) (w:Bool) (n i:Int):wpc prog ⟨[], [],wl,y,false⟩ 100 lp57 (tm57 xs w n i) [] b (maskK 0 [0,1,4,7,8] K)=(
 BIf (decide (i<n)) (BIf (true&&decide (0≤i)) (∃b0:Bool,xs[Zat i]? =some [bo b0]∧BIf (w==b0) (K .ret ((tm57 xs w n i).set 4 (.d (i64 i))) [] b) (K .normal (tm57 xs w n (Zaa .i64 (i+1))) [] b)) False)
   (K (.exit 0) (tm57 xs w n i) [] b)):=by kernel_rfl
def wl57 {β:Type}:WLT β:=fun c tm hp b K=>∃(f:List Bool) (w:Bool),c= .loop lp57∧maskTm [0,1,7,8] 0 tm=tm57 (boolsR f) w f.length 0∧hp= []∧f.length≤9223372036854775807∧
 (∀i:Nat,ixS w f 0=i→K .ret ((tm57 (boolsR f) w f.length i).set 4 (.d (i64 i))) [] b)∧(ixS w f 0= -1→K (.exit 0) (tm57 (boolsR f) w f.length f.length) [] b)
theorem wr57 {Ev:Env prog} {b:Ev.β} {Q:Exit→St Ev.β→Prop} (f:List Bool) (w:Bool) (hl:f.length≤9223372036854775807):∀(rest:List Bool) (k:Nat),f.drop k=rest→k≤f.length→
   (∀i:Nat,ixS w rest k=i→Q .ret ⟨(tm57 (boolsR f) w f.length i).set 4 (.d (i64 i)), [],b⟩)→(ixS w rest k= -1→Q (.exit 0) ⟨tm57 (boolsR f) w f.length f.length, [],b⟩)→WR Ev lp57 (rest.length+1) ⟨tm57 (boolsR f) w f.length k, [],b⟩ Q
 | [],k,hd,hk,h1,h2=>by
   refine WR.ofMask [0,1,4,7,8] mixed (CX.Ok.of (u:=false) Zaj Zaf) (k:=100) ?_
   show wpc _ _ _ _ _ _ _ (maskK 0 _ _)
   rw [f57_round]
   have:=drop_nil hd
   obtain rfl:k=f.length:=by omega
   exact Zea (by simp) (h2 rfl)
 | z::rest,k,hd,hk,h1,h2=>by
   refine WR.ofMask [0,1,4,7,8] mixed (CX.Ok.of (u:=false) Zaj Zaf) (k:=100) ?_
   show wpc _ _ _ _ _ _ _ (maskK 0 _ _)
   rw [f57_round]
   obtain ⟨hk,hr,hd'⟩:=drop_cons hd
   refine Zbt (by simpa using hk) (Zbt (by simp) ⟨z,by simp [boolsR,hr],Zar (fun hz=> ?_) fun hz=> ?_⟩)
   · exact h1 k (by simp [ixS,hz])
   · rw [wrap_succ hk hl]
     have e:ixS w (z::rest) k=ixS w rest (k+1):=by simp [ixS,hz]
     rw [e] at h1 h2
     exact wr57 f w hl rest (k+1) hd' hk h1 h2
theorem wl57_ok {Ev:Env prog} (c:Code) (tm:List AV) (hp:List Blk) (b:Ev.β) (K:Exit→List AV→List Blk→Ev.β→Prop) (h:wl57 c tm hp b K):W Ev c ⟨tm,hp,b⟩ (fun e s=>K e s.tm s.hp s.b):=by
 obtain ⟨f,w,rfl,htm,rfl,hl,h1,h2⟩:=h
 refine W.cast (htm▸maskTm_le _ tm 0) (Zco _) ?_
 exact W.rounds (wr57 (Q:=fun e s=>K e s.tm s.hp s.b) f w hl f 0 rfl (Nat.zero_le _) h1 h2)
theorem f57_nf (xs:List (List Dv)) (w:Bool):wpFn prog ⟨[], [],wl57,y,false⟩ 100 f176 [.d (.sl 1 xs), .d (bo w)] b R=(
 ∃ (f:List Bool) (w':Bool),Zbq lp57= .loop lp57∧tm57 xs w xs.length 0=tm57 (boolsR f) w' f.length 0∧([]:List Blk)= []∧f.length≤9223372036854775807∧
   (∀i:Nat,ixS w' f 0=i→R (.d (i64 i)) b)∧(ixS w' f 0= -1→R (.d (i64 (-1))) b)):=by kernel_rfl
theorem pcIndex (f:List Bool) (w:Bool) (hl:f.length≤9223372036854775807):PCall prog 176 [.d (.sl 1 (boolsR f)), .d (bo w)] (.d (i64 (ixS w f 0))):=by
 refine PCall.ofFnW (n:=100) (u:=false) (fun _=>wl57) mixed Zaj Zaf (fun Ev=>wl57_ok) func176 (by rfl) (by rfl) fun Ev bb=> ?_
 rw [f57_nf]
 have hbl:(boolsR f).length=f.length:=by simp [boolsR]
 rw [hbl]
 exact ⟨f,w,rfl,rfl,rfl,hl,fun i h=>by rw [h],fun h=>by rw [h]⟩
def cIndexB (args:List AV) (K:AV→Prop):Prop:=∃(f:List Bool) (w:Bool) (z:Int),args= [.d (.sl 1 (boolsR f)), .d (bo w)]∧(f.length≤9223372036854775807∧z=ixS w f 0)∧K (.d (i64 z))
theorem cIndexB_ok:∀args K,cIndexB args K→∃x,PCall prog 176 args x∧K x:=by
 rintro _ K ⟨f,w,_,rfl,⟨hl,rfl⟩,h⟩;exact ⟨_,pcIndex f w hl,h⟩
def TCon:List (Nat×(List AV→(AV→Prop)→Prop)):= [(176,cIndexB)]
theorem TCon_ok:CallsOk prog TCon:=Zag cIndexB_ok Zaj
theorem contains_nf (xs:List (List Dv)) (w:Bool):wpFn prog ⟨TCon, [],wl,y,false⟩ 100 f124 [.d (.sl 1 xs), .d (bo w)] b R=(
 ∃(f:List Bool) (w':Bool) (z:Int), [Zae (.sl 1 xs), .d (bo w)]= [.d (.sl 1 (boolsR f)), .d (bo w')]∧(f.length≤9223372036854775807∧z=ixS w' f 0)∧R (.d (bo (decide (z≥0)))) b):=by kernel_rfl
theorem pcContains (f:List Bool) (w:Bool) (hl:f.length≤9223372036854775807):PCall prog 124 [.d (.sl 1 (boolsR f)), .d (bo w)] (.d (bo (f.contains w))):=by
 refine Zbi (n:=100) (u:=false) mixed TCon_ok Zaf func124 (by rfl) (by rfl) fun Ev bb=> ?_
 rw [contains_nf]
 exact ⟨f,w,_,rfl,⟨hl,rfl⟩,by rw [ixS_ge]⟩
def cContains (args:List AV) (K:AV→Prop):Prop:=∃(f:List Bool) (w z:Bool),args= [.d (.sl 1 (boolsR f)), .d (bo w)]∧(f.length≤9223372036854775807∧z=f.contains w)∧K (.d (bo z))
theorem cContains_ok:∀args K,cContains args K→∃x,PCall prog 124 args x∧K x:=by
 rintro _ K ⟨f,w,_,rfl,⟨hl,rfl⟩,h⟩;exact ⟨_,pcContains f w hl,h⟩
def pageF (l:List Row):List Int×List Bool:=(Zcd 0 16).foldl (pageStep l) ([], [])
def wlPage {β:Type}:WLT β:=fun c tm hp b K=>∃(l:List Row) (r:List Int×List Bool),c= .loop lp16∧maskTm [0,4,5,9] 0 tm=tm16 (rowsR l) 0 0 0∧hp= [cellB [],growB [] 0]∧l.length≤9223372036854775807∧r=pageF l∧
 ∀v,K (.exit 0) (tm16 (rowsR l) v r.1.length 16) [cellB r.2,growB (flatA (bytesR r.1)) v] b
theorem wlPage_ok {Ev:Env prog} (c:Code) (tm:List AV) (hp:List Blk) (b:Ev.β) (K:Exit→List AV→List Blk→Ev.β→Prop) (h:wlPage c tm hp b K):W Ev c ⟨tm,hp,b⟩ (fun e s=>K e s.tm s.hp s.b):=by
 obtain ⟨l,r,rfl,htm,rfl,hl,rfl,hK⟩:=h
 refine W.cast (htm▸maskTm_le _ tm 0) (Zco _) ?_
 exact W.rounds (wrPage (Q:=fun e s=>K e s.tm s.hp s.b) l hl 16 0 ([], []) 0 rfl (Nat.zero_le _) hK)
def TPage:List (Nat×(List AV→(AV→Prop)→Prop)):= [(124,cContains)]
theorem TPage_ok:CallsOk prog TPage:=Zag cContains_ok Zaj
def noneF (l:List Bool):Bool:=(Zcd 0 16).foldr (fun i a=>l.getD i false==false&&a) true
def rows16 (l:List Bool):List (List Dv):=(Zcd 0 16).map fun i=> [bo (l.getD i false)]
def pagesS (l:List Row):List Int×Bool:=if noneF (pageF l).2||((Zcd 0 16).map fun i=>(pageF l).2.getD i false).contains false then ([],false) else ((pageF l).1,true)
theorem page_nf (xs:List (List Dv)):wpFn prog ⟨TPage,GB,wlPage,y,false⟩ 100 f52 [.d (.sl 2 xs)] b R=(
 ∃ (l:List Row) (r:List Int×List Bool),Zbq lp16= .loop lp16∧tm16 xs 0 0 0=tm16 (rowsR l) 0 0 0∧ [cellB [],growB [] 0]= [cellB [],growB [] 0]∧l.length≤9223372036854775807∧r=pageF l∧∀v:Nat,
   BIf (noneF r.2) (R (.tup [.d (.s (.slice none 0 0)), .d (bo false)]) b)
     (∃(f:List Bool) (w z:Bool), [Zae (.sl 1 (rows16 r.2)), .d (bo false)]= [.d (.sl 1 (boolsR f)), .d (bo w)]∧(f.length≤9223372036854775807∧z=f.contains w)∧
       BIf z (R (.tup [.d (.s (.slice none 0 0)), .d (bo false)]) b) (v=v∧∃xs5:List (List Dv),flatA (bytesR r.1)=flatA xs5∧xs5.length=r.1.length∧(∀q:List Dv,q∈xs5→q.length=1)∧R (.tup [.d (.sl 1 xs5), .d (bo true)]) b))):=by kernel_rfl
theorem pcPage (l:List Row) (hl:l.length≤9223372036854775807):PCall prog 52 [.d (.sl 2 (rowsR l))] (bytesB (pagesS l)):=by
 refine PCall.ofFnL (n:=100) (u:=false) (fun _=>wlPage) mixed TPage_ok GB_ok (fun Ev=>wlPage_ok) func52 (by rfl) (by rfl) fun Ev bb=> ?_
 show wpFn prog ⟨TPage,GB,wlPage,Ev.Y,false⟩ 100 f52 _ bb _
 rw [page_nf]
 refine ⟨l,_,rfl,rfl,rfl,hl,rfl,fun v=>Zar (fun h=> ?_) fun h=>⟨(Zcd 0 16).map fun i=>(pageF l).2.getD i false,false,_,rfl,⟨by simp,rfl⟩,Zar (fun h1=> ?_) fun h1=>⟨rfl,bytesR (pageF l).1,rfl,bytesR_len _, ?_, ?_⟩⟩⟩
 · rw [pagesS,if_pos (by rw [h];rfl)];exact nilTup1 _
 · rw [pagesS,if_pos (by rw [h1];simp)];exact nilTup1 _
 · intro q hq
   simp only [bytesR,Zbe] at hq
   obtain ⟨x,_,rfl⟩:=hq;rfl
 · rw [pagesS,if_neg (by rw [h,h1];simp)];exact .rfl
theorem setF_get (l:List Bool) (i j:Nat) (z:Bool) (hj:j<16):(setF l i z).getD j false=if j=i then z else l.getD j false:=by
 simp [setF,List.getD,hj]
theorem page_bools (l:List Row):∀(n k:Nat) (st:List Int×List Bool) (j:Nat),j<16→(((Zcd k n).foldl (pageStep l) st).2.getD j false)=if k≤j∧j<k+n then (solvedS l j).2 else st.2.getD j false
 |0,k,st,j,hj=>by simp;intro h1 h2;omega
 | n+1,k,st,j,hj=>by
   rw [Zdr,Zcz,page_bools l n (k+1) _ j hj]
   have e:(pageStep l st k).2=setF st.2 k (solvedS l k).2:=by unfold pageStep;split<;>rfl
   rw [e,setF_get _ _ _ _ hj]
   by_cases h1:j=k
   · subst h1
     rw [if_neg (by omega),if_pos rfl,if_pos (by omega)]
   · rw [if_neg h1]
     by_cases h2:k+1≤j∧j<k+1+n
     · rw [if_pos h2,if_pos (by omega)]
     · rw [if_neg h2,if_neg (by omega)]
theorem page_data (l:List Row):∀(n k:Nat) (st:List Int×List Bool),(∀i:Nat,k≤i→i<k+n→(solvedS l i).2=true)→((Zcd k n).foldl (pageStep l) st).1=st.1++(Zcd k n).flatMap fun i:Nat=>(solvedS l i).1
 |0,k,st,_=>by simp
 | n+1,k,st,h=>by
   rw [Zdr,Zcz,page_data l n (k+1) _ fun i h1 h2=>h i (by omega) (by omega)]
   have e:(pageStep l st k).1=st.1++(solvedS l k).1:=by unfold pageStep;rw [if_pos (h k (by omega) (by omega))]
   rw [e];simp
theorem noneF_iff (l:List Bool):noneF l=true↔∀i,i<16→l.getD i false=false:=by
 have key:∀(n k:Nat),(Zcd k n).foldr (fun i a=>l.getD i false==false&&a) true=true↔∀i,k≤i→i<k+n→l.getD i false=false:=by
   intro n
   induction n with
   |zero=>intro k;simp;intro i h1 h2;omega
   | succ n ih=>
     intro k
     rw [Zdr,List.foldr_cons,Zam,ih,beq_iff_eq]
     refine ⟨fun h i h1 h2=> ?_,fun h=>⟨h k (by omega) (by omega),fun i h1 h2=>h i (by omega) (by omega)⟩⟩
     by_cases hi:i=k
     · subst hi;exact h.1
     · exact h.2 i (by omega) (by omega)
 have:=key 16 0
 exact this.trans ⟨fun h i hi=>h i (by omega) (by omega),fun h i _ hi=>h i (by omega)⟩
theorem pagesS_eq (l:List Row):pagesS l=if (Zcd 0 16).all fun i:Nat=>(solvedS l i).2 then ((Zcd 0 16).flatMap fun i:Nat=>(solvedS l i).1,true) else ([],false):=by
 have hb:∀j,j<16→(pageF l).2.getD j false=(solvedS l j).2:=fun j hj=>by
   unfold pageF;rw [page_bools l 16 0 _ j hj,if_pos (by omega)]
 by_cases h:(Zcd 0 16).all (fun i:Nat=>(solvedS l i).2)=true
 · rw [if_pos h]
   have h':∀i:Nat,i<16→(solvedS l i).2=true:=fun i hi=>Zbc.1 h i (by simp [Zdg];omega)
   have hn:noneF (pageF l).2=false:=by
     cases hx:noneF (pageF l).2 with
     |false=>rfl
     |true=>have:=(noneF_iff _).1 hx 0 (by omega);rw [hb 0 (by omega),h' 0 (by omega)] at this;cases this
   have hc:((Zcd 0 16).map fun i=>(pageF l).2.getD i false).contains false=false:=by
     rw [List.contains_eq_mem,decide_eq_false_iff_not]
     intro hm
     obtain ⟨i,hi,he⟩:=Zbe.1 hm
     have hi:i<16:=by simp [Zdg] at hi;omega
     rw [hb i hi,h' i hi] at he;cases he
   rw [pagesS,if_neg (by rw [hn,hc];simp)]
   have:=page_data l 16 0 ([], []) fun i _ h2=>h' i (by omega)
   rw [show (pageF l).1=_ from this];simp
 · rw [if_neg h]
   have:∃i:Nat,i<16∧(solvedS l i).2=false:=by
     false_or_by_contra
     rename_i hn
     exact h (Zbc.2 fun i hi=>by
       have hi:i<16:=by simp [Zdg] at hi;omega
       cases hx:(solvedS l i).2 with
       |true=>rfl
       |false=>exact absurd ⟨i,hi,hx⟩ hn)
   obtain ⟨i,hi,hx⟩:=this
   rw [pagesS,if_pos]
   rw [Bool.or_eq_true];right
   rw [List.contains_eq_mem,decide_eq_true_eq]
   exact Zbe.2 ⟨i,by simp [Zdg];omega,by rw [hb i hi,hx]⟩
def tmR (ps ss:List (List Dv)) (l:AV) (n i:Int):List AV:= [.d (.sl 1 ps), .d (.sl 1 ss), .bad, .bad, .bad, .bad, .bad,l, .d (i64 n), .d (i64 i)]++Zad 43 .bad
section
variable {ι:Type}
def vx (u v:ι→Bool):ι→Bool:=fun i=>(u i ^^ v i)
def redV (x:ι→Bool) (r:ι×(ι→Bool)):ι→Bool:=if x r.1 then vx x r.2 else x
theorem redV_vx (x y:ι→Bool) (r:ι×(ι→Bool)):redV (vx x y) r=vx (redV x r) (redV y r):=by
 funext i
 unfold redV
 have e:vx x y r.1=(x r.1 ^^ y r.1):=rfl
 rw [e]
 cases x r.1<;>cases y r.1<;>simp [vx]<;>cases x i<;>cases y i<;>cases r.2 i<;>rfl
theorem foldV_vx:∀(l:List (ι×(ι→Bool))) (x y:ι→Bool),l.foldl redV (vx x y)=vx (l.foldl redV x) (l.foldl redV y)
 | [],x,y=>rfl
 |r::l,x,y=>by simp only [Zcz,redV_vx,foldV_vx l]
end
abbrev Ix:=Nat ⊕ (Nat×Nat)
def vec (x:Row):Ix→Bool
 | .inl k=>x.1.toNat.testBit k
 | .inr (i,j)=>decide (i<16)&&(Zao 8 (nth x.2 i)).getLsbD j
def top (m:Int):Nat:=m.toNat.log2
def rowV (r:Row):Ix×(Ix→Bool):=(.inl (top r.1),vec (r.1,pad r.2))
theorem nth_xorL {p q:List Int} {i:Nat} (h:i<16):nth (xorL p q) i=xor8 (nth p i) (nth q i):=by
 simp [nth,xorL,List.getElem?_range,h]
theorem wrap_u8_nat {n:Nat} (h:n<256):Zaa .u8 (n:Int)=n:=wrap_u8 (by omega) (by omega)
theorem xor8_nat (a b:Int):xor8 a b=(((Zao 8 a ^^^ Zao 8 b).toNat:Nat):Int):=by
 unfold xor8;exact wrap_u8_nat (BitVec.isLt _)
theorem ofInt_xor8 (a b:Int):Zao 8 (xor8 a b)=Zao 8 a ^^^ Zao 8 b:=by
 rw [xor8_nat]
 generalize hz:Zao 8 a ^^^ Zao 8 b=z
 apply BitVec.eq_of_toNat_eq
 rw [BitVec.toNat_ofInt]
 have:=z.isLt
 omega
theorem xor8_bd (a b:Int):0≤xor8 a b∧xor8 a b<256:=by
 rw [xor8_nat]
 have:=(Zao 8 a ^^^ Zao 8 b).isLt
 omega
theorem vec_xor {m n:Int} {p q:List Int} (h0:0≤m) (h1:m<65536) (h2:0≤n) (h3:n<65536):vec (xor64 m n,xorL p q)=vx (vec (m,p)) (vec (n,q)):=by
 funext i
 cases i with
 |inl k=>simp only [vec,vx];rw [xor64_eq h0 h1 h2 h3];simp
 | inr ij=>
   obtain ⟨i,j⟩:=ij
   simp only [vec,vx]
   by_cases h:i<16
   · rw [nth_xorL h,ofInt_xor8];simp [h]
   · simp [h]
theorem lead_nat (m:Int):(lead m).toNat=2 ^ top m:=Zba _
theorem lead_bd {m:Int} (h0:1≤m) (h1:m<65536):0≤lead m∧lead m<65536:=by
 have h2:=(log2_bounds (n:=m.toNat) (by omega)).1
 unfold lead
 generalize 2 ^ m.toNat.log2=z at h2
 omega
theorem and_pow (n k:Nat):n&&&2 ^ k=if n.testBit k then 2 ^ k else 0:=by
 apply Zdb
 intro i
 rw [Nat.testBit_and,Zcn]
 by_cases h:k=i
 · subst h
   cases hn:n.testBit k<;>simp [Zcn]
 · cases hn:n.testBit k<;>simp [Zcn,h]
theorem and_lead {x m:Int} (hx:0≤x∧x<65536) (h0:1≤m) (h1:m<65536):(and64 x (lead m) !=0)=x.toNat.testBit (top m):=by
 have hl:=lead_bd h0 h1
 rw [and64_eq hx.1 hx.2 hl.1 hl.2,lead_nat,and_pow]
 cases x.toNat.testBit (top m) with
 | true=>
   have:=Nat.two_pow_pos (top m)
   generalize 2 ^ top m=z at this
   simp [bne];omega
 |false=>simp [bne]
theorem vec_red {x r:Row} (hx:0≤x.1∧x.1<65536) (hr:okMask r):vec (red x r)=redV (vec x) (rowV r):=by
 unfold red redV rowV
 rw [and_lead hx hr.1 hr.2]
 show _=if x.1.toNat.testBit (top r.1) then _ else _
 split
 · rw [vec_xor hx.1 hx.2 (by have:=hr.1;omega) hr.2]
 · rfl
theorem vec_foldl:∀ {l:List Row} {x:Row},0≤x.1∧x.1<65536→(∀r∈l,okMask r)→vec (l.foldl red x)=(l.map rowV).foldl redV (vec x)
 | [],x,_,_=>rfl
 | r::l,x,hx,h=>by
   have hr:=h r (Zay ..)
   simp only [Zcz,Zck]
   rw [vec_foldl (red_bd hx hr) fun r' h'=>h r' (Zaw _ h'),vec_red hx hr]
def canon (p:List Int):Prop:=∀i,i<16→0≤nth p i∧nth p i<256
theorem canon_nil:canon []:=fun i _=>by simp [nth]
theorem canon_xorL (p q:List Int):canon (xorL p q):=fun i h=>by rw [nth_xorL h];exact xor8_bd _ _
theorem canon_red {x r:Row} (h:canon x.2):canon (red x r).2:=by
 unfold red;split
 · exact canon_xorL _ _
 · exact h
theorem canon_foldl:∀ {l:List Row} {x:Row},canon x.2→canon (l.foldl red x).2
 | [],_,h=>h
 |r::l,x,h=>canon_foldl (l:=l) (canon_red h)
theorem ofInt8_inj {a b:Int} (ha:0≤a∧a<256) (hb:0≤b∧b<256) (h:Zao 8 a=Zao 8 b):a=b:=by
 have:=congrArg BitVec.toNat h
 simp only [BitVec.toNat_ofInt] at this
 omega
theorem vec_inr {x y:Row} (h:vec x=vec y) {i:Nat} (hi:i<16):Zao 8 (nth x.2 i)=Zao 8 (nth y.2 i):=by
 apply BitVec.eq_of_getLsbD_eq
 intro j _
 have:=congrFun h (.inr (i,j))
 simpa [vec,hi] using this
theorem b16_len (p:List Int):(b16 p).length=16:=by simp [b16]
theorem nth_b16 {p:List Int} {i:Nat} (h:i<16):nth (b16 p) i=nth p i:=by
 simp [nth,b16,List.getElem?_range,h]
theorem list16 {p q:List Int} (hp:p.length=16) (hq:q.length=16) (h:∀i,i<16→nth p i=nth q i):p=q:=by
 apply List.ext_getElem (by omega)
 intro i h1 h2
 have:=h i (by omega)
 simpa [nth,Zbk h1,Zbk h2] using this
theorem b16_ext {x y:Row} (hx:canon x.2) (hy:canon y.2) (h:vec x=vec y):b16 x.2=b16 y.2:=
 list16 (b16_len _) (b16_len _) fun i hi=>by rw [nth_b16 hi,nth_b16 hi];exact ofInt8_inj (hx i hi) (hy i hi) (vec_inr h hi)
theorem vec_inl {x y:Row} (hx:0≤x.1) (hy:0≤y.1) (h:vec x=vec y):x.1=y.1:=by
 have:x.1.toNat=y.1.toNat:=by
   apply Zdb
   intro k
   have:=congrFun h (.inl k)
   simpa [vec] using this
 omega
theorem xor64_zero {a b:Int} (ha:0≤a∧a<65536) (hb:0≤b∧b<65536):xor64 a b=0↔a=b:=by
 rw [xor64_eq ha.1 ha.2 hb.1 hb.2]
 constructor
 · intro h
   have:a.toNat ^^^ b.toNat=0:=by omega
   have:a.toNat=b.toNat:=by
     apply Zdb
     intro k
     have h2:=congrArg (fun z=>z.testBit k) this
     simpa using h2
   omega
 · rintro rfl;simp
theorem sumS_def {l:List Row} {m:Int} (h0:0≤m) (h1:m<65536) (hv:validS l=true):sumS l m=if (l.foldl red (m, [])).1 !=0 then ([],false) else (b16 (l.foldl red (m, [])).2,true):=by
 unfold sumS
 rw [decide_eq_false (by omega),decide_eq_false (by omega),hv];rfl
theorem fine_formed (m:Int) (p:List Int):fine m p=formedS m p:=by
 unfold fine formedS
 congr 2
 rw [Bool.eq_iff_iff];simp;omega
theorem lead_eq (m:Int):lead m=((2 ^ top m:Nat):Int):=rfl
theorem lead_lt {a b:Int}:lead a<lead b↔top a<top b:=by
 rw [lead_eq,lead_eq]
 constructor
 · intro h
   rcases Nat.lt_or_ge (top a) (top b) with h'|h'
   · exact h'
   · have:=Nat.pow_le_pow_right (n:=2) (by omega) h';omega
 · intro h
   have:=Nat.pow_lt_pow_right (a:=2) (by omega) h;omega
theorem top_bit {m:Int} (h:1≤m):m.toNat.testBit (top m)=true:=by
 have hn:m.toNat≠0:=by omega
 obtain ⟨h1,h2⟩:=log2_bounds hn
 unfold top
 rw [Nat.testBit_eq_decide_div_mod_eq]
 rw [Nat.pow_succ] at h2
 have h3:m.toNat / 2 ^ m.toNat.log2=1:=by
   apply Nat.div_eq_of_lt_le<;>omega
 rw [h3];rfl
theorem top_lt {m:Int} (h0:1≤m) (h1:m<65536):top m<16:=(Nat.log2_lt (by omega)).2 (by omega)
theorem vPrev_vA:∀(l:List Row) (q:Row) (L:Int),vPrev (some q) l=(vA l (L,lead q.1)).2
 | [],_,_=>rfl
 | r::l,q,L=>by
   simp only [vPrev,vA,prevOk,fine_formed]
   cases hc:(formedS r.1 r.2&&decide (lead r.1<lead q.1)) with
   |false=>simp
   |true=>simp;exact vPrev_vA l r _
theorem vPrev_vA0 (l:List Row):vPrev none l=(vA l (0,65536)).2:=by
 cases l with
 |nil=>rfl
 | cons r l=>
   simp only [vPrev,vA,prevOk,fine_formed]
   cases hf:formedS r.1 r.2 with
   |false=>simp
   | true=>
     simp only [formedS,Zam,decide_eq_true_eq] at hf
     have:=(lead_bd hf.1 hf.2.1).2
     simp [this];exact vPrev_vA l r _
theorem vA_falls:∀ {l:List Row} {s:Int×Int},(vA l s).2=true→(∀r∈l,lead r.1<s.2)∧l.Pairwise fun a b=>lead b.1<lead a.1
 | [],_,_=>⟨fun r h=>(by cases h), .nil⟩
 | r::l,s,h=>by
   simp only [vA] at h
   split at h
   · rename_i hc
     simp only [Zam,decide_eq_true_eq] at hc
     obtain ⟨h1,h2⟩:=vA_falls h
     refine ⟨fun r' hr=> ?_, .cons (fun r' hr=>h1 r' hr) h2⟩
     rcases Zcp.1 hr with rfl|hr
     · exact hc.2
     · have:=h1 r' hr;simp only at this;omega
   · cases h
theorem or64_bd {a b:Int} (h0:0≤a) (h1:a<65536) (h2:0≤b) (h3:b<65536):0≤or64 a b∧or64 a b<65536:=by
 rw [or64_eq h0 h1 h2 h3]
 have:a.toNat|||b.toNat<2 ^ 16:=Nat.or_lt_two_pow (by omega) (by omega)
 omega
theorem vA_L:∀ {l:List Row} {s:Int×Int},(vA l s).2=true→0≤s.1∧s.1<65536→(0≤(vA l s).1.1∧(vA l s).1.1<65536)∧∀k,(vA l s).1.1.toNat.testBit k=(s.1.toNat.testBit k||l.any fun r=>top r.1==k)
 | [],s,_,hs=>⟨hs,fun k=>by simp [vA]⟩
 | r::l,s,h,hs=>by
   simp only [vA] at h ⊢
   split at h
   · rename_i hc
     rw [if_pos hc]
     simp only [Zam,decide_eq_true_eq] at hc
     obtain ⟨m1,m2⟩:=fine_ok hc.1
     have hl:=lead_bd m1 m2
     obtain ⟨h1,h2⟩:=vA_L h (or64_bd hs.1 hs.2 hl.1 hl.2)
     refine ⟨h1,fun k=> ?_⟩
     rw [h2 k]
     simp only [or64_eq hs.1 hs.2 hl.1 hl.2,Zba,Nat.testBit_or,lead_nat,Zcn,List.any_cons]
     rw [Bool.or_assoc]
     rfl
   · cases h
theorem vInner_iff (i:Nat) (x:Row):∀(l:List Row) (k:Nat),vInner i x k l=true↔∀(j:Nat) (r:Row),l[j]? =some r→i=k+j∨and64 r.1 (lead x.1)=0
 | [],k=>by simp [vInner]
 | r::l,k=>by
   simp only [vInner,Zam,Bool.or_eq_true,decide_eq_true_eq,beq_iff_eq,vInner_iff i x l (k+1)]
   constructor
   · rintro ⟨h1,h2⟩ j r' hj
     cases j with
     |zero=>simp at hj;subst hj;simpa using h1
     | succ j => have:=h2 j r' (by simpa using hj);rcases this with h|h
                 · left;omega
                 · right;exact h
   · intro h
     refine ⟨by simpa using h 0 r rfl,fun j r' hj=> ?_⟩
     rcases h (j+1) r' (by simpa using hj) with h|h
     · left;omega
     · right;exact h
theorem vOuter_iff (all:List Row):∀(l:List Row) (i:Nat),vOuter all i l=true↔∀(j:Nat) (x:Row),l[j]? =some x→∀(k:Nat) (r:Row),all[k]? =some r→i+j=k∨and64 r.1 (lead x.1)=0
 | [],i=>by simp [vOuter]
 | x::l,i=>by
   simp only [vOuter,Zam,vInner_iff,vOuter_iff all l (i+1)]
   constructor
   · rintro ⟨h1,h2⟩ j y hj k r hk
     cases j with
     |zero=>simp at hj;subst hj;simpa using h1 k r hk
     | succ j => rcases h2 j y (by simpa using hj) k r hk with h|h
                 · left;omega
                 · right;exact h
   · intro h
     refine ⟨fun k r hk=>by simpa using h 0 x rfl k r hk,fun j y hj k r hk=> ?_⟩
     rcases h (j+1) y (by simpa using hj) k r hk with h|h
     · left;omega
     · right;exact h
structure Good (l:List Row):Prop where
 ok:∀r∈l,fine r.1 r.2=true
 falls:l.Pairwise fun a b=>top b.1<top a.1
 clear:l.Pairwise fun a b=>a.1.toNat.testBit (top b.1)=false∧b.1.toNat.testBit (top a.1)=false
theorem pairwise_at {α:Type} {R:α→α→Prop} {l:List α} (h:l.Pairwise R) {i k:Nat} {a b:α} (ha:l[i]? =some a) (hb:l[k]? =some b) (hik:i<k):R a b:=by
 obtain ⟨h1,rfl⟩:=List.getElem?_eq_some_iff.1 ha
 obtain ⟨h2,rfl⟩:=List.getElem?_eq_some_iff.1 hb
 exact List.pairwise_iff_getElem.1 h i k h1 h2 hik
theorem pairwise_of {α:Type} {R:α→α→Prop} {l:List α} (h:∀(i k:Nat) (a b:α),l[i]? =some a→l[k]? =some b→i<k→R a b):l.Pairwise R:=
 List.pairwise_iff_getElem.2 fun i k h1 h2 hik=>h i k _ _ (Zbk h1) (Zbk h2) hik
theorem and_zero {x m:Int} (hx:okMask (x, [])) (hm:okMask (m, [])):and64 x (lead m)=0↔x.toNat.testBit (top m)=false:=by
 have:=and_lead (x:=x) (m:=m) ⟨by have:=hx.1;simp at this;omega,hx.2⟩ hm.1 hm.2
 cases hb:x.toNat.testBit (top m)<;>rw [hb] at this<;>simpa [bne] using this
theorem validR_good (l:List Row):validR l=true↔Good l:=by
 unfold validR
 rw [Zam,vPrev_vA0,vOuter_iff]
 constructor
 · rintro ⟨h1,h2⟩
   have hf:=vA_ok h1
   have hm:∀r∈l,okMask r:=fun r hr=>fine_ok (hf r hr)
   obtain ⟨_,h3⟩:=vA_falls h1
   refine ⟨hf,h3.imp fun h=>lead_lt.1 h,pairwise_of fun i k a b ha hb hik=> ?_⟩
   have ma:=hm a (Zbb ha)
   have mb:=hm b (Zbb hb)
   constructor
   · rcases h2 k b hb i a ha with h|h
     · omega
     · exact (and_zero ma mb).1 h
   · rcases h2 i a ha k b hb with h|h
     · omega
     · exact (and_zero mb ma).1 h
 · rintro ⟨hf,h3,h4⟩
   have hm:∀r∈l,okMask r:=fun r hr=>fine_ok (hf r hr)
   refine ⟨?_,fun i x hx k r hk=> ?_⟩
   · have key:∀(l:List Row) (s:Int×Int),(∀r∈l,fine r.1 r.2=true)→(l.Pairwise fun a b=>top b.1<top a.1)→(∀r∈l,lead r.1<s.2)→(vA l s).2=true:=by
       intro l
       induction l with
       |nil=>intro s _ _ _;rfl
       | cons r l ih=>
         intro s hf h3 hs
         simp only [vA]
         rw [if_pos (by rw [hf r (Zay ..),decide_eq_true (hs r (Zay ..))];rfl)]
         have h3':=Zbr.1 h3
         exact ih _ (fun r' hr=>hf r' (Zaw _ hr)) h3'.2 fun r' hr=>lead_lt.2 (h3'.1 r' hr)
     exact key l _ hf h3 fun r hr=>(lead_bd (hm r hr).1 (hm r hr).2).2
   · have mx:=hm x (Zbb hx)
     have mr:=hm r (Zbb hk)
     rcases Nat.lt_trichotomy i k with h|h|h
     · exact .inr ((and_zero mr mx).2 (pairwise_at h4 hx hk h).2)
     · left;omega
     · exact .inr ((and_zero mr mx).2 (pairwise_at h4 hk hx h).1)
theorem validS_good (l:List Row):validS l=true↔Good l:=by
 unfold validS
 rw [Zam]
 have hall:∀L:Int,vB L l=true↔∀r∈l,and64 r.1 L=lead r.1:=by
   intro L;unfold vB;rw [Zbc];simp
 have key:(vA l (0,65536)).2=true→(l.Pairwise fun a b=>top b.1<top a.1)→(vB (vA l (0,65536)).1.1 l=true↔l.Pairwise fun a b=>a.1.toNat.testBit (top b.1)=false∧b.1.toNat.testBit (top a.1)=false):=by
   intro h1 h3
   have hm:∀r∈l,okMask r:=fun r hr=>fine_ok (vA_ok h1 r hr)
   obtain ⟨hL,hb⟩:=vA_L h1 (by decide)
   rw [hall]
   generalize (vA l (0,65536)).1.1=L at hL hb
   have hand:∀r∈l,(and64 r.1 L=lead r.1↔∀k,(r.1.toNat.testBit k&&l.any fun s=>top s.1==k)=decide (top r.1=k)):=by
     intro r hr
     rw [and64_eq (by have:=(hm r hr).1;omega) (hm r hr).2 hL.1 hL.2,lead_eq]
     constructor
     · intro h k
       have h':r.1.toNat&&&L.toNat=2 ^ top r.1:=by omega
       have:=congrArg (fun n=>n.testBit k) h'
       simp only [Nat.testBit_and,hb k,Zcn] at this
       simpa using this
     · intro h
       congr 1
       apply Zdb
       intro k
       simp only [Nat.testBit_and,hb k,Zcn]
       simpa using h k
   constructor
   · intro h
     refine pairwise_of fun i k a b ha hb' hik=> ?_
     have hab:=pairwise_at h3 ha hb' hik
     have ma:=Zbb ha
     have mb:=Zbb hb'
     have e1:=(hand a ma).1 (h a ma) (top b.1)
     have e2:=(hand b mb).1 (h b mb) (top a.1)
     have f1:(l.any fun s=>top s.1==top b.1)=true:=List.any_eq_true.2 ⟨b,mb,by simp⟩
     have f2:(l.any fun s=>top s.1==top a.1)=true:=List.any_eq_true.2 ⟨a,ma,by simp⟩
     rw [f1,Bool.and_true] at e1
     rw [f2,Bool.and_true] at e2
     exact ⟨by rw [e1];simp;omega,by rw [e2];simp;omega⟩
   · intro h r hr
     rw [hand r hr]
     intro k
     by_cases hk:top r.1=k
     · subst hk
       rw [top_bit (hm r hr).1,decide_eq_true rfl,Bool.true_and]
       exact List.any_eq_true.2 ⟨r,hr,by simp⟩
     · rw [decide_eq_false hk]
       cases hx:(l.any fun s=>top s.1==k) with
       |false=>simp
       | true=>
         obtain ⟨s,hs,hsk⟩:=List.any_eq_true.1 hx
         have hsk:top s.1=k:=by simpa using hsk
         obtain ⟨i,hi⟩:=Zak.1 hr
         obtain ⟨j,hj⟩:=Zak.1 hs
         rw [Bool.and_true,←hsk]
         rcases Nat.lt_trichotomy i j with h'|h'|h'
         · exact (pairwise_at h hi hj h').1
         · subst h';rw [hi] at hj;cases hj;exact absurd hsk hk
         · exact (pairwise_at h hj hi h').2
 constructor
 · rintro ⟨h1,h2⟩
   obtain ⟨_,h3⟩:=vA_falls h1
   have h3':l.Pairwise fun a b=>top b.1<top a.1:=h3.imp fun h=>lead_lt.1 h
   exact ⟨vA_ok h1,h3',(key h1 h3').1 h2⟩
 · intro h
   have h1:(vA l (0,65536)).2=true:=by
     have:=(validR_good l).2 h
     unfold validR at this
     rw [Zam,vPrev_vA0] at this
     exact this.1
   exact ⟨h1,(key h1 h.falls).2 h.clear⟩
theorem validR_eq (l:List Row):validR l=validS l:=by
 rw [Bool.eq_iff_iff,validR_good,validS_good]
theorem Good.mask {l:List Row} (h:Good l):∀r∈l,okMask r:=fun r hr=>fine_ok (h.ok r hr)
theorem Good.tail {r:Row} {l:List Row} (h:Good (r::l)):Good l:=
 ⟨fun s hs=>h.ok s (Zaw _ hs),(Zbr.1 h.falls).2,(Zbr.1 h.clear).2⟩
theorem Good.uniq:∀ {l:List Row},Good l→∀ {r s:Row},r∈l→s∈l→top r.1=top s.1→r=s
 | x::l,h,r,s,hr,hs,e=>by
   have hf:=(Zbr.1 h.falls).1
   rcases Zcp.1 hr with h1|h1<;>rcases Zcp.1 hs with h2|h2
   · rw [h1,h2]
   · have:=hf s h2;rw [h1] at e;omega
   · have:=hf r h1;rw [h2] at e;omega
   · exact Good.uniq h.tail h1 h2 e
theorem fold_skip {ι:Type}:∀(l:List (ι×(ι→Bool))) (v:ι→Bool),(∀r∈l,v r.1=false)→l.foldl redV v=v
 | [],v,_=>rfl
 | r::l,v,h=>by
   rw [Zcz]
   have:redV v r=v:=by unfold redV;rw [h r (Zay ..)];rfl
   rw [this]
   exact fold_skip l v fun s hs=>h s (Zaw _ hs)
theorem fold_one:∀ {l:List Row},Good l→∀ {r:Row} (v:Ix→Bool),r∈l→v (.inl (top r.1))=true→(∀s∈l,top s.1≠top r.1→v (.inl (top s.1))=false)→
   (l.map rowV).foldl redV v=vx v (rowV r).2
 | x::l,h,r,v,hr,hv,hz=>by
   rw [Zck,Zcz]
   have hf:=(Zbr.1 h.falls).1
   have hc:=(Zbr.1 h.clear).1
   rcases Zcp.1 hr with rfl|hr
   · have:redV v (rowV r)=vx v (rowV r).2:=by
       unfold redV
       have:v (rowV r).1=true:=hv
       rw [this];rfl
     rw [this]
     refine fold_skip _ _ fun t ht=> ?_
     obtain ⟨s,hs,rfl⟩:=Zbe.1 ht
     show (v (.inl (top s.1)) ^^ (vec (r.1,pad r.2)) (.inl (top s.1)))=false
     have h1:=hf s hs
     rw [hz s (Zaw _ hs) (by omega)]
     have h2:=(hc s hs).1
     simpa [vec] using h2
   · have h1:=hf r hr
     have:redV v (rowV x)=v:=by
       unfold redV
       have:v (rowV x).1=false:=hz x (Zay ..) (by omega)
       rw [this];rfl
     rw [this]
     exact fold_one h.tail v hr hv fun s hs=>hz s (Zaw _ hs)
def two (i:Nat):Int:=((2 ^ i:Nat):Int)
theorem two_bd {i:Nat} (h:i<16):1≤two i∧two i<65536:=by
 have h1:=Nat.two_pow_pos i
 have h2:=Nat.pow_lt_pow_right (a:=2) (by omega) h
 unfold two;omega
theorem two_testBit (i k:Nat):(two i).toNat.testBit k=decide (i=k):=by
 show (2 ^ i).testBit k=_
 rw [Zcn]
theorem top_two (i:Nat):top (two i)=i:=by
 show (2 ^ i).log2=i
 exact Nat.log2_two_pow
theorem bit_two {i:Nat} (h:i<16):bit (i:Int)=two i:=by
 have:=two_bd h
 unfold bit
 have e:min (Zat (i:Int)) 64=i:=by rw [Zba];omega
 rw [e,Int.one_mul]
 have e2:(2:Int) ^ i=two i:=by simp [two]
 rw [e2,wrap_i64 (by omega) (by omega)]
theorem canon_pad {p:List Int} (h:∀x∈p,0≤x∧x<256):canon (pad p):=by
 intro i hi
 unfold nth
 rw [List.getD_eq_getElem?_getD]
 cases he:(pad p)[i]? with
 |none=>simp
 | some x=>
   have:=Zbb he
   unfold pad at this
   have:=List.mem_of_mem_take this
   rcases List.mem_append.1 this with h'|h'
   · exact h x h'
   · simp at h';subst h';simp
theorem find_uniq {l:List Row} (h:Good l) {r:Row} (hr:r∈l) {i:Nat} (hi:i<16) (he:r.1=two i):findS l (i:Int)=some r:=by
 unfold findS
 rw [bit_two hi]
 cases hf:l.find? fun r=>r.1==two i with
 | none=>
   have:=List.find?_eq_none.1 hf r hr
   simp [he] at this
 | some s=>
   have h1:=List.find?_some hf
   have h2:=List.mem_of_find?_eq_some hf
   have h1:s.1=two i:=by simpa using h1
   rw [h.uniq h2 hr (by rw [h1,he])]
theorem find_none {l:List Row} {i:Nat} (hi:i<16) (h:∀r∈l,r.1≠two i):findS l (i:Int)=none:=by
 unfold findS
 rw [bit_two hi]
 exact List.find?_eq_none.2 fun r hr=>by simpa using h r hr
theorem solved_sum {l:List Row} (hg:Good l) (hb:∀r∈l,∀x∈r.2,0≤x∧x<256) {i:Nat} (hi:i<16):solvedS l (i:Int)=sumS l (two i):=by
 have hv:=(validS_good l).2 hg
 obtain ⟨t1,t2⟩:=two_bd hi
 rw [sumS_def (by omega) t2 hv]
 have e0:solvedS l (i:Int)=if (findS l (i:Int)).isSome then (foundS l (i:Int),true) else ([],false):=by
   unfold solvedS
   rw [decide_eq_false (by omega),decide_eq_false (by omega),hv];rfl
 rw [e0]
 have hx:0≤(two i,([]:List Int)).1∧(two i,([]:List Int)).1<65536:=⟨by simp only;omega,t2⟩
 have hF:=vec_foldl hx hg.mask
 have hbd:=foldl_red_bd hx hg.mask
 have hcan:canon (l.foldl red (two i, [])).2:=canon_foldl canon_nil
 by_cases hr:∃r∈l,top r.1=i
 · obtain ⟨r,hr,hti⟩:=hr
   have hm:=hg.mask r hr
   have e1:(l.map rowV).foldl redV (vec (two i, []))=vx (vec (two i, [])) (vec (r.1,pad r.2)):=by
     refine fold_one hg _ hr ?_ fun s _ hs=> ?_
     · show (two i).toNat.testBit _=true
       rw [two_testBit,hti];simp
     · show (two i).toNat.testBit _=false
       rw [two_testBit];simp;omega
   rw [e1,←vec_xor (by omega) t2 (by have:=hm.1;omega) hm.2] at hF
   have b4:=xor64_bd (a:=two i) (b:=r.1) (by omega) t2 (by have:=hm.1;omega) hm.2
   have h1:=vec_inl hbd.1 b4.1 hF
   have hz:=xor64_zero (a:=two i) (b:=r.1) ⟨by omega,t2⟩ ⟨by have:=hm.1;omega,hm.2⟩
   have h1':(l.foldl red (two i, [])).1=xor64 (two i) r.1:=h1
   by_cases he:r.1=two i
   · have h2:(l.foldl red (two i, [])).1=0:=by rw [h1'];exact hz.2 he.symm
     rw [find_uniq hg hr hi he,if_pos (by rfl),if_neg (by simp [h2])]
     have e2:foundS l (i:Int)=b16 (pad r.2):=by unfold foundS;rw [find_uniq hg hr hi he]
     rw [e2]
     congr 1
     refine list16 (b16_len _) (b16_len _) fun j hj=> ?_
     rw [nth_b16 hj,nth_b16 hj]
     refine ofInt8_inj (canon_pad (hb r hr) j hj) (hcan j hj) ?_
     have:=vec_inr hF hj
     rw [this]
     show _=Zao 8 (nth (xorL [] (pad r.2)) j)
     rw [nth_xorL hj,ofInt_xor8];simp [nth]
   · have h2:¬(l.foldl red (two i, [])).1=0:=by rw [h1'];exact fun h=>he (hz.1 h).symm
     rw [find_none hi fun s hs h=>he (by rw [hg.uniq hr hs (by rw [hti,h,top_two])];exact h),if_neg (by simp),if_pos (by simpa using h2)]
 · have e1:(l.map rowV).foldl redV (vec (two i, []))=vec (two i, []):=by
     refine fold_skip _ _ fun t ht=> ?_
     obtain ⟨s,hs,rfl⟩:=Zbe.1 ht
     show (two i).toNat.testBit _=false
     rw [two_testBit]
     have:top s.1≠i:=fun h=>hr ⟨s,hs,h⟩
     simp;omega
   rw [e1] at hF
   have h1:(l.foldl red (two i, [])).1=two i:=vec_inl hbd.1 (by simp only;omega) hF
   rw [find_none hi fun s hs h=>hr ⟨s,hs,by rw [h,top_two]⟩,if_neg (by simp),if_pos (by rw [h1];simp;omega)]
theorem falls_len:∀ {l:List Row} {n:Nat},(l.Pairwise fun a b=>top b.1<top a.1)→(∀r∈l,top r.1<n)→l.length≤n∧(l.length=n→∀i,i<n→∃r∈l,top r.1=i)
 | [],n,_,_=>⟨by simp,fun h i hi=>by simp at h;omega⟩
 | r::l,n,hp,hn=>by
   obtain ⟨h1,h2⟩:=Zbr.1 hp
   obtain ⟨h3,h4⟩:=falls_len (l:=l) (n:=top r.1) h2 fun s hs=>h1 s hs
   have h5:=hn r (Zay ..)
   refine ⟨by simp;omega,fun h i hi=> ?_⟩
   simp at h
   by_cases hi':i=top r.1
   · exact ⟨r,Zay ..,hi'.symm⟩
   · obtain ⟨s,hs,e⟩:=h4 (by omega) i (by omega)
     exact ⟨s,Zaw _ hs,e⟩
theorem Good.len {l:List Row} (h:Good l):l.length≤16:=(falls_len h.falls fun r hr=>top_lt (h.mask r hr).1 (h.mask r hr).2).1
theorem Good.full {l:List Row} (h:Good l) (hl:l.length=16) {i:Nat} (hi:i<16):∃r∈l,r.1=two i:=by
 have hall:=(falls_len h.falls fun r hr=>top_lt (h.mask r hr).1 (h.mask r hr).2).2 hl
 obtain ⟨r,hr,e⟩:=hall i hi
 refine ⟨r,hr, ?_⟩
 have hm:=h.mask r hr
 have:r.1.toNat=(two i).toNat:=by
   apply Zdb
   intro k
   rw [two_testBit]
   by_cases hk:i=k
   · subst hk;rw [←e,top_bit hm.1];simp
   · rw [decide_eq_false hk]
     by_cases h16:k<16
     · obtain ⟨s,hs,e2⟩:=hall k h16
       obtain ⟨a,ha⟩:=Zak.1 hr
       obtain ⟨b,hb⟩:=Zak.1 hs
       rw [←e2]
       rcases Nat.lt_trichotomy a b with h'|h'|h'
       · exact (pairwise_at h.clear ha hb h').1
       · subst h';rw [ha] at hb;cases hb;omega
       · exact (pairwise_at h.clear hb ha h').2
     · apply Nat.testBit_lt_two_pow
       have:2 ^ 16≤2 ^ k:=Nat.pow_le_pow_right (by omega) (by omega)
       have:=hm.2
       omega
 have:=(two_bd hi).1
 have:=hm.1
 omega
theorem vx_self {ι:Type} (u:ι→Bool):vx u u=fun _=>false:=by funext i;simp [vx]
theorem vx_assoc {ι:Type} (u v w:ι→Bool):vx (vx u v) w=vx u (vx v w):=by funext i;simp [vx]
theorem vx_zero {ι:Type} (u:ι→Bool):vx u (fun _=>false)=u:=by funext i;simp [vx]
theorem zero_vx {ι:Type} (u:ι→Bool):vx (fun _=>false) u=u:=by funext i;simp [vx]
theorem fold_kill {ι:Type} (g:List (ι×(ι→Bool))):∀(l:List (ι×(ι→Bool))) (v:ι→Bool),(∀r∈l,g.foldl redV r.2=fun _=>false)→g.foldl redV (l.foldl redV v)=g.foldl redV v
 | [],v,_=>rfl
 | r::l,v,h=>by
   rw [Zcz,fold_kill g l _ fun s hs=>h s (Zaw _ hs)]
   have e:redV v r=if v r.1 then vx v r.2 else v:=rfl
   rw [e]
   split
   · rw [foldV_vx,h r (Zay ..),vx_zero]
   · rfl
theorem fold_clear:∀ {l:List Row},Good l→∀(v:Ix→Bool),∀r∈l,((l.map rowV).foldl redV v) (.inl (top r.1))=false
 | x::l,h,v,r,hr=>by
   rw [Zck,Zcz]
   have hc:=(Zbr.1 h.clear).1
   rcases Zcp.1 hr with rfl|hr
   ·
     have h0:(redV v (rowV r)) (.inl (top r.1))=false:=by
       unfold redV
       show (if v (.inl (top r.1))=true then vx v (vec (r.1,pad r.2)) else v) (.inl (top r.1))=false
       cases hv:v (.inl (top r.1)) with
       |false=>simpa using hv
       | true=>
         show (v (.inl (top r.1)) ^^ vec (r.1,pad r.2) (.inl (top r.1)))=false
         have:vec (r.1,pad r.2) (.inl (top r.1))=true:=top_bit (h.mask r (Zay ..)).1
         rw [hv,this];rfl
     have keep:∀(t:List Row),(∀s∈t,s.1.toNat.testBit (top r.1)=false)→∀v:Ix→Bool,v (.inl (top r.1))=false→((t.map rowV).foldl redV v) (.inl (top r.1))=false:=by
       intro t
       induction t with
       |nil=>intro _ v hv;exact hv
       | cons s t ih=>
         intro ht v hv
         rw [Zck,Zcz]
         refine ih (fun s' hs=>ht s' (Zaw _ hs)) _ ?_
         unfold redV
         split
         · show (v (.inl (top r.1)) ^^ vec (s.1,pad s.2) (.inl (top r.1)))=false
           have:vec (s.1,pad s.2) (.inl (top r.1))=false:=ht s (Zay ..)
           rw [hv,this];rfl
         · exact hv
     exact keep l (fun s hs=>(hc s hs).2) _ h0
   · exact fold_clear h.tail _ r hr
theorem fold_self {l:List Row} (h:Good l) {r:Row} (hr:r∈l):(l.map rowV).foldl redV (rowV r).2=fun _=>false:=by
 rw [fold_one h (rowV r).2 hr (top_bit (h.mask r hr).1) fun s hs hne=> ?_,vx_self]
 show r.1.toNat.testBit (top s.1)=false
 obtain ⟨a,ha⟩:=Zak.1 hr
 obtain ⟨b,hb⟩:=Zak.1 hs
 rcases Nat.lt_trichotomy a b with h'|h'|h'
 · exact (pairwise_at h.clear ha hb h').1
 · subst h';rw [ha] at hb;cases hb;exact absurd rfl hne
 · exact (pairwise_at h.clear hb ha h').2
def upd (x r:Row):Row:=if and64 r.1 (lead x.1) !=0 then (xor64 r.1 x.1,b16 (xorL (pad r.2) x.2)) else (r.1,b16 (pad r.2))
def fin (x:Row):Row:=(x.1,b16 x.2)
def insS (x:Row):List Row→List Row
 | []=> [fin x]
 |r::t=>if lead r.1<lead x.1 then fin x::(r::t).map (upd x) else upd x r::insS x t
theorem stepB_t (x:Row):∀(l acc:List Row),l.foldl (stepB x) (acc,true)=(acc++l.map (upd x),true)
 | [],acc=>by simp
 | r::l,acc=>by
   rw [Zcz]
   have:stepB x (acc,true) r=(acc++ [upd x r],true):=by simp [stepB,upd]
   rw [this,stepB_t x l];simp
theorem stepB_f (x:Row):∀(l acc:List Row),(let s:=l.foldl (stepB x) (acc,false);if !s.2 then s.1++ [fin x] else s.1)=acc++insS x l
 | [],acc=>by simp [insS]
 | r::l,acc=>by
   rw [Zcz]
   by_cases h:lead r.1<lead x.1
   · have:stepB x (acc,false) r=(acc++ [fin x]++ [upd x r],true):=by simp [stepB,upd,fin,h]
     rw [this,stepB_t x l];simp [insS,h]
   · have:stepB x (acc,false) r=(acc++ [upd x r],false):=by simp [stepB,upd,h]
     rw [this]
     have:=stepB_f x l (acc++ [upd x r])
     rw [this];simp [insS,h]
theorem ins_mem {x r:Row}:∀ {l:List Row},r∈insS x l↔r=fin x∨∃s∈l,r=upd x s
 | []=>by simp [insS]
 | s::t=>by
   unfold insS
   split
   · simp [eq_comm]
   · rw [Zcp,ins_mem (l:=t)]
     simp only [Zcp,exists_eq_or_imp]
     constructor
     · rintro (h|h|h)
       · exact .inr (.inl h)
       · exact .inl h
       · exact .inr (.inr h)
     · rintro (h|h|h)
       · exact .inr (.inl h)
       · exact .inl h
       · exact .inr (.inr h)
theorem ins_len (x:Row):∀l:List Row,(insS x l).length=l.length+1
 | []=>rfl
 |r::t=>by unfold insS;split<;>simp [ins_len x t]
theorem top_of {m:Int} {k:Nat} (h1:m.toNat.testBit k=true) (h2:∀j,k<j→m.toNat.testBit j=false):top m=k:=by
 refine log2_eq (Nat.ge_two_pow_of_testBit h1) (Nat.lt_pow_two_of_testBit _ fun j hj=>h2 j (by omega))
theorem high_bit {m:Int} (h0:1≤m) {j:Nat} (h:top m<j):m.toNat.testBit j=false:=by
 have h2:=(log2_bounds (n:=m.toNat) (by omega)).2
 exact Nat.testBit_lt_two_pow (Nat.lt_of_lt_of_le h2 (Nat.pow_le_pow_right (by omega) h))
theorem upd_bit {x r:Row} (hx:okMask x) (hr:okMask r) (k:Nat):(upd x r).1.toNat.testBit k=(r.1.toNat.testBit k ^^ (r.1.toNat.testBit (top x.1)&&x.1.toNat.testBit k)):=by
 unfold upd
 rw [and_lead ⟨by have:=hr.1;omega,hr.2⟩ hx.1 hx.2]
 cases hb:r.1.toNat.testBit (top x.1) with
 |false=>simp
 | true=>
   simp only [if_true]
   rw [xor64_eq (by have:=hr.1;omega) hr.2 (by have:=hx.1;omega) hx.2,Zba,Nat.testBit_xor];simp
theorem upd_top {x r:Row} (hx:okMask x) (hr:okMask r) (hc:x.1.toNat.testBit (top r.1)=false):top (upd x r).1=top r.1:=by
 have hne:top x.1≠top r.1:=fun h=>by rw [←h,top_bit hx.1] at hc;cases hc
 refine top_of ?_ fun j hj=> ?_
 · rw [upd_bit hx hr,top_bit hr.1,hc];simp
 · rw [upd_bit hx hr,high_bit hr.1 hj]
   cases hb:r.1.toNat.testBit (top x.1) with
   |false=>simp
   | true=>
     have:top x.1≤top r.1:=by
       rcases Nat.lt_or_ge (top r.1) (top x.1) with h|h
       · rw [high_bit hr.1 h] at hb;cases hb
       · exact h
     rw [high_bit hx.1 (by omega)];simp
theorem upd_bd {x r:Row} (hx:okMask x) (hr:okMask r) (hc:x.1.toNat.testBit (top r.1)=false):okMask (upd x r):=by
 have hb:0≤(upd x r).1∧(upd x r).1<65536:=by
   unfold upd;split
   · exact xor64_bd (by have:=hr.1;omega) hr.2 (by have:=hx.1;omega) hx.2
   · exact ⟨by have:=hr.1;simp only;omega,hr.2⟩
 have:(upd x r).1.toNat≠0:=by
   intro h
   have h1:=upd_bit hx hr (top r.1)
   rw [h,top_bit hr.1,hc] at h1
   simp at h1
 exact ⟨by omega,hb.2⟩
theorem upd_len (x r:Row):(upd x r).2.length=16:=by
 unfold upd;split<;>exact b16_len _
theorem pad16 {p:List Int} (h:p.length=16):pad p=p:=by
 unfold pad
 rw [List.take_append_of_le_length (by omega),List.take_of_length_le (by omega)]
theorem vec_b16 (m:Int) (p:List Int):vec (m,b16 p)=vec (m,p):=by
 funext i
 cases i with
 |inl k=>rfl
 | inr ij=>
   obtain ⟨i,j⟩:=ij
   simp only [vec]
   by_cases h:i<16
   · rw [nth_b16 h]
   · simp [h]
theorem upd_vec {x r:Row} (hx:okMask x) (hr:okMask r):(rowV (upd x r)).2=if r.1.toNat.testBit (top x.1) then vx (rowV r).2 (vec x) else (rowV r).2:=by
 unfold rowV
 rw [pad16 (upd_len x r)]
 unfold upd
 rw [and_lead ⟨by have:=hr.1;omega,hr.2⟩ hx.1 hx.2]
 split
 · simp only
   rw [vec_b16,vec_xor (by have:=hr.1;omega) hr.2 (by have:=hx.1;omega) hx.2]
 · simp only
   rw [vec_b16]
theorem fine_of {r:Row} (h:okMask r) (hl:r.2.length=16):fine r.1 r.2=true:=by
 unfold fine
 rw [decide_eq_true h.1,decide_eq_true h.2,hl];rfl
def Apart (a b:Row):Prop:=a.1.toNat.testBit (top b.1)=false∧b.1.toNat.testBit (top a.1)=false
section
variable {x:Row} {l:List Row}
theorem upd_apart {r s:Row} (hx:okMask x) (hr:okMask r) (hs:okMask s) (cr:x.1.toNat.testBit (top r.1)=false) (cs:x.1.toNat.testBit (top s.1)=false) (h:Apart r s):Apart (upd x r) (upd x s):=by
 unfold Apart
 rw [upd_top hx hr cr,upd_top hx hs cs,upd_bit hx hr,upd_bit hx hs,h.1,h.2,cr,cs];simp
theorem fin_apart {s:Row} (hx:okMask x) (hs:okMask s) (cs:x.1.toNat.testBit (top s.1)=false):Apart (fin x) (upd x s):=by
 unfold Apart
 rw [upd_top hx hs cs,upd_bit hx hs]
 refine ⟨cs, ?_⟩
 show (_ ^^ (_&&x.1.toNat.testBit (top x.1)))=false
 rw [top_bit hx.1]
 show (s.1.toNat.testBit (top x.1) ^^ (s.1.toNat.testBit (top x.1)&&true))=false
 simp
theorem Apart.symm {a b:Row} (h:Apart a b):Apart b a:=⟨h.2,h.1⟩
theorem upd_map (hx:okMask x) (hg:Good l) (hc:∀r∈l,x.1.toNat.testBit (top r.1)=false):(l.map (upd x)).Pairwise fun a b=>top b.1<top a.1∧Apart a b:=by
 rw [List.pairwise_map]
 refine (List.Pairwise.and hg.falls hg.clear).imp_of_mem fun {a b} ha hb h=> ?_
 rw [upd_top hx (hg.mask a ha) (hc a ha),upd_top hx (hg.mask b hb) (hc b hb)]
 exact ⟨h.1,upd_apart hx (hg.mask a ha) (hg.mask b hb) (hc a ha) (hc b hb) h.2⟩
theorem ins_pair (hx:okMask x):∀ {l:List Row},Good l→(∀r∈l,x.1.toNat.testBit (top r.1)=false)→(insS x l).Pairwise fun a b=>top b.1<top a.1∧Apart a b
 | [],_,_=>by simp [insS]
 | r::t,hg,hc=>by
   have hr:=hg.mask r (Zay ..)
   have cr:=hc r (Zay ..)
   have hf:=(Zbr.1 hg.falls).1
   unfold insS
   split
   · rename_i h
     refine Zbr.2 ⟨fun b hb=> ?_,upd_map hx hg hc⟩
     obtain ⟨s,hs,rfl⟩:=Zbe.1 hb
     have hs':=hg.mask s hs
     rw [upd_top hx hs' (hc s hs)]
     refine ⟨?_,fin_apart hx hs' (hc s hs)⟩
     have h1:=lead_lt.1 h
     show top s.1<top x.1
     rcases Zcp.1 hs with rfl|hs
     · exact h1
     · have:=hf s hs;omega
   · rename_i h
     refine Zbr.2 ⟨fun b hb=> ?_,ins_pair hx hg.tail fun s hs=>hc s (Zaw _ hs)⟩
     rw [upd_top hx hr cr]
     rcases ins_mem.1 hb with rfl|⟨s,hs,rfl⟩
     · refine ⟨?_,(fin_apart hx hr cr).symm⟩
       show top x.1<top r.1
       have h1:¬top r.1<top x.1:=fun h'=>h (lead_lt.2 h')
       have h2:top x.1≠top r.1:=fun h'=>by rw [←h',top_bit hx.1] at cr;cases cr
       omega
     · have hs':=hg.mask s (Zaw _ hs)
       have cs:=hc s (Zaw _ hs)
       rw [upd_top hx hs' cs]
       exact ⟨hf s hs,upd_apart hx hr hs' cr cs ((Zbr.1 hg.clear).1 s hs)⟩
theorem ins_good (hx:okMask x) (hg:Good l) (hc:∀r∈l,x.1.toNat.testBit (top r.1)=false):Good (insS x l):=by
 have hp:=ins_pair hx hg hc
 refine ⟨fun r hr=> ?_,hp.imp fun h=>h.1,hp.imp fun h=>h.2⟩
 rcases ins_mem.1 hr with rfl|⟨s,hs,rfl⟩
 · exact fine_of hx (b16_len _)
 · exact fine_of (upd_bd hx (hg.mask s hs) (hc s hs)) (upd_len x s)
theorem ins_kill (hx:okMask x) (hg:Good l) (hc:∀r∈l,x.1.toNat.testBit (top r.1)=false):
   (((insS x l).map rowV).foldl redV (vec x)=fun _=>false)∧∀r∈l,((insS x l).map rowV).foldl redV (rowV r).2=fun _=>false:=by
 have hG:=ins_good hx hg hc
 have h1:((insS x l).map rowV).foldl redV (vec x)=fun _=>false:=by
   have:=fold_self hG (r:=fin x) (ins_mem.2 (.inl rfl))
   have e:(rowV (fin x)).2=vec x:=by
     show vec (x.1,pad (b16 x.2))=_
     rw [pad16 (b16_len _),vec_b16]
   rwa [e] at this
 refine ⟨h1,fun r hr=> ?_⟩
 have h2:=fold_self hG (r:=upd x r) (ins_mem.2 (.inr ⟨r,hr,rfl⟩))
 rw [upd_vec hx (hg.mask r hr)] at h2
 split at h2
 · rw [foldV_vx,h1,vx_zero] at h2;exact h2
 · exact h2
end
theorem b16_id {p:List Int} (h:p.length=16):b16 p=p:=list16 (b16_len _) h fun i hi=>nth_b16 hi
theorem keep_id {l:List Row} (hg:Good l):l.map keepR=l:=by
 have:∀r∈l,keepR r=r:=by
   intro r hr
   have:=hg.ok r hr
   rw [fine_formed] at this
   simp only [formedS,Zam,decide_eq_true_eq] at this
   unfold keepR
   rw [pad16 this.2.2,b16_id this.2.2]
 exact (List.map_congr_left this).trans (List.map_id _)
theorem vec_split (m:Int) (b:List Int):vec (m,b)=vx (vec (m, [])) (vec (0,b)):=by
 funext i
 cases i with
 |inl k=>simp [vec,vx]
 |inr ij=>obtain ⟨i,j⟩:=ij;simp [vec,vx,nth]
theorem fold_bytes {l:List Row} (b:List Int):(l.map rowV).foldl redV (vec (0,b))=vec (0,b):=by
 refine fold_skip _ _ fun t ht=> ?_
 obtain ⟨s,_,rfl⟩:=Zbe.1 ht
 show (0:Int).toNat.testBit _=false
 simp
theorem add_law {l:List Row} (hg:Good l) {m:Int} {b:List Int} (hm:1≤m∧m<65536) (hl:b.length=16) (hb:∀x∈b,0≤x∧x<256):
   ((sumS l m).2=true∧(sumS l m).1≠b∧addS l m b=([],false,12))∨
   ((sumS l m)=(b,true)∧addS l m b=(l,false,0))∨
   ((sumS l m).2=false∧∃x:Row,okMask x∧addS l m b=(insS x l,true,0)∧Good (insS x l)∧sumS (insS x l) m=(b,true)∧vec x=(l.map rowV).foldl redV (vec (m,b))∧(∀r∈l,x.1.toNat.testBit (top r.1)=false)∧canon x.2):=by
 have hv:=(validS_good l).2 hg
 have hp:pad b=b:=pad16 hl
 have hcb:canon b:=hp▸canon_pad hb
 have hfine:fine m b=true:=fine_of (r:=(m,b)) hm hl
 have hx0:0≤(m,b).1∧(m,b).1<65536:=⟨by simp only;omega,hm.2⟩
 have hu0:0≤(m,([]:List Int)).1∧(m,([]:List Int)).1<65536:=⟨by simp only;omega,hm.2⟩
 have ea:addS l m b=(if (l.foldl red (m,b)).1==0&&zero16 (l.foldl red (m,b)).2 then (l.map keepR,false,0) else if (l.foldl red (m,b)).1==0 then ([],false,12) else (insS (l.foldl red (m,b)) l,true,0)):=by
   unfold addS
   rw [hv,hfine,hp]
   have:=stepB_f (l.foldl red (m,b)) l []
   simp only [List.nil_append] at this
   simp only [Bool.not_true,Bool.or_self,Bool.false_eq_true,if_false]
   rw [←this];rfl
 rw [ea,sumS_def (by omega) hm.2 hv]
 have vX:=vec_foldl hx0 hg.mask
 have vU:=vec_foldl hu0 hg.mask
 have vXU:vec (l.foldl red (m,b))=vx (vec (l.foldl red (m, []))) (vec (0,b)):=by
   rw [vX,vU,vec_split m b,foldV_vx,fold_bytes]
 have bX:=foldl_red_bd hx0 hg.mask
 have bU:=foldl_red_bd hu0 hg.mask
 have cX:canon (l.foldl red (m,b)).2:=canon_foldl hcb
 have cU:canon (l.foldl red (m, [])).2:=canon_foldl canon_nil
 have hclear:∀r∈l,(l.foldl red (m,b)).1.toNat.testBit (top r.1)=false:=by
   intro r hr
   have:=fold_clear hg (vec (m,b)) r hr
   rw [←vX] at this;exact this
 generalize hX:l.foldl red (m,b)=x at*
 generalize hU:l.foldl red (m, [])=u at*
 have e1:x.1=u.1:=by
   have:x.1.toNat=u.1.toNat:=by
     apply Zdb
     intro k
     have:=congrFun vXU (.inl k)
     simpa [vec,vx] using this
   omega
 have e2:∀i,i<16→Zao 8 (nth x.2 i)=Zao 8 (nth u.2 i) ^^^ Zao 8 (nth b i):=by
   intro i hi
   apply BitVec.eq_of_getLsbD_eq
   intro j _
   have:=congrFun vXU (.inr (i,j))
   simpa [vec,vx,hi] using this
 have hz:zero16 x.2=true↔b16 u.2=b:=by
   unfold zero16
   rw [Zbc]
   constructor
   · intro h
     refine list16 (b16_len _) hl fun i hi=> ?_
     rw [nth_b16 hi]
     have h1:nth x.2 i=0:=by simpa using h i (by simpa using hi)
     have h2:=e2 i hi
     rw [h1] at h2
     have h3:Zao 8 (nth u.2 i)=Zao 8 (nth b i):=by
       have:Zao 8 (nth u.2 i) ^^^ Zao 8 (nth b i)=0#8:=h2.symm
       exact BitVec.xor_eq_zero_iff.1 this
     exact ofInt8_inj (cU i hi) (hcb i hi) h3
   · intro h i hi
     have hi:i<16:=by simpa using hi
     have h1:nth u.2 i=nth b i:=by rw [←nth_b16 hi,h]
     have h2:=e2 i hi
     rw [h1,BitVec.xor_self] at h2
     have:=ofInt8_inj (cX i hi) ⟨by omega,by omega⟩ (h2.trans (by rfl:0#8=Zao 8 0))
     simpa using this
 by_cases h0:u.1=0
 · have h0x:x.1=0:=by omega
   by_cases hs:b16 u.2=b
   · right;left
     rw [if_neg (by simp [h0]),hs,if_pos (by simp [h0x,hz.2 hs]),keep_id hg]
     exact ⟨rfl,rfl⟩
   · left
     have hz':zero16 x.2=false:=by
       cases h:zero16 x.2 with
       |false=>rfl
       |true=>exact absurd (hz.1 h) hs
     rw [if_neg (by simp [h0]),if_neg (by simp [hz']),if_pos (by simp [h0x])]
     exact ⟨rfl,hs,rfl⟩
 · right;right
   have h0x:¬x.1=0:=by omega
   have hx:okMask x:=⟨by omega,bX.2⟩
   rw [if_pos (by simpa using h0),if_neg (by simp [h0x]),if_neg (by simpa using h0x)]
   have hG:=ins_good hx hg hclear
   refine ⟨rfl,x,hx,rfl,hG, ?_,vX,hclear,cX⟩
   obtain ⟨k1,k2⟩:=ins_kill hx hg hclear
   have k3:((insS x l).map rowV).foldl redV (vec (m,b))=fun _=>false:=by
     rw [←fold_kill _ (l.map rowV) (vec (m,b)) fun r hr=>by
       obtain ⟨s,hs,rfl⟩:=Zbe.1 hr
       exact k2 s hs,←vX]
     exact k1
   rw [vec_split,foldV_vx,fold_bytes] at k3
   have k4:((insS x l).map rowV).foldl redV (vec (m, []))=vec (0,b):=by
     funext i
     have:=congrFun k3 i
     simp only [vx] at this
     revert this
     cases (List.foldl redV (vec (m, [])) (List.map rowV (insS x l))) i<;>cases vec (0,b) i<;>simp
   have hv':=(validS_good _).2 hG
   rw [sumS_def (by omega) hm.2 hv']
   have vW:=vec_foldl hu0 hG.mask
   have bW:=foldl_red_bd hu0 hG.mask
   have cW:canon ((insS x l).foldl red (m, [])).2:=canon_foldl canon_nil
   rw [k4] at vW
   have w1:((insS x l).foldl red (m, [])).1=0:=vec_inl (y:=(0,b)) bW.1 (by simp) vW
   rw [if_neg (by simp [w1])]
   congr 1
   rw [b16_ext (y:=(0,b)) cW hcb vW,b16_id hl]
end Go.Proofs.YtibhflogmbfpcaaGreatDoor.Am
namespace Go.Proofs.YtibhflogmbfpcaaGreatDoor.Am
open Go Go.RowKit Go.Proofs Go.ChangeShapes Go.WideShapes Go.ChangeAt Tryz
open AV renaming bad → Zaz, d → Zae
open BIf renaming f → Zea, of → Zar, t → Zbt
open BitVec renaming ofInt → Zao
open Bool renaming and_eq_true → Zam
open CallsOk renaming cons → Zag, nil → Zaj
open Go.Code renaming loop → Zbq
open Dv renaming sl → Zal
open Int renaming toNat → Zat, toNat_natCast → Zba
open Go.IntKind renaming i64 → Zax, wrap → Zaa
open LeH renaming refl → Zco
open List renaming all_eq_true → Zbc, append_assoc → Zcl, foldl_cons → Zcz, getElem?_eq_getElem → Zbk, getElem?_replicate → Zda, length → Zac, length_append → Zdo, map_cons → Zck, mem_cons → Zcp, mem_cons_of_mem → Zaw, mem_cons_self → Zay, mem_iff_getElem? → Zak, mem_map → Zbe, mem_of_getElem? → Zbb, mem_range'_1 → Zdg, pairwise_cons → Zbr, range → Zbd, range' → Zcd, range'_succ → Zdr, replicate → Zad
open Nat renaming eq_of_testBit_eq → Zdb, testBit_two_pow → Zcn
open PCall renaming ofFn → Zbi
open SCallsOk renaming cons → Zcc, nil → Zaf
open WR renaming ofMaskT → Zdk
open AV (bad)
set_option linter.unusedVariables false
set_option maxRecDepth 20000
end Go.Proofs.YtibhflogmbfpcaaGreatDoor.Am
namespace Go.Proofs.YtibhflogmbfpcaaGreatDoor.Am
open Go Go.RowKit Go.Proofs Tryz
open AV renaming bad → Zaz, d → Zae
open BIf renaming f → Zea, of → Zar, t → Zbt
open BitVec renaming ofInt → Zao
open Bool renaming and_eq_true → Zam
open CallsOk renaming cons → Zag, nil → Zaj
open Go.Code renaming loop → Zbq
open Dv renaming sl → Zal
open Int renaming toNat → Zat, toNat_natCast → Zba
open Go.IntKind renaming i64 → Zax, wrap → Zaa
open LeH renaming refl → Zco
open List renaming all_eq_true → Zbc, append_assoc → Zcl, foldl_cons → Zcz, getElem?_eq_getElem → Zbk, getElem?_replicate → Zda, length → Zac, length_append → Zdo, map_cons → Zck, mem_cons → Zcp, mem_cons_of_mem → Zaw, mem_cons_self → Zay, mem_iff_getElem? → Zak, mem_map → Zbe, mem_of_getElem? → Zbb, mem_range'_1 → Zdg, pairwise_cons → Zbr, range → Zbd, range' → Zcd, range'_succ → Zdr, replicate → Zad
open Nat renaming eq_of_testBit_eq → Zdb, testBit_two_pow → Zcn
open PCall renaming ofFn → Zbi
open SCallsOk renaming cons → Zcc, nil → Zaf
open WR renaming ofMaskT → Zdk
variable {β:Type} (wl:WLT β) (y:YieldT β) (b:β) (R:AV→β→Prop) (RS:AV→List Blk→β→Prop) (K:Exit→List AV→List Blk→β→Prop) (Kh:Exit→List Blk→β→Prop) (Q:β→Prop)
open AV (bad)
set_option linter.unusedVariables false
set_option maxRecDepth 20000
def bitT (m:Int) (i:Nat):Bool:=Zaa .i64 ((Zao 64 (Int.fdiv m ((2 ^ i:Nat):Int))&&&Zao 64 1).toNat:Nat)==1
def rowN (B:List Int) (i:Nat):List Int:=(Zbd 16).map fun k=>nth B (16*i+k)
def stepM (B:List Int) (m:Int) (o:List Int) (i:Nat):List Int:=if bitT m i then xorL o (rowN B i) else o
def sumB (B:List Int) (m:Int):List Int:=(Zbd 16).foldl (stepM B m) (Zad 16 0)
section
set_option maxRecDepth 100000
end
theorem xorL_len (p q:List Int):(xorL p q).length=16:=by simp [xorL]
theorem sumB_len (B:List Int) (m:Int):(sumB B m).length=16:=by
 unfold sumB
 have:∀(l:List Nat) (o:List Int),o.length=16→(l.foldl (stepM B m) o).length=16:=by
   intro l
   induction l with
   |nil=>intro o h;exact h
   | cons i l ih=>
     intro o h
     rw [Zcz]
     refine ih _ ?_
     unfold stepM
     split
     · exact xorL_len _ _
     · exact h
 exact this _ _ (by simp)
set_option maxRecDepth 20000
section
set_option maxRecDepth 100000
end
def allS (B:List Int):List Int→List Row→List Row×Bool
 | [],l=>(l,true)
 | m::ms,l=>if m==0 then allS B ms l else
   let x:=addS l m (sumB B m)
   if x.2.2 !=0 then ([],false) else allS B ms x.1
theorem stepB_len1 (x:Row):∀(l:List Row) (s:List Row×Bool),(l.foldl (stepB x) s).1.length≤s.1.length+l.length+1∧(s.2=true∨(l.foldl (stepB x) s).2=false→(l.foldl (stepB x) s).1.length=s.1.length+l.length)
 | [],s=>⟨by simp,fun _=>by simp⟩
 | r::l,(acc,d)=>by
   cases d with
   |true=>rw [stepB_t];exact ⟨by simp only [Zdo,List.length_map,List.length_cons];omega,fun _=>by simp only [Zdo,List.length_map]⟩
   | false=>
     rw [Zcz]
     by_cases h:lead r.1<lead x.1
     · have:stepB x (acc,false) r=(acc++ [fin x]++ [upd x r],true):=by simp [stepB,upd,fin,h]
       rw [this,stepB_t]
       exact ⟨by simp;omega,fun hh=>by simp at hh⟩
     · have:stepB x (acc,false) r=(acc++ [upd x r],false):=by simp [stepB,upd,h]
       rw [this]
       have ih:=stepB_len1 x l (acc++ [upd x r],false)
       simp only [Zdo,List.length_cons,List.length_nil] at ih ⊢
       refine ⟨by omega,fun hh=> ?_⟩
       have:=ih.2 (by simpa using hh)
       omega
theorem add_len (l:List Row) (m:Int) (b:List Int):(addS l m b).1.length≤l.length+1:=by
 unfold addS
 split
 · simp
 · dsimp only
   split
   · simp
   · split
     · simp
     · have:=stepB_len1 (l.foldl red (m,pad b)) l ([],false)
       simp only [List.length_nil] at this
       split
       · rename_i h
         have h:=this.2 (by simpa using h)
         simp only [Zdo,List.length_cons,List.length_nil];omega
       · simp only;omega
theorem all_nil (B:List Int):∀(ms:List Int) (l:List Row),(allS B ms l).2=false→(allS B ms l).1= []
 | [],l,h=>by simp [allS] at h
 | m::ms,l,h=>by
   unfold allS at h ⊢
   split
   · rename_i hm;rw [if_pos hm] at h;exact all_nil B ms l h
   · rename_i hm
     rw [if_neg hm] at h
     dsimp only at h ⊢
     split
     · rfl
     · rename_i h2;rw [if_neg h2] at h;exact all_nil B ms _ h
set_option maxRecDepth 20000
def xorF (f:Nat→Bool) (l:List Nat):Bool:=l.foldr (fun k a=>f k ^^ a) false
theorem xorF_xor (f g:Nat→Bool):∀l:List Nat,xorF (fun k=>f k ^^ g k) l=(xorF f l ^^ xorF g l)
 | []=>rfl
 | k::l=>by
   have ih:=xorF_xor f g l
   simp only [xorF,List.foldr_cons] at ih ⊢
   rw [ih]
   cases f k<;>cases g k<;>cases (List.foldr (fun k a=>f k ^^ a) false l)<;>cases (List.foldr (fun k a=>g k ^^ a) false l)<;>rfl
theorem xorF_false (l:List Nat) {f:Nat→Bool} (h:∀k∈l,f k=false):xorF f l=false:=by
 induction l with
 |nil=>rfl
 | cons k l ih=>
   simp only [xorF,List.foldr_cons] at ih ⊢
   rw [h k (Zay ..),ih fun j hj=>h j (Zaw _ hj)];rfl
def cB (B:List Int) (i j k:Nat):Bool:=(Zao 8 (nth B (16*k+i))).getLsbD j
def EV (B:List Int) (v:Ix→Bool) (i j:Nat):Bool:=xorF (fun k=>v (.inl k)&&cB B i j k) (Zbd 16)
def TV (B:List Int) (v:Ix→Bool):Prop:=∀i,i<16→∀j,v (.inr (i,j))=EV B v i j
theorem TV.vx {B:List Int} {u v:Ix→Bool} (h:TV B u) (k:TV B v):TV B (vx u v):=by
 intro i hi j
 show (u (.inr (i,j)) ^^ v (.inr (i,j)))=_
 rw [h i hi j,k i hi j]
 unfold EV
 rw [←xorF_xor]
 congr 1
 funext k
 simp only [Am.vx]
 cases u (.inl k)<;>cases v (.inl k)<;>cases cB B i j k<;>rfl
theorem TV.fold {B:List Int}:∀ {l:List (Ix×(Ix→Bool))} {v:Ix→Bool},TV B v→(∀r∈l,TV B r.2)→TV B (l.foldl redV v)
 | [],v,h,_=>h
 | r::l,v,h,hl=>by
   rw [Zcz]
   refine TV.fold ?_ fun s hs=>hl s (Zaw _ hs)
   unfold redV
   split
   · exact h.vx (hl r (Zay ..))
   · exact h
theorem TV.zero {B:List Int} {v:Ix→Bool} (h:TV B v) (h0:∀k,k<16→v (.inl k)=false):∀i,i<16→∀j,v (.inr (i,j))=false:=by
 intro i hi j
 rw [h i hi j]
 exact xorF_false _ fun k hk=>by rw [h0 k (by simpa using hk)];rfl
theorem bitT_testBit {m:Int} (h0:0≤m) (h1:m<65536) (k:Nat):bitT m k=m.toNat.testBit k:=by
 obtain ⟨n,rfl⟩:=Int.eq_ofNat_of_zero_le h0
 unfold bitT
 have e1:Int.fdiv (n:Int) ((2 ^ k:Nat):Int)=((n / 2 ^ k:Nat):Int):=by
   rw [Int.fdiv_eq_ediv_of_nonneg _ (Int.natCast_nonneg _)];rfl
 have hle:n / 2 ^ k≤n:=Nat.div_le_self _ _
 rw [e1]
 have e2:(Zao 64 ((n / 2 ^ k:Nat):Int)&&&Zao 64 1).toNat=n / 2 ^ k % 2:=by
   rw [BitVec.toNat_and,BitVec.toNat_ofInt,BitVec.toNat_ofInt]
   have:((((n / 2 ^ k:Nat):Int) % ((2 ^ 64:Nat):Int)).toNat)=n / 2 ^ k:=by
     generalize n / 2 ^ k=q at hle
     have:n<65536:=by omega
     omega
   rw [this]
   exact Nat.and_one_is_mod _
 rw [e2]
 have h2:n / 2 ^ k % 2<2:=Nat.mod_lt _ (by omega)
 rw [wrap_i64 (by omega) (by omega),Zba,Nat.testBit_eq_decide_div_mod_eq,Bool.eq_iff_iff]
 generalize n / 2 ^ k % 2=q
 simp;omega
theorem nth_rowN {B:List Int} {i k:Nat} (h:i<16):nth (rowN B k) i=nth B (16*k+i):=by
 simp [rowN,nth,h]
theorem sumB_bits {B:List Int} {m:Int} (h0:0≤m) (h1:m<65536) {i j:Nat} (hi:i<16):∀(l:List Nat) (o:List Int),
   (Zao 8 (nth (l.foldl (stepM B m) o) i)).getLsbD j=((Zao 8 (nth o i)).getLsbD j ^^ xorF (fun k=>m.toNat.testBit k&&cB B i j k) l)
 | [],o=>by simp [xorF]
 | k::l,o=>by
   rw [Zcz,sumB_bits h0 h1 hi l]
   simp only [xorF,List.foldr_cons]
   unfold stepM
   rw [bitT_testBit h0 h1]
   cases m.toNat.testBit k with
   |false=>simp
   | true=>
     simp only [if_true,Bool.true_and]
     rw [nth_xorL hi,ofInt_xor8,BitVec.getLsbD_xor,nth_rowN hi,Bool.xor_assoc];rfl
theorem sumB_TV {B:List Int} {m:Int} (h0:0≤m) (h1:m<65536):TV B (vec (m,sumB B m)):=by
 intro i hi j
 have:=sumB_bits (B:=B) h0 h1 (j:=j) hi (Zbd 16) (Zad 16 0)
 simp only [vec,hi,decide_true,Bool.true_and,EV]
 unfold sumB
 rw [this]
 have e:nth (Zad 16 0) i=0:=by unfold nth;rw [List.getD_eq_getElem?_getD,Zda];split<;>rfl
 rw [e]
 simp
theorem sumB_canon (B:List Int) (m:Int):∀x∈sumB B m,0≤x∧x<256:=by
 unfold sumB
 have:∀(l:List Nat) (o:List Int),(∀x∈o,0≤x∧x<256)→∀x∈l.foldl (stepM B m) o,0≤x∧x<256:=by
   intro l
   induction l with
   |nil=>intro o h;exact h
   | cons i l ih=>
     intro o h
     rw [Zcz]
     refine ih _ ?_
     unfold stepM
     split
     · intro x hx
       simp only [xorL,Zbe] at hx
       obtain ⟨k,_,rfl⟩:=hx
       exact xor8_bd _ _
     · exact h
 exact this _ _ (by simp)
def TR (B:List Int) (l:List Row):Prop:=∀r∈l,TV B (rowV r).2
theorem TR.all {B:List Int} {l:List Row} (h:TR B l):∀r∈l.map rowV,TV B r.2:=by
 intro r hr
 obtain ⟨s,hs,rfl⟩:=Zbe.1 hr
 exact h s hs
theorem truth_sum {B:List Int} {l:List Row} (hg:Good l) (ht:TR B l) {m:Int} (h0:0≤m) (h1:m<65536) (hs:(sumS l m).2=true):sumS l m=(sumB B m,true):=by
 have hv:=(validS_good l).2 hg
 rw [sumS_def h0 h1 hv] at hs ⊢
 have vU:=vec_foldl (x:=(m, [])) ⟨h0,h1⟩ hg.mask
 have bU:=foldl_red_bd (x:=(m, [])) ⟨h0,h1⟩ hg.mask
 have cU:canon (l.foldl red (m, [])).2:=canon_foldl canon_nil
 generalize l.foldl red (m, [])=u at*
 have hu:u.1=0:=by
   split at hs
   · cases hs
   · rename_i h;simpa using h
 rw [if_neg (by simp [hu])]
 congr 1
 have hT:=TV.fold (sumB_TV (B:=B) h0 h1) ht.all
 rw [vec_split,foldV_vx,fold_bytes,←vU] at hT
 have hz:=hT.zero fun k hk=>by simp [vx,vec,hu]
 have hcb:canon (sumB B m):=by
   intro i hi
   refine sumB_canon B m _ ?_
   have:nth (sumB B m) i=(sumB B m)[i]'(by rw [sumB_len];exact hi):=by simp [nth,List.getD,sumB_len,hi]
   rw [this];exact List.getElem_mem _
 refine list16 (b16_len _) (sumB_len _ _) fun i hi=> ?_
 rw [nth_b16 hi]
 refine ofInt8_inj (cU i hi) (hcb i hi) ?_
 apply BitVec.eq_of_getLsbD_eq
 intro j _
 have:=hz i hi j
 simp only [vx,vec,hi,decide_true,Bool.true_and] at this
 revert this
 cases (Zao 8 (nth u.2 i)).getLsbD j<;>cases (Zao 8 (nth (sumB B m) i)).getLsbD j<;>simp
theorem TR.ins {B:List Int} {l:List Row} (hg:Good l) (ht:TR B l) {x:Row} (hx:okMask x) (hT:TV B (vec x)):TR B (insS x l):=by
 intro r hr
 rcases ins_mem.1 hr with rfl|⟨s,hs,rfl⟩
 · have e:(rowV (fin x)).2=vec x:=by
     show vec (x.1,pad (b16 x.2))=_
     rw [pad16 (b16_len _),vec_b16]
   rw [e];exact hT
 · rw [upd_vec hx (hg.mask s hs)]
   split
   · exact (ht s hs).vx hT
   · exact ht s hs
def CR (l:List Row):Prop:=∀r∈l,canon r.2
theorem CR.ins {l:List Row} (h:CR l) {x:Row} (hx:canon x.2):CR (insS x l):=by
 intro r hr
 rcases ins_mem.1 hr with rfl|⟨s,hs,rfl⟩
 · intro i hi
   show 0≤nth (b16 x.2) i∧nth (b16 x.2) i<256
   rw [nth_b16 hi];exact hx i hi
 · unfold upd
   split
   · intro i hi
     simp only
     rw [nth_b16 hi];exact canon_xorL _ _ i hi
   · intro i hi
     simp only
     rw [nth_b16 hi]
     have:nth (pad s.2) i=nth s.2 i:=by
       unfold pad nth
       rw [List.getD_eq_getElem?_getD,List.getElem?_take,if_pos hi,List.getD_eq_getElem?_getD,List.getElem?_append]
       split
       · rfl
       · rename_i hh
         rw [Zda]
         have:s.2[i]? =none:=List.getElem?_eq_none (by omega)
         rw [this];split<;>rfl
     rw [this];exact h s hs i hi
theorem Good.len16 {l:List Row} (h:Good l):∀r∈l,r.2.length=16:=by
 intro r hr
 have:=h.ok r hr
 rw [fine_formed] at this
 simp only [formedS,Zam,decide_eq_true_eq] at this
 exact this.2.2
theorem canon_all {p:List Int} (hl:p.length=16) (h:canon p):∀x∈p,0≤x∧x<256:=by
 intro x hx
 obtain ⟨i,hi,rfl⟩:=List.mem_iff_getElem.1 hx
 have:=h i (by omega)
 simpa [nth,List.getD,hi] using this
theorem sumB_canon' (B:List Int) (m:Int):canon (sumB B m):=by
 intro i hi
 refine sumB_canon B m _ ?_
 have:nth (sumB B m) i=(sumB B m)[i]'(by rw [sumB_len];exact hi):=by simp [nth,List.getD,sumB_len,hi]
 rw [this];exact List.getElem_mem _
structure Tru (B:List Int) (l:List Row):Prop where
 good:Good l
 tr:TR B l
 cr:CR l
theorem Tru.bytes {B:List Int} {l:List Row} (h:Tru B l):∀r∈l,∀x∈r.2,0≤x∧x<256:=fun r hr=>canon_all (h.good.len16 r hr) (h.cr r hr)
theorem Tru.nil (B:List Int):Tru B []:=⟨⟨fun r h=>(by cases h), .nil, .nil⟩,fun r h=>(by cases h),fun r h=>(by cases h)⟩
theorem truth_add {B:List Int} {l:List Row} (h:Tru B l) {m:Int} (h0:1≤m) (h1:m<65536):
   (addS l m (sumB B m)).2.2=0∧Tru B (addS l m (sumB B m)).1:=by
 rcases add_law h.good ⟨h0,h1⟩ (sumB_len B m) (sumB_canon B m) with ⟨h2,h3,_⟩|⟨_,h3⟩|⟨_,x,hx,h3,hG,_,hv,_,hc⟩
 · exact absurd (congrArg Prod.fst (truth_sum h.good h.tr (by omega) h1 h2)) h3
 · rw [h3];exact ⟨rfl,h⟩
 · rw [h3]
   refine ⟨rfl,hG,TR.ins h.good h.tr hx ?_,h.cr.ins hc⟩
   rw [hv]
   exact TV.fold (sumB_TV (by omega) h1) h.tr.all
theorem truth_all {B:List Int}:∀ {ms:List Int} {l:List Row},Tru B l→(∀x∈ms,0≤x∧x<65536)→(allS B ms l).2=true∧Tru B (allS B ms l).1
 | [],l,ht,_=>⟨rfl,ht⟩
 | m::ms,l,ht,hb=>by
   have hb':=fun x hx=>hb x (Zaw _ hx)
   have hm:=hb m (Zay ..)
   unfold allS
   split
   · exact truth_all ht hb'
   · rename_i h
     have h:m≠0:=by simpa using h
     obtain ⟨h1,h2⟩:=truth_add ht (m:=m) (by omega) hm.2
     dsimp only
     rw [h1]
     exact truth_all h2 hb'
abbrev Vc:=Ix→Bool
def z0:Vc:=fun _=>false
def InV (l:List Row) (v:Vc):Prop:=(l.map rowV).foldl redV v=z0
theorem fold_zero (l:List (Ix×Vc)):l.foldl redV z0=z0:=fold_skip _ _ fun _ _=>rfl
def Sp:List Vc→Vc→Prop
 | [],v=>v=z0
 |e::es,v=>Sp es v∨Sp es (vx v e)
theorem vx_can (u v:Vc):vx (vx u v) v=u:=by rw [vx_assoc,vx_self,vx_zero]
theorem Sp.zero:∀es:List Vc,Sp es z0
 | []=>rfl
 |_::es=> .inl (Sp.zero es)
theorem Sp.mem:∀ {es:List Vc} {e:Vc},e∈es→Sp es e
 | f::es,e,h=>by
   rcases Zcp.1 h with rfl|h
   · right;rw [vx_self];exact Sp.zero es
   · exact .inl (Sp.mem h)
theorem fold_back {P:Vc→Prop} (hP:∀u v,P u→P v→P (vx u v)):∀(g:List (Ix×Vc)) (v:Vc),(∀r∈g,P r.2)→P (g.foldl redV v)→P v
 | [],v,_,h=>h
 | r::g,v,hr,h=>by
   rw [Zcz] at h
   have h1:=fold_back hP g _ (fun s hs=>hr s (Zaw _ hs)) h
   have e:redV v r=if v r.1 then vx v r.2 else v:=rfl
   rw [e] at h1
   split at h1
   · have:=hP _ _ h1 (hr r (Zay ..))
     rwa [vx_can] at this
   · exact h1
theorem in_ins {l:List Row} (hg:Good l) {e:Vc} {x:Row} (hx:okMask x) (hv:vec x=(l.map rowV).foldl redV e) (hc:∀r∈l,x.1.toNat.testBit (top r.1)=false) (v:Vc):
   InV (insS x l) v↔InV l v∨InV l (vx v e):=by
 obtain ⟨k1,k2⟩:=ins_kill hx hg hc
 have hk:∀v,((insS x l).map rowV).foldl redV ((l.map rowV).foldl redV v)=((insS x l).map rowV).foldl redV v:=fun v=>fold_kill _ (l.map rowV) v fun r hr=>by
   obtain ⟨s,hs,rfl⟩:=Zbe.1 hr
   exact k2 s hs
 have hx0:(l.map rowV).foldl redV (vec x)=vec x:=fold_skip _ _ fun r hr=>by
   obtain ⟨s,hs,rfl⟩:=Zbe.1 hr
   exact hc s hs
 constructor
 · intro h
   have key:(l.map rowV).foldl redV v=z0∨(l.map rowV).foldl redV v=vec x:=by
     refine fold_back (P:=fun v=>(l.map rowV).foldl redV v=z0∨(l.map rowV).foldl redV v=vec x) (fun u v hu hv=> ?_) ((insS x l).map rowV) v (fun r hr=> ?_) ?_
     · rw [foldV_vx]
       rcases hu with hu|hu<;>rcases hv with hv|hv<;>rw [hu,hv]
       · exact .inl (vx_self _)
       · exact .inr (zero_vx _)
       · exact .inr (vx_zero _)
       · exact .inl (vx_self _)
     · obtain ⟨s,hs,rfl⟩:=Zbe.1 hr
       rcases ins_mem.1 hs with rfl|⟨s',hs',rfl⟩
       · have e:(rowV (fin x)).2=vec x:=by
           show vec (x.1,pad (b16 x.2))=_
           rw [pad16 (b16_len _),vec_b16]
         rw [e,hx0];exact .inr rfl
       · rw [upd_vec hx (hg.mask s' hs')]
         split
         · rw [foldV_vx,hx0,fold_self hg hs'];exact .inr (zero_vx _)
         · rw [fold_self hg hs'];exact .inl rfl
     · have h:((insS x l).map rowV).foldl redV v=z0:=h
       simp only [h]
       exact .inl (fold_zero _)
   rcases key with h1|h1
   · exact .inl h1
   · right;unfold InV;rw [foldV_vx,h1,←hv,vx_self];rfl
 · rintro (h|h)
   · unfold InV at h ⊢;rw [←hk v,h];exact fold_zero _
   · unfold InV at h ⊢
     rw [foldV_vx,←hv] at h
     have:(l.map rowV).foldl redV v=vec x:=by
       have:=congrArg (fun w=>vx w (vec x)) h
       simp only [vx_can] at this
       rw [this];exact zero_vx _
     rw [←hk v,this];exact k1
theorem sum_in {l:List Row} (hg:Good l) {m:Int} {b:List Int} (h0:0≤m) (h1:m<65536) (hs:sumS l m=(b,true)):InV l (vec (m,b)):=by
 have hv:=(validS_good l).2 hg
 rw [sumS_def h0 h1 hv] at hs
 have vU:=vec_foldl (x:=(m, [])) ⟨h0,h1⟩ hg.mask
 unfold InV
 rw [vec_split,foldV_vx,fold_bytes,←vU]
 generalize l.foldl red (m, [])=u at*
 split at hs
 · cases hs
 · rename_i hu
   have hu:u.1=0:=by simpa using hu
   have hb:b16 u.2=b:=congrArg Prod.fst hs
   have:vec u=vec (0,b):=by
     funext i
     cases i with
     |inl k=>simp [vec,hu]
     | inr ij=>
       obtain ⟨i,j⟩:=ij
       simp only [vec]
       by_cases h:i<16
       · rw [←hb,nth_b16 h]
       · simp [h]
   rw [this];exact vx_self _
theorem in_add {B:List Int} {l:List Row} (h:Tru B l) {m:Int} (h0:1≤m) (h1:m<65536) (v:Vc):
   InV (addS l m (sumB B m)).1 v↔InV l v∨InV l (vx v (vec (m,sumB B m))):=by
 rcases add_law h.good ⟨h0,h1⟩ (sumB_len B m) (sumB_canon B m) with ⟨h2,h3,_⟩|⟨h2,h3⟩|⟨_,x,hx,h3,hG,_,hv,hc,_⟩
 · exact absurd (congrArg Prod.fst (truth_sum h.good h.tr (by omega) h1 h2)) h3
 · rw [h3]
   have hi:=sum_in h.good (by omega) h1 h2
   refine ⟨.inl,fun hh=> ?_⟩
   rcases hh with hh|hh
   · exact hh
   · unfold InV at hh hi ⊢
     rw [foldV_vx,hi] at hh
     rw [←hh];exact (vx_zero _).symm
 · rw [h3]
   exact in_ins h.good hx hv hc v
def eqsB (B:List Int) (ms:List Int):List Vc:=(ms.filter fun m=>m !=0).map fun m=>vec (m,sumB B m)
theorem in_all {B:List Int}:∀ {ms:List Int} {l:List Row} {es:List Vc},Tru B l→(∀x∈ms,0≤x∧x<65536)→(∀v,InV l v↔Sp es v)→∀v,InV (allS B ms l).1 v↔Sp ((eqsB B ms).reverse++es) v
 | [],l,es,_,_,h,v=>by simpa [allS,eqsB] using h v
 | m::ms,l,es,ht,hb,h,v=>by
   have hb':=fun x hx=>hb x (Zaw _ hx)
   have hm:=hb m (Zay ..)
   unfold allS
   by_cases h0:m=0
   · subst h0
     simp only [beq_self_eq_true,if_true]
     have e:eqsB B (0::ms)=eqsB B ms:=by simp [eqsB]
     rw [e];exact in_all ht hb' h v
   · have e:eqsB B (m::ms)=vec (m,sumB B m)::eqsB B ms:=by simp [eqsB,h0]
     obtain ⟨h1,h2⟩:=truth_add ht (m:=m) (by omega) hm.2
     have e2:(m==0)=false:=by simpa using h0
     dsimp only
     rw [e2,h1,e,List.reverse_cons,Zcl]
     exact in_all h2 hb' (fun v=>by rw [in_add ht (by omega) hm.2 v,h v,h (vx v _)];rfl) v
theorem rec_len (l:List Row) (n s:Int) (d:List Int):(recS l n s d).1.length≤l.length+1:=by
 unfold recS;split
 · exact add_len _ _ _
 · simp
theorem tz_at {v i:Nat} (hv:v<65536) (hi:i<16) (hlow:∀j,j<i→v.testBit j=false):((i:Int)==tzS (v:Int))=v.testBit i∧(v.testBit i=true→∃m,v=2 ^ (i+1)*m+2 ^ i):=by
 unfold tzS
 rw [Zba]
 by_cases h0:v=0
 · subst h0
   rw [show Lib.ctz 64 0=64 from rfl]
   refine ⟨?_,fun h=>by simp at h⟩
   simp;omega
 · have e:Lib.ctz 64 v=Lib.ctzFrom 64 v:=by unfold Lib.ctz;rw [if_neg h0]
   obtain ⟨m,h1,h2⟩:=Lib.ctzFrom_spec 64 v (by omega) (by omega)
   rw [e]
   generalize Lib.ctzFrom 64 v=c at h1 h2
   have h3:v=2 ^ (c+1)*m+2 ^ c:=by rw [h1,Nat.pow_succ,Nat.mul_add,Nat.mul_one,Nat.mul_assoc]
   have hp:2 ^ c<2 ^ (c+1):=Nat.pow_lt_pow_right (by omega) (by omega)
   have hb:∀j,v.testBit j=if j<c+1 then (2 ^ c).testBit j else m.testBit (j - (c+1)):=fun j=>by rw [h3,Nat.testBit_two_pow_mul_add m hp j]
   have hc:v.testBit c=true:=by rw [hb,if_pos (by omega)];simp
   have hl:∀j,j<c→v.testBit j=false:=fun j hj=>by rw [hb,if_pos (by omega),Zcn];simp;omega
   have hci:(c=i)=(v.testBit i=true):=by
     refine propext ⟨fun h=>h▸hc,fun h=> ?_⟩
     rcases Nat.lt_trichotomy c i with h4|h4|h4
     · rw [hlow c h4] at hc;cases hc
     · exact h4
     · rw [hl i h4] at h;cases h
   refine ⟨?_,fun h=> ?_⟩
   · rw [Bool.eq_iff_iff,beq_iff_eq,←hci];omega
   · have:=hci.mpr h;subst this;exact ⟨m,h3⟩
theorem ofInt64_nat {v:Nat}:Zao 64 (v:Int)=BitVec.ofNat 64 v:=BitVec.ofInt_natCast ..
theorem clear_nat {v:Nat} (h0:1≤v) (h1:v<65536):clearS (v:Int)=((v&&&(v - 1):Nat):Int):=by
 unfold clearS andU
 have e:Zaa .u64 ((v:Int) - 1)=((v - 1:Nat):Int):=by rw [wrap_u64 (by omega) (by omega)];omega
 rw [e,ofInt64_nat,ofInt64_nat,←BitVec.ofNat_and,BitVec.toNat_ofNat]
 have:v&&&(v - 1)<65536:=Nat.lt_of_le_of_lt Nat.and_le_left h1
 rw [Nat.mod_eq_of_lt (by omega),wrap_u64 (by omega) (by omega)]
theorem clear_bits {v i m:Nat} (h:v=2 ^ (i+1)*m+2 ^ i) (j:Nat):(v&&&(v - 1)).testBit j=(decide (i<j)&&v.testBit j):=by
 have hp:2 ^ i<2 ^ (i+1):=Nat.pow_lt_pow_right (by omega) (by omega)
 have hp0:0<2 ^ i:=Nat.two_pow_pos i
 have e:v - 1=2 ^ (i+1)*m+(2 ^ i - 1):=by omega
 rw [Nat.testBit_and,e,Nat.testBit_two_pow_mul_add m (by omega) j,h,Nat.testBit_two_pow_mul_add m hp j]
 by_cases hj:j<i+1
 · rw [if_pos hj,if_pos hj,Zcn,Nat.testBit_two_pow_sub_one]
   rw [show decide (i<j)=false by simp;omega,Bool.false_and]
   by_cases h2:i=j
   · subst h2;simp
   · simp [h2]
 · rw [if_neg hj,if_neg hj,show decide (i<j)=true by simp;omega];simp
theorem xorL_congr {p p' q q':List Int} (h1:∀i,i<16→nth p i=nth p' i) (h2:∀i,i<16→nth q i=nth q' i):xorL p q=xorL p' q':=
 List.map_congr_left fun i hi=>by rw [h1 i (List.mem_range.1 hi),h2 i (List.mem_range.1 hi)]
theorem nth_blkS (p:List Int) {i k:Nat} (h:k<16):nth (blkS p i) k=nth p (16*i+k):=by
 simp [nth,blkS,List.getD,h,List.getElem?_drop]
theorem enc_fold (p:List Int) (S:Nat) (hS:S<65536):∀(n k:Nat) (acc acc':List Int) (v:Nat),k+n=16→(∀i,i<16→nth acc i=nth acc' i)→(∀j,v.testBit j=(decide (k≤j)&&S.testBit j))→
   ∀i,i<16→nth ((Zcd k n).foldl (encStep p) (acc,(v:Int))).1 i=nth ((Zcd k n).foldl (stepM p (S:Int)) acc') i
 |0,k,acc,acc',v,hk,ha,hv=>ha
 | n+1,k,acc,acc',v,hk,ha,hv=>by
   have hv16:v<65536:=by
     have:v<2 ^ 16:=by
       refine Nat.lt_pow_two_of_testBit v fun j hj=> ?_
       rw [hv]
       have:S.testBit j=false:=Nat.testBit_lt_two_pow (Nat.lt_of_lt_of_le hS (by rw [show (65536:Nat)=2 ^ 16 from rfl];exact Nat.pow_le_pow_right (by omega) hj))
       rw [this,Bool.and_false]
     exact this
   obtain ⟨h1,h2⟩:=tz_at hv16 (show k<16 by omega) fun j hj=>by rw [hv,show decide (k≤j)=false by simp;omega,Bool.false_and]
   have hk':v.testBit k=S.testBit k:=by rw [hv];simp
   rw [Zdr,Zcz,Zcz]
   have hb:bitT (S:Int) k=S.testBit k:=by rw [bitT_testBit (by omega) (by omega)];rfl
   unfold encStep stepM
   rw [h1,hk',hb]
   cases hs:S.testBit k with
   | true=>
     obtain ⟨m,hm⟩:=h2 (hk'.trans hs)
     have hv1:1≤v:=by have:=Nat.two_pow_pos k;omega
     simp only [if_true]
     rw [clear_nat hv1 hv16]
     refine enc_fold p S hS n (k+1) _ _ _ (by omega) (fun i hi=> ?_) fun j=> ?_
     · rw [xorL_congr ha fun i hi=>(nth_blkS p hi).trans (nth_rowN hi).symm]
     · rw [clear_bits hm,hv]
       by_cases h3:k<j
       · simp [h3,Nat.le_of_lt h3,Nat.succ_le_of_lt h3]
       · simp [h3,show ¬k+1≤j by omega]
   | false=>
     simp only [Bool.false_eq_true,if_false]
     refine enc_fold p S hS n (k+1) _ _ _ (by omega) ha fun j=> ?_
     rw [hv]
     by_cases h3:k=j
     · subst h3;simp [hs]
     · by_cases h4:k≤j
       · simp [h4,show k+1≤j by omega]
       · simp [h4,show ¬k+1≤j by omega]
theorem enc_sum {p:List Int} {s:Int} (hs:seedS s=true):encS p s=sumB p (setS s):=by
 obtain ⟨h0,h1⟩:=setS_range hs
 obtain ⟨S,hS⟩:∃S:Nat,setS s=S:=⟨(setS s).toNat,by omega⟩
 rw [hS] at h0 h1
 unfold encS sumB encFold
 rw [hS,List.range_eq_range']
 refine list16 (b16_len _) ?_ fun i hi=> ?_
 · have:=sumB_len p (S:Int);unfold sumB at this;rwa [List.range_eq_range'] at this
 · rw [nth_b16 hi]
   refine enc_fold p S (by omega) 16 0 [] (Zad 16 0) S rfl (fun i hi=> ?_) (fun j=>by simp) i hi
   show 0=_
   unfold nth;rw [List.getD_eq_getElem?_getD,Zda];split<;>rfl
theorem add_count {B:List Int} {l:List Row} (h:Tru B l) {m:Int} (h0:1≤m) (h1:m<65536):
   (addS l m (sumB B m)).2.2=0∧Tru B (addS l m (sumB B m)).1∧((addS l m (sumB B m)).2.1=false→(addS l m (sumB B m)).1=l)∧(addS l m (sumB B m)).1.length=l.length+(if (addS l m (sumB B m)).2.1 then 1 else 0):=by
 obtain ⟨g1,g2⟩:=truth_add h h0 h1
 refine ⟨g1,g2, ?_⟩
 rcases add_law h.good ⟨h0,h1⟩ (sumB_len B m) (sumB_canon B m) with ⟨h2,h3,h4⟩|⟨_,h3⟩|⟨_,x,hx,h3,hG,_,hv,_,hc⟩
 · rw [h4] at g1;cases g1
 · rw [h3];exact ⟨fun _=>rfl,rfl⟩
 · rw [h3];exact ⟨fun h=>(by cases h),ins_len x l⟩
def masks (ss:List Int):List Int:=ss.map setS
theorem masks_bd {ss:List Int} (hs:∀s∈ss,seedS s=true):∀x∈masks ss,0≤x∧x<65536:=by
 intro x hx
 obtain ⟨s,h,rfl⟩:=Zbe.1 hx
 have:=setS_range (hs s h);omega
theorem full_sum {l:List Row} (hg:Good l) (hb:∀r∈l,∀x∈r.2,0≤x∧x<256) (hl:l.length=16) {i:Nat} (hi:i<16):(sumS l (two i)).2=true:=by
 rw [←solved_sum hg hb hi]
 obtain ⟨r,hr,he⟩:=hg.full hl hi
 have hv:=(validS_good l).2 hg
 unfold solvedS
 rw [decide_eq_false (by omega),decide_eq_false (by omega),hv,find_uniq hg hr hi he];rfl
theorem sum_two {p:List Int} (hb:∀x∈p,0≤x∧x<256) {i:Nat} (hi:i<16):sumB p (two i)=rowN p i:=by
 obtain ⟨h0,h1⟩:=two_bd hi
 have hc:∀j,j<16→0≤nth (rowN p i) j∧nth (rowN p i) j<256:=fun j hj=>by
   rw [nth_rowN hj]
   unfold nth
   rw [List.getD_eq_getElem?_getD]
   cases h:p[16*i+j]? with
   |none=>simp
   |some x=>exact hb x (Zbb h)
 refine list16 (sumB_len _ _) (by simp [rowN]) fun j hj=> ?_
 refine ofInt8_inj (sumB_canon' p (two i) j hj) (hc j hj) ?_
 refine BitVec.eq_of_getLsbD_eq fun k hk=> ?_
 have:=sumB_bits (B:=p) (m:=two i) (by omega) h1 (j:=k) hj (Zbd 16) (Zad 16 0)
 unfold sumB
 rw [this,nth_rowN hj]
 have e:nth (Zad 16 0) j=0:=by unfold nth;rw [List.getD_eq_getElem?_getD,Zda];split<;>rfl
 rw [e]
 have key:∀(n:Nat),xorF (fun t=>(two i).toNat.testBit t&&cB p j k t) (Zbd n)=(decide (i<n)&&cB p j k i):=by
   have app:∀(f:Nat→Bool) (l l':List Nat),xorF f (l++l')=(xorF f l ^^ xorF f l'):=by
     intro f l l'
     induction l with
     |nil=>simp [xorF]
     |cons a l ih=>simp only [xorF,List.cons_append,List.foldr_cons] at ih ⊢;rw [ih,Bool.xor_assoc]
   intro n
   induction n with
   |zero=>simp [xorF]
   | succ n ih=>
     rw [List.range_succ,app,ih]
     simp only [xorF,List.foldr_cons,List.foldr_nil,two_testBit,Bool.xor_false]
     by_cases h1:i=n
     · subst h1;simp
     · by_cases h2:i<n
       · simp [h1,h2,Nat.lt_succ_of_lt h2]
       · simp [h1,h2,show ¬i<n+1 by omega]
 rw [key,decide_eq_true hi]
 simp [cB]
section
variable {p:List Int} {l:List Row}
theorem solved_of (ht:Tru p l) {i:Nat} (hi:i<16) (hb:∀x∈p,0≤x∧x<256) (h:(solvedS l (i:Int)).2=true):solvedS l (i:Int)=(rowN p i,true):=by
 obtain ⟨h0,h1⟩:=two_bd hi
 rw [solved_sum ht.good ht.bytes hi] at h ⊢
 rw [truth_sum ht.good ht.tr (by omega) h1 h,sum_two hb hi]
theorem rows_join (hp:p.length=256):(Zcd 0 16).flatMap (rowN p)=p:=by
 have key:∀n,n≤16→(Zcd 0 n).flatMap (rowN p)=p.take (16*n):=by
   intro n
   induction n with
   |zero=>intro _;simp
   | succ n ih=>
     intro hn
     rw [List.range'_concat,List.flatMap_append,ih (by omega)]
     simp only [Nat.zero_add,Nat.one_mul,List.flatMap_cons,List.flatMap_nil,List.append_nil]
     refine List.ext_getElem (by simp [rowN];omega) fun i h1 h2=> ?_
     by_cases h3:i<16*n
     · rw [List.getElem_append_left (by simp;omega)];simp
     · rw [List.getElem_append_right (by simp;omega)]
       have h4:i<p.length:=by simp at h2;omega
       have e:16*n+(i - min (16*n) p.length)=i:=by simp [rowN] at h1;omega
       simp [rowN,nth,List.getD,e,h4]
 rw [key 16 (by omega),List.take_of_length_le (by omega)]
theorem falls_full:∀(n:Nat) {l:List Row},(l.Pairwise fun a b=>top b.1<top a.1)→(∀i,i<n→∃r∈l,top r.1=i)→n≤l.length
 |0,l,_,_=>Nat.zero_le _
 |n+1, [],_,h=>by obtain ⟨r,hr,_⟩:=h 0 (by omega);cases hr
 | n+1,a::l,hp,h=>by
   obtain ⟨h1,h2⟩:=Zbr.1 hp
   have:=falls_full n h2 fun i hi=>by
     obtain ⟨r,hr,hri⟩:=h i (by omega)
     rcases Zcp.1 hr with rfl|hr
     · obtain ⟨s,hs,hsn⟩:=h n (by omega)
       rcases Zcp.1 hs with rfl|hs
       · omega
       · have:=h1 s hs;omega
     · exact ⟨r,hr,hri⟩
   simp only [List.length_cons];omega
theorem solved_row (i:Nat) (hi:i<16) (h:(solvedS l (i:Int)).2=true):∃r∈l,top r.1=i:=by
 unfold solvedS at h
 split at h
 · cases h
 · split at h
   · rename_i h2
     unfold findS at h2
     cases hf:l.find? fun r=>r.1==bit (i:Int) with
     |none=>rw [hf] at h2;cases h2
     | some s=>
       have h3:=List.find?_some hf
       refine ⟨s,List.mem_of_find?_eq_some hf, ?_⟩
       have h3:s.1=two i:=by rw [bit_two hi] at h3;simpa using h3
       rw [h3,top_two]
   · cases h
theorem pages_iff (ht:Tru p l):(pagesS l).2=decide (l.length=16):=by
 rw [pagesS_eq]
 by_cases h:l.length=16
 · rw [if_pos,decide_eq_true h]
   exact Zbc.2 fun i hi=>by
     have hi:i<16:=by simp [Zdg] at hi;omega
     rw [solved_sum ht.good ht.bytes hi]
     exact full_sum ht.good ht.bytes h hi
 · rw [if_neg,decide_eq_false h]
   intro hh
   have h1:=falls_full 16 ht.good.falls fun i hi=>solved_row i hi (Zbc.1 hh i (by simp [Zdg];omega))
   have h2:=ht.good.len
   omega
theorem pages_data (ht:Tru p l) (hp:p.length=256) (hb:∀x∈p,0≤x∧x<256) (h:(pagesS l).2=true):(pagesS l).1=p:=by
 rw [pagesS_eq] at h ⊢
 split
 · rename_i h2
   have e:(Zcd 0 16).flatMap (fun i:Nat=>(solvedS l i).1)=(Zcd 0 16).flatMap (rowN p):=by
     rw [List.flatMap_def,List.flatMap_def]
     congr 1
     refine List.map_congr_left fun i hi=> ?_
     have:=solved_of ht (i:=i) (by simp [Zdg] at hi;omega) hb (Zbc.1 h2 i hi)
     rw [this]
   simp only [e,rows_join hp]
 · rename_i h2;rw [if_neg h2] at h;cases h
theorem in_sum (hg:Good l) {m:Int} {b:List Int} (h0:0≤m) (h1:m<65536) (h:InV l (vec (m,b))):(sumS l m).2=true:=by
 have hv:=(validS_good l).2 hg
 rw [sumS_def h0 h1 hv]
 have vU:=vec_foldl (x:=(m, [])) ⟨h0,h1⟩ hg.mask
 have bU:=foldl_red_bd (l:=l) (x:=(m, [])) ⟨h0,h1⟩ hg.mask
 unfold InV at h
 rw [vec_split,foldV_vx,fold_bytes,←vU] at h
 have:(l.foldl red (m, [])).1=0:=by
   refine vec_inl (x:=(_,(l.foldl red (m, [])).2)) (y:=(0,b)) bU.1 (Int.le_refl 0) ?_
   have h2:=congrArg (fun v=>vx v (vec (0,b))) h
   simp only [vx_can] at h2
   rw [show z0=fun _=>false from rfl,zero_vx] at h2
   exact h2
 simp [this]
end
theorem all_in {p ms:List Int} (hm:∀x∈ms,0≤x∧x<65536) {m:Int} (h:m∈ms) (h0:m≠0):InV (allS p ms []).1 (vec (m,sumB p m)):=by
 rw [in_all (Tru.nil p) hm (es:= []) (fun v=>Iff.rfl)]
 refine Sp.mem ?_
 simp only [List.append_nil,List.mem_reverse,eqsB,Zbe,List.mem_filter]
 exact ⟨m,⟨h,by simpa using h0⟩,rfl⟩
theorem all_full {p ms:List Int} (hb:∀x∈p,0≤x∧x<256) (hm:∀x∈ms,0≤x∧x<65536) (h:∀i,i<16→two i∈ms):(allS p ms []).1.length=16:=by
 obtain ⟨_,ht⟩:=truth_all (Tru.nil p) hm
 have h1:=falls_full 16 ht.good.falls fun i hi=>solved_row i hi (by
   obtain ⟨h0,h1⟩:=two_bd hi
   rw [solved_sum ht.good ht.bytes hi]
   exact in_sum ht.good (by omega) h1 (all_in hm (h i hi) (by omega)))
 have h2:=ht.good.len
 omega
theorem Sp.bits:∀ {es:List Vc} {v:Vc} {i:Ix},Sp es v→v i=true→∃e∈es,e i=true
 | [],v,i,h,hv=>by rw [show v=z0 from h] at hv;cases hv
 | e::es,v,i,h,hv=>by
   rcases h with h|h
   · obtain ⟨f,hf,hi⟩:=Sp.bits h hv;exact ⟨f,Zaw _ hf,hi⟩
   · cases he:e i with
     |true=>exact ⟨e,Zay ..,he⟩
     | false=>
       obtain ⟨f,hf,hi⟩:=Sp.bits (i:=i) h (by simp [vx,hv,he])
       exact ⟨f,Zaw _ hf,hi⟩
def thereS (ss:List Int):Int:=ss.foldl (fun a s=>or64 a (setS s)) 0
theorem there_bits:∀(ss:List Int) (a:Int),(∀s∈ss,seedS s=true)→0≤a→a<65536→(0≤ss.foldl (fun a s=>or64 a (setS s)) a∧ss.foldl (fun a s=>or64 a (setS s)) a<65536)∧
   ∀k,(ss.foldl (fun a s=>or64 a (setS s)) a).toNat.testBit k=(a.toNat.testBit k||ss.any fun s=>(setS s).toNat.testBit k)
 | [],a,_,h0,h1=>⟨⟨h0,h1⟩,fun k=>by simp⟩
 | s::ss,a,hs,h0,h1=>by
   have hb:=setS_range (hs s (Zay ..))
   have ho:=or64_bd h0 h1 (b:=setS s) (by omega) (by omega)
   obtain ⟨g1,g2⟩:=there_bits ss (or64 a (setS s)) (fun x hx=>hs x (Zaw _ hx)) ho.1 ho.2
   refine ⟨g1,fun k=> ?_⟩
   rw [Zcz,g2,or64_eq h0 h1 (by omega) (by omega),Zba,Nat.testBit_or,List.any_cons,Bool.or_assoc]
theorem fresh_law {p ss:List Int} (hs:∀s∈ss,seedS s=true) {m:Int} (h0:1≤m) (h1:m<65536):or64 m (thereS ss)=thereS ss∨(addS (allS p (masks ss) []).1 m (sumB p m)).2.1=true:=by
 have hm:=masks_bd hs
 obtain ⟨_,ht⟩:=truth_all (Tru.nil p) hm
 rcases add_law ht.good ⟨h0,h1⟩ (sumB_len p m) (sumB_canon p m) with ⟨h2,h3,_⟩|⟨h2,h3⟩|⟨_,x,hx,h3,_⟩
 · exact absurd (congrArg Prod.fst (truth_sum ht.good ht.tr (by omega) h1 h2)) h3
 · left
   have hi:=sum_in ht.good (by omega) h1 h2
   rw [in_all (Tru.nil p) hm (es:= []) (fun v=>Iff.rfl)] at hi
   obtain ⟨hb,hk⟩:=there_bits ss 0 hs (Int.le_refl 0) (by omega)
   have hb:0≤thereS ss∧thereS ss<65536:=hb
   rw [or64_eq (by omega) h1 hb.1 hb.2]
   have e:m.toNat|||(thereS ss).toNat=(thereS ss).toNat:=by
     refine Zdb fun k=> ?_
     rw [Nat.testBit_or]
     cases hmk:m.toNat.testBit k with
     |false=>simp
     | true=>
       obtain ⟨e,he,hek⟩:=Sp.bits (i:= .inl k) hi hmk
       simp only [List.append_nil,List.mem_reverse,eqsB,Zbe,List.mem_filter,masks] at he
       obtain ⟨m',⟨⟨s,hs',rfl⟩,_⟩,rfl⟩:=he
       rw [show (thereS ss).toNat.testBit k=_ from hk k]
       have:(ss.any fun s=>(setS s).toNat.testBit k)=true:=List.any_eq_true.2 ⟨s,hs',hek⟩
       rw [this];simp
   show (((m.toNat|||(thereS ss).toNat:Nat)):Int)=thereS ss
   rw [e]
   have:=hb.1
   omega
 · right;rw [h3]
def ss0:List Int:= [0,1,2,3,4,5,6,7,8,9,10,11,12,13,14,15]
theorem masks16_full:∀i,i<16→two i∈masks ss0:=by decide+kernel
section
end
def smallRows (l:List Row):Prop:=l.length≤1000∧∀r∈l,r.2.length≤1000
section
end
def zeroL (p:List Int):Bool:=p.all fun x=>x==0
def c35 (args:List AV) (K:AV→Prop):Prop:=∃(p:List Int) (r:Bool),args= [.d (.sl 1 (bytesR p))]∧p.length≤9223372036854775807∧r=zeroL p∧K (.d (bo r))
section
variable (p:List Int) (S:Nat) (hp:p.length=256) (hS:S<65536)
include hp hS
end
def stepS (n w:Int):Int:=Zaa .u64 (Zaa .u64 ((Zao 64 n ^^^ Zao 64 w).toNat:Int)*1099511628211)
theorem step_nf (n w:Int):wpFn prog ⟨[], [],wl,y,false⟩ 100 f213 [.d (u64 n), .d (u64 w)] b R=R (.d (u64 (stepS n w))) b:=by kernel_rfl
theorem words_nf (xs:List (List Dv)):wpFn prog ⟨[], [],wl,y,false⟩ 100 f212 [.full 1 xs] b R=R (.fn (.func 229) [] [.rptr [.sl 1 xs]]) b:=by kernel_rfl
theorem pcStep (n w:Int):PCall prog 213 [.d (u64 n), .d (u64 w)] (.d (u64 (stepS n w))):=by
 refine Zbi (n:=100) (u:=false) mixed Zaj Zaf func213 (by rfl) (by rfl) fun Ev bb=> ?_
 rw [step_nf]
def cStep (args:List AV) (K:AV→Prop):Prop:=∃(n w z:Int),args= [.d (u64 n), .d (u64 w)]∧z=stepS n w∧K (.d (u64 z))
theorem cStep_ok:∀args K,cStep args K→∃x,PCall prog 213 args x∧K x:=by
 rintro _ K ⟨n,w,_,rfl,rfl,h⟩;exact ⟨_,pcStep n w,h⟩
theorem pcWords (xs:List (List Dv)):PCall prog 212 [.full 1 xs] (.fn (.func 229) [] [.rptr [.sl 1 xs]]):=by
 refine Zbi (n:=100) (u:=false) mixed Zaj Zaf func212 (by rfl) (by rfl) fun Ev bb=> ?_
 rw [words_nf]
def cWords (args:List AV) (K:AV→Prop):Prop:=∃(p:List (List Dv)),args= [.full 1 [[.sl 1 p]]]∧K (.fn (.func 229) [] [.rptr [.sl 1 [[.sl 1 p]]]])
theorem cWords_ok:∀args K,cWords args K→∃x,PCall prog 212 args x∧K x:=by
 rintro _ K ⟨p,rfl,h⟩;exact ⟨_,pcWords _,h⟩
def itemW (c:Int):List AV:= [.d (u64 (Zaa .u64 c))]
noncomputable def lpWb:Code:=sub [1,2,3,1,1,0,2,1,1,2,3] (code f229)
def tmWb (n:Int) (i:Int) (p:List (List Dv)) (m k:Int) (rows:List (List Dv)):List AV:= [.yl, .bad, .bad, .bad, .bad, .bad, .bad, .d (.sl 1 rows), .d (i64 n), .d (i64 i), .bad, .bad, .bad, .d (.sl 1 p), .d (i64 m), .d (i64 k)]++Zad 10 .bad
noncomputable def lpWa:Code:=sub [1,2,3] (code f229)
def tmWa (n:Int) (i:Int) (rows:List (List Dv)):List AV:= [.yl, .bad, .bad, .bad, .bad, .bad, .bad, .d (.sl 1 rows), .d (i64 n), .d (i64 i)]++Zad 16 .bad
theorem wb_round (n i m k:Int) (p rows:List (List Dv)):wpc prog ⟨[], [],wl,y,false⟩ 100 lpWb (tmWb n i p m k rows) [] b (maskT [0,7,8,9,13,14,15] K)=(
 BIf (decide (k<m)) (BIf (true&&decide (0≤k)) (∃(x0:Int),p[Zat k]? =some [u8 x0]∧y b (itemW x0) fun (c:Bool) (b4:β)=>BIf (!c) (K .ret (tmWb n i p m k rows) [] b4) (K .normal (tmWb n i p m (Zaa .i64 (k+1)) rows) [] b4)) False) (K (.exit 2) (tmWb n i p m k rows) [] b)):=by kernel_rfl
def wlWb {β:Type} (y:YieldT β):WLT β:=fun c tm hp b K=>∃(n i:Int) (p:List Int) (rows:List (List Dv)),c= .loop lpWb∧maskTm [0,7,8,9,13,14,15] 0 tm=tmWb n i (bytesR p) (bytesR p).length 0 rows∧hp= []∧p.length≤9223372036854775807∧
 YList y (p.map itemW) b fun b'=>∀k:Int,K (.exit 2) (tmWb n i (bytesR p) (bytesR p).length k rows) [] b'∧K .ret (tmWb n i (bytesR p) (bytesR p).length k rows) [] b'
theorem wrWb {Ev:Env prog} {Q:Exit→St Ev.β→Prop} (n i:Int) (p:List Int) (rows:List (List Dv)) (hl:p.length≤9223372036854775807):∀(rest:List Int) (k:Nat) (b:Ev.β),p.drop k=rest→k≤p.length→
   (YList Ev.Y (rest.map itemW) b fun b'=>∀k:Int,Q (.exit 2) ⟨tmWb n i (bytesR p) (bytesR p).length k rows, [],b'⟩∧Q .ret ⟨tmWb n i (bytesR p) (bytesR p).length k rows, [],b'⟩)→WR Ev lpWb (rest.length+1) ⟨tmWb n i (bytesR p) (bytesR p).length k rows, [],b⟩ Q
 | [],k,b,hd,hk,h=>by
   refine Zdk [0,7,8,9,13,14,15] mixed (CX.Ok.of (u:=false) Zaj Zaf) (k:=100) ?_
   rw [wb_round]
   have:=drop_nil hd
   exact Zea (by simp [bytesR_len];omega) (h _).1
 | z::rest,k,b,hd,hk,h=>by
   refine Zdk [0,7,8,9,13,14,15] mixed (CX.Ok.of (u:=false) Zaj Zaf) (k:=100) ?_
   rw [wb_round]
   obtain ⟨hk',hr,hd'⟩:=drop_cons hd
   refine Zbt (by simp [bytesR_len];omega) (Zbt (by simp) ⟨z,by simp [bytesR,hr], ?_⟩)
   rw [Zck] at h
   refine Ev.Ymono h fun c b' h=> ?_
   cases c with
   | true=>
     refine Zea rfl ?_
     rw [wrap_succ hk' hl]
     exact wrWb n i p rows hl rest (k+1) b' hd' hk' h
   |false=>exact Zbt rfl (h _).2
theorem wlWb_ok {Ev:Env prog} (c:Code) (tm:List AV) (hp:List Blk) (b:Ev.β) (K:Exit→List AV→List Blk→Ev.β→Prop) (h:wlWb Ev.Y c tm hp b K):W Ev c ⟨tm,hp,b⟩ (fun e s=>K e s.tm s.hp s.b):=by
 obtain ⟨n,i,p,rows,rfl,htm,rfl,hl,hK⟩:=h
 refine W.cast (htm▸maskTm_le _ tm 0) (Zco _) ?_
 exact W.rounds (wrWb (Q:=fun e s=>K e s.tm s.hp s.b) n i p rows hl p 0 b rfl (Nat.zero_le _) hK)
section
variable {β:Type} (y:YieldT β) (b:β) (K:Exit→List AV→List Blk→β→Prop)
theorem wa_round (n i:Int) (rows:List (List Dv)):wpc prog ⟨[], [],wlWb y,y,false⟩ 100 lpWa (tmWa n i rows) [] b (maskT [0,7,8,9] K)=(
 BIf (decide (i<n)) (BIf (true&&decide (0≤i)) (∃(xs0:List (List Dv)),rows[Zat i]? =some [Zal 1 xs0]∧∃(n' i':Int) (p:List Int) (rows':List (List Dv)),Zbq lpWb= .loop lpWb∧tmWb n i xs0 xs0.length 0 rows=tmWb n' i' (bytesR p) (bytesR p).length 0 rows'∧([]:List Blk)= []∧p.length≤9223372036854775807∧
   YList y (p.map itemW) b fun b'=>∀k:Int,K .normal (tmWa n' (Zaa .i64 (i'+1)) rows') [] b'∧K .ret (tmWa n' i' rows') [] b') False)
  (K (.exit 0) (tmWa n i rows) [] b)):=by kernel_rfl
def wlWa {β:Type} (y:YieldT β):WLT β:=fun c tm hp b K=>∃(p:List Int),c= .loop lpWa∧maskTm [0,7,8,9] 0 tm=tmWa 1 0 [[.sl 1 (bytesR p)]]∧hp= []∧p.length≤9223372036854775807∧
 YList y (p.map itemW) b fun b'=>∀i:Int,K (.exit 0) (tmWa 1 i [[.sl 1 (bytesR p)]]) [] b'∧K .ret (tmWa 1 i [[.sl 1 (bytesR p)]]) [] b'
end
set_option maxRecDepth 100000 in
theorem wlWa_ok {Ev:Env prog} (c:Code) (tm:List AV) (hp:List Blk) (b:Ev.β) (K:Exit→List AV→List Blk→Ev.β→Prop) (h:wlWa Ev.Y c tm hp b K):W Ev c ⟨tm,hp,b⟩ (fun e s=>K e s.tm s.hp s.b):=by
 obtain ⟨p,rfl,htm,rfl,hl,hK⟩:=h
 refine W.cast (htm▸maskTm_le _ tm 0) (Zco _) ?_
 refine W.rounds (m:=2) ?_
 refine Zdk [0,7,8,9] mixed (CX.Ok.ofWl (u:=false) Zaj Zaf wlWb_ok) (k:=100) ?_
 rw [wa_round]
 refine Zbt (by decide) (Zbt (by decide) ⟨bytesR p,rfl,1,0,p, [[.sl 1 (bytesR p)]],rfl,rfl,rfl,hl, ?_⟩)
 refine YList.mono (fun b' h k=>⟨?_,(h _).2⟩) _ _ hK
 show WR Ev lpWa 1 _ _
 refine Zdk [0,7,8,9] mixed (CX.Ok.ofWl (u:=false) Zaj Zaf wlWb_ok) (k:=100) ?_
 rw [wa_round]
 exact Zea (by decide) (h _).1
theorem f94_nf (xs:List (List Dv)):wpc prog ⟨[], [],wlWa y,y,false⟩ 100 (code f229) (startTm f229 [.yl, .rptr [.sl 1 xs]]) [] b (fnK prog f229 fun _ b=>Q b)=(
 ∃p:List Int,Zbq lpWa= .loop lpWa∧tmWa xs.length 0 xs=tmWa 1 0 [[.sl 1 (bytesR p)]]∧([]:List Blk)= []∧p.length≤9223372036854775807∧YList y (p.map itemW) b fun b'=>∀_:Int,Q b'∧Q b'):=by kernel_rfl
set_option maxRecDepth 100000 in
theorem ic94 (p:List Int) (hl:p.length≤9223372036854775807):ICall prog 229 [.yl, .rptr [.sl 1 [[.sl 1 (bytesR p)]]]] (fun Y b Q=>YList Y (p.map itemW) b Q):=by
 refine ICall.ofW (c:=code f229) func229 rfl rfl fun Ev b Q h=> ?_
 have h1:wpc prog ⟨[], [],wlWa Ev.Y,Ev.Y,false⟩ 100 (code f229) (startTm f229 [.yl, .rptr [.sl 1 [[.sl 1 (bytesR p)]]]]) [] b (fnK prog f229 fun _ b=>Q b):=by
   rw [f94_nf]
   exact ⟨p,rfl,rfl,rfl,hl,YList.mono (fun b h _=>⟨h,h⟩) _ _ h⟩
 refine wpc_sound mixed (CX.Ok.ofWl (wl:=wlWa Ev.Y) (u:=false) Zaj Zaf wlWa_ok) h1 fun e tm hp b hK=> ?_
 obtain ⟨g1,ys,g2,z,g3,g4⟩:=fnK_sound hK
 exact ⟨g1,ys,g2,g4⟩
def addB (s:Int) (p:List Int):Int:=p.foldl (fun s c=>stepS s (Zaa .u64 c)) s
def TAdd:List (Nat×(List AV→(AV→Prop)→Prop)):= [(213,cStep),(212,cWords)]
theorem TAdd_ok:CallsOk prog TAdd:=Zag cStep_ok (Zag cWords_ok Zaj)
noncomputable def rf87:Code:=sub [1,1,0,1,2] (code f174)
theorem rf87_shape:rf87= .rangeFunc (.tmp 10) #[11] (assignOf rf87) (bodyOf rf87):=by kernel_rfl
def cellQ (x:Int):Blk:=⟨[.d (u64 x)],false,false,0⟩
def tmAd (p:List (List Dv)):List AV:= [.bad, .bad, .bad, .bad, .bad, .ptr 0 0, .bad, .bad, .bad, .bad, .fn (.func 229) [] [.rptr [.sl 1 [[.sl 1 p]]]], .bad, .bad, .bad, .bad, .bad]
theorem ad_round (p:List (List Dv)) (w s:Int):wpcY prog ⟨TAdd, [],wl,y,false⟩ 100 #[11] (assignOf rf87) (bodyOf rf87) (tmAd p) [.d (u64 w)] [cellQ s] b (takeK 1 Kh)=(
 ∃(n0 w1 z2:Int), [Zae (u64 s), .d (u64 w)]= [.d (u64 n0), .d (u64 w1)]∧z2=stepS n0 w1∧Kh .normal [cellQ z2] b):=by kernel_rfl
theorem range87 {Ev:Env prog} {b:Ev.β} {Q:Exit→St Ev.β→Prop} (p:List (List Dv)):∀(l:List Int) (s:Int),Q .normal ⟨tmAd p, [cellQ (addB s l)],b⟩→
   YList (YBody Ev (tmAd p) #[11] (assignOf rf87) (bodyOf rf87) 1) (l.map itemW) ([cellQ s],b,none) (rangeQ (tmAd p) Q)
 | [],s,h=>h
 | c::l,s,h=>by
   refine YList.step (X:=⟨TAdd, [],wlW Ev,Ev.Y,false⟩) (k:=100) mixed (CX.Ok.of TAdd_ok Zaf) rfl ?_
   show wpcY _ _ _ _ _ _ _ [.d (u64 _)] [cellQ _] b (takeK 1 _)
   rw [ad_round]
   exact ⟨s,_,_,rfl,rfl,range87 p l _ h⟩
def wlAd {β:Type}:WLT β:=fun c tm hp b K=>∃(p:List Int) (s z:Int),c=rf87∧maskTm [5,10] 0 tm=tmAd (bytesR p)∧hp= [cellQ s]∧(p.length≤9223372036854775807∧z=addB s p)∧K .normal (tmAd (bytesR p)) [cellQ z] b
theorem wlAd_ok {Ev:Env prog} (c:Code) (tm:List AV) (hp:List Blk) (b:Ev.β) (K:Exit→List AV→List Blk→Ev.β→Prop) (h:wlAd c tm hp b K):W Ev c ⟨tm,hp,b⟩ (fun e s=>K e s.tm s.hp s.b):=by
 obtain ⟨p,s,z,rfl,htm,rfl,⟨hl,rfl⟩,hK⟩:=h
 refine W.cast (htm▸maskTm_le _ tm 0) (Zco _) ?_
 rw [rf87_shape]
 exact W.range (s:=⟨tmAd (bytesR p),_,b⟩) (k:=229) (first:= []) (caps:= [.rptr [.sl 1 [[.sl 1 (bytesR p)]]]]) rfl rfl rfl (ic94 p hl) (range87 (bytesR p) p s hK)
theorem add_nf (s:Int) (xs:List (List Dv)):wpFn prog ⟨TAdd, [],wlAd,y,false⟩ 100 f174 [.d (u64 s), .d (.sl 1 xs)] b R=(
 ∃(p0:List (List Dv)), [AV.full 1 [[.sl 1 xs]]]= [.full 1 [[.sl 1 p0]]]∧∃(p:List Int) (s1 z:Int),rf87=rf87∧tmAd p0=tmAd (bytesR p)∧ [cellQ s]= [cellQ s1]∧(p.length≤9223372036854775807∧z=addB s1 p)∧R (.d (u64 z)) b):=by kernel_rfl
theorem pcAdd (s:Int) (p:List Int) (hl:p.length≤9223372036854775807):PCall prog 174 [.d (u64 s), .d (.sl 1 (bytesR p))] (.d (u64 (addB s p))):=by
 refine PCall.ofFnW (n:=100) (u:=false) (fun _=>wlAd) mixed TAdd_ok Zaf (fun Ev=>wlAd_ok) func174 (by rfl) (by rfl) fun Ev bb=> ?_
 rw [add_nf]
 exact ⟨_,rfl,p,s,_,rfl,rfl,rfl,⟨hl,rfl⟩,rfl⟩
def cAdd (args:List AV) (K:AV→Prop):Prop:=∃(s:Int) (p:List Int) (z:Int),args= [.d (u64 s), .d (.sl 1 (bytesR p))]∧(p.length≤9223372036854775807∧z=addB s p)∧K (.d (u64 z))
theorem cAdd_ok:∀args K,cAdd args K→∃x,PCall prog 174 args x∧K x:=by
 rintro _ K ⟨s,p,_,rfl,⟨hl,rfl⟩,h⟩;exact ⟨_,pcAdd s p hl,h⟩
def cAddF (args:List AV) (K:AV→Prop):Prop:=match args with
 | [_, .full _ _]=>∃(s:Int) (p:List Int) (z:Int),args= [.d (u64 s), .full 1 (bytesR p)]∧(p.length≤9223372036854775807∧z=addB s p)∧K (.d (u64 z))
 |_=>cAdd args K
theorem cAddF_ok:∀args K,cAddF args K→∃x,PCall prog 174 args x∧K x:=by
 intro args K h
 unfold cAddF at h
 split at h
 · obtain ⟨s,p,_,e,⟨hl,rfl⟩,h⟩:=h
   rw [e]
   exact ⟨_,PCall.leArgsV (.cons .rfl (.cons .full .nil)) (pcAdd s p hl),h⟩
 · exact cAdd_ok _ _ h
def basisS:Int:=14695981039346656037
def TSum:List (Nat×(List AV→(AV→Prop)→Prop)):= [(174,cAddF),(213,cStep)]
theorem TSum_ok:CallsOk prog TSum:=Zag cAddF_ok (Zag cStep_ok Zaj)
theorem sum_nf (xs:List (List Dv)):wpFn prog ⟨TSum, [],wl,y,false⟩ 100 f175 [.full 1 xs] b R=(∃(s0:Int) (p1:List Int) (z2:Int), [Zae (u64 14695981039346656037),AV.full 1 xs]= [Zae (u64 s0),AV.full 1 (bytesR p1)]∧(Zac p1≤9223372036854775807∧z2=addB s0 p1)∧R (.d (u64 z2)) b):=by kernel_rfl
theorem pair_nf (s w:Int):wpFn prog ⟨TSum, [],wl,y,false⟩ 100 f194 [.d (u64 s), .d (u64 w)] b R=(∃(n0:Int) (w1:Int) (z2:Int), [Zae (u64 3750763034362895578),Zae (u64 s)]= [Zae (u64 n0),Zae (u64 w1)]∧z2=stepS n0 w1∧∃(n3:Int) (w4:Int) (z5:Int), [Zae (u64 z2),Zae (u64 w)]= [Zae (u64 n3),Zae (u64 w4)]∧z5=stepS n3 w4∧R (.d (u64 z5)) b):=by kernel_rfl
theorem pcSum (p:List Int) (hl:p.length≤9223372036854775807):PCall prog 175 [.full 1 (bytesR p)] (.d (u64 (addB basisS p))):=by
 refine Zbi (n:=100) (u:=false) mixed TSum_ok Zaf func175 (by rfl) (by rfl) fun Ev bb=> ?_
 rw [sum_nf]
 exact ⟨_,p,_,rfl,⟨hl,rfl⟩,rfl⟩
def cSum (args:List AV) (K:AV→Prop):Prop:=∃(p:List Int) (z:Int),args= [.full 1 (bytesR p)]∧(p.length≤9223372036854775807∧z=addB basisS p)∧K (.d (u64 z))
theorem cSum_ok:∀args K,cSum args K→∃x,PCall prog 175 args x∧K x:=by
 rintro _ K ⟨p,_,rfl,⟨hl,rfl⟩,h⟩;exact ⟨_,pcSum p hl,h⟩
def pairS (a b:Int):Int:=stepS (stepS 3750763034362895578 a) b
theorem pcPair (a c:Int):PCall prog 194 [.d (u64 a), .d (u64 c)] (.d (u64 (pairS a c))):=by
 refine Zbi (n:=100) (u:=false) mixed TSum_ok Zaf func194 (by rfl) (by rfl) fun Ev bb=> ?_
 rw [pair_nf]
 exact ⟨_,_,_,rfl,rfl,_,_,_,rfl,rfl,rfl⟩
def cPair (args:List AV) (K:AV→Prop):Prop:=∃(a c z:Int),args= [.d (u64 a), .d (u64 c)]∧z=pairS a c∧K (.d (u64 z))
theorem cPair_ok:∀args K,cPair args K→∃x,PCall prog 194 args x∧K x:=by
 rintro _ K ⟨a,c,_,rfl,rfl,h⟩;exact ⟨_,pcPair a c,h⟩
def leafS (p:List Int):Int:=addB (addB basisS [0]) p
def TLeaf:List (Nat×(List AV→(AV→Prop)→Prop)):= [(175,cSum),(174,cAdd)]
theorem TLeaf_ok:CallsOk prog TLeaf:=Zag cSum_ok (Zag cAdd_ok Zaj)
theorem leaf_nf (xs:List (List Dv)):wpFn prog ⟨TLeaf, [],wl,y,true⟩ 100 f192 [.full 1 [[.sl 1 xs]]] b R=(∃(p0:List Int) (z1:Int), [AV.full 1 [[u8 0]]]= [AV.full 1 (bytesR p0)]∧(Zac p0≤9223372036854775807∧z1=addB (14695981039346656037:Int) p0)∧∃(xs2:List (List Dv)),some [Zal 1 xs]=some [Zal 1 xs2]∧∃(s3:Int) (p4:List Int) (z5:Int), [Zae (u64 z1),Zae (Zal 1 xs2)]= [Zae (u64 s3),Zae (Zal 1 (bytesR p4))]∧(Zac p4≤9223372036854775807∧z5=addB s3 p4)∧R (.d (u64 z5)) b):=by kernel_rfl
theorem pcLeaf (p:List Int) (hl:p.length≤9223372036854775807):PCall prog 192 [.full 1 [[.sl 1 (bytesR p)]]] (.d (u64 (leafS p))):=by
 refine Zbi (n:=100) (u:=true) mixed TLeaf_ok Zaf func192 (by rfl) (by rfl) fun Ev bb=> ?_
 rw [leaf_nf]
 exact ⟨[0],_,rfl,⟨by decide,rfl⟩,_,rfl,_,p,_,rfl,⟨hl,rfl⟩,rfl⟩
def cLeaf (args:List AV) (K:AV→Prop):Prop:=∃(p:List Int) (z:Int),args= [.full 1 [[.sl 1 (bytesR p)]]]∧(p.length≤9223372036854775807∧z=leafS p)∧K (.d (u64 z))
theorem cLeaf_ok:∀args K,cLeaf args K→∃x,PCall prog 192 args x∧K x:=by
 rintro _ K ⟨p,_,rfl,⟨hl,rfl⟩,h⟩;exact ⟨_,pcLeaf p hl,h⟩
def partsR (ps:List (List Int)):List (List Dv):=ps.map fun p=> [.sl 1 (bytesR p)]
theorem partsR_len (ps:List (List Int)):(partsR ps).length=ps.length:=by simp [partsR]
theorem f75_nf (xs:List (List Dv)):wpFn prog ⟨[], [],wl,y,false⟩ 100 f190 [.d (.sl 1 xs)] b R=R (.d (bo (decide ((xs.length:Int)>256)))) b:=by kernel_rfl
theorem f59_nf (xs:List (List Dv)):wpFn prog ⟨[], [],wl,y,false⟩ 100 f195 [.d (.sl 1 xs)] b R=R (.d (bo ((xs.length:Int) !=256))) b:=by kernel_rfl
def c75 (args:List AV) (K:AV→Prop):Prop:=∃(xs:List (List Dv)),args= [.d (.sl 1 xs)]∧K (.d (bo (decide ((xs.length:Int)>256))))
theorem c75_ok:∀args K,c75 args K→∃x,PCall prog 190 args x∧K x:=by
 rintro _ K ⟨xs,rfl,h⟩
 refine ⟨_,Zbi (n:=100) (u:=false) mixed Zaj Zaf func190 (by rfl) (by rfl) fun Ev bb=> ?_,h⟩
 rw [f75_nf]
def c59 (args:List AV) (K:AV→Prop):Prop:=∃(xs:List (List Dv)),args= [.d (.sl 1 xs)]∧K (.d (bo ((xs.length:Int) !=256)))
theorem c59_ok:∀args K,c59 args K→∃x,PCall prog 195 args x∧K x:=by
 rintro _ K ⟨xs,rfl,h⟩
 refine ⟨_,Zbi (n:=100) (u:=false) mixed Zaj Zaf func195 (by rfl) (by rfl) fun Ev bb=> ?_,h⟩
 rw [f59_nf]
def TIx:List (Nat×(List AV→(AV→Prop)→Prop)):= [(190,c75),(195,c59)]
theorem TIx_ok:CallsOk prog TIx:=Zag c75_ok (Zag c59_ok Zaj)
noncomputable def lpIx:Code:=sub [1,0,1,2,3] (code f219)
def tmIx (k:Nat) (xs:List (List Dv)) (n i:Int):List AV:= [.d (.sl 1 xs), .fn (.func k) [] [], .bad, .bad, .bad, .bad, .bad, .d (i64 n), .d (i64 i)]++Zad 10 .bad
def ixR {β:Type} (K:Exit→List AV→List Blk→β→Prop) (b:β) (P:Int→Bool) (f:Nat) (xs:List (List Dv)) (n i:Int):Prop:=
 BIf (decide (i<n)) (BIf (true&&decide (0≤i)) (∃(xs0:List (List Dv)),xs[Zat i]? =some [Zal 1 xs0]∧∃(xs1:List (List Dv)), [Zae (.sl 1 xs0)]= [Zae (.sl 1 xs1)]∧
   BIf (P xs1.length) (K .ret ((tmIx f xs n i).set 4 (.d (i64 i))) [] b) (K .normal (tmIx f xs n (Zaa .i64 (i+1))) [] b)) False) (K (.exit 0) (tmIx f xs n i) [] b)
theorem ix75 (xs:List (List Dv)) (n i:Int):wpc prog ⟨TIx, [],wl,y,false⟩ 100 lpIx (tmIx 190 xs n i) [] b (maskK 0 [0,1,4,7,8] K)=ixR K b (fun n=>decide (n>256)) 190 xs n i:=by kernel_rfl
theorem ix59 (xs:List (List Dv)) (n i:Int):wpc prog ⟨TIx, [],wl,y,false⟩ 100 lpIx (tmIx 195 xs n i) [] b (maskK 0 [0,1,4,7,8] K)=ixR K b (fun n=>n !=256) 195 xs n i:=by kernel_rfl
def ixP (P:Int→Bool):List (List Int)→Nat→Int
 | [],_=> -1
 |p::ps,k=>if P p.length then k else ixP P ps (k+1)
theorem ixP_ge (P:Int→Bool):∀(ps:List (List Int)) (k:Nat),decide (ixP P ps k≥0)=ps.any fun p=>P p.length
 | [],k=>by simp [ixP]
 | p::ps,k=>by
   unfold ixP
   rw [List.any_cons]
   cases h:P p.length with
   |true=>simp
   |false=>simpa using ixP_ge P ps (k+1)
def IxOk (P:Int→Bool) (f:Nat):Prop:=∀ {β:Type} (wl:WLT β) (y:YieldT β) (b:β) (K:Exit→List AV→List Blk→β→Prop) (xs:List (List Dv)) (n i:Int),
 wpc prog ⟨TIx, [],wl,y,false⟩ 100 lpIx (tmIx f xs n i) [] b (maskK 0 [0,1,4,7,8] K)=ixR K b P f xs n i
theorem wrIx {P:Int→Bool} {f:Nat} (hP:IxOk P f) {Ev:Env prog} {b:Ev.β} {Q:Exit→St Ev.β→Prop} (ps:List (List Int)) (hl:ps.length≤9223372036854775807):∀(rest:List (List Int)) (k:Nat),ps.drop k=rest→k≤ps.length→
   (∀i:Nat,ixP P rest k=i→Q .ret ⟨(tmIx f (partsR ps) ps.length i).set 4 (.d (i64 i)), [],b⟩)→(ixP P rest k= -1→Q (.exit 0) ⟨tmIx f (partsR ps) ps.length ps.length, [],b⟩)→WR Ev lpIx (rest.length+1) ⟨tmIx f (partsR ps) ps.length k, [],b⟩ Q
 | [],k,hd,hk,h1,h2=>by
   refine WR.ofMask [0,1,4,7,8] mixed (CX.Ok.of (u:=false) TIx_ok Zaf) (k:=100) ?_
   show wpc _ _ _ _ _ _ _ (maskK 0 _ _)
   rw [hP]
   have:=drop_nil hd
   obtain rfl:k=ps.length:=by omega
   exact Zea (by simp) (h2 rfl)
 | p::rest,k,hd,hk,h1,h2=>by
   refine WR.ofMask [0,1,4,7,8] mixed (CX.Ok.of (u:=false) TIx_ok Zaf) (k:=100) ?_
   show wpc _ _ _ _ _ _ _ (maskK 0 _ _)
   rw [hP]
   obtain ⟨hk',hr,hd'⟩:=drop_cons hd
   refine Zbt (by simp;omega) (Zbt (by simp) ⟨bytesR p,by simp [partsR,hr],bytesR p,rfl,Zar (fun hz=> ?_) fun hz=> ?_⟩)
   · exact h1 k (by rw [bytesR_len] at hz;simp [ixP,hz])
   · rw [wrap_succ hk' hl]
     have e:ixP P (p::rest) k=ixP P rest (k+1):=by rw [bytesR_len] at hz;simp [ixP,hz]
     rw [e] at h1 h2
     exact wrIx hP ps hl rest (k+1) hd' hk' h1 h2
def wlIx {β:Type} (P:Int→Bool) (f:Nat):WLT β:=fun c tm hp b K=>∃(ps:List (List Int)),c= .loop lpIx∧maskTm [0,1,7,8] 0 tm=tmIx f (partsR ps) (partsR ps).length 0∧hp= []∧ps.length≤9223372036854775807∧
 (∀i:Nat,ixP P ps 0=i→K .ret ((tmIx f (partsR ps) (partsR ps).length i).set 4 (.d (i64 i))) [] b)∧(ixP P ps 0= -1→K (.exit 0) (tmIx f (partsR ps) (partsR ps).length (partsR ps).length) [] b)
theorem wlIx_ok {P:Int→Bool} {f:Nat} (hP:IxOk P f) {Ev:Env prog} (c:Code) (tm:List AV) (hp:List Blk) (b:Ev.β) (K:Exit→List AV→List Blk→Ev.β→Prop) (h:wlIx P f c tm hp b K):W Ev c ⟨tm,hp,b⟩ (fun e s=>K e s.tm s.hp s.b):=by
 obtain ⟨ps,rfl,htm,rfl,hl,h1,h2⟩:=h
 rw [partsR_len] at htm h1 h2
 refine W.cast (htm▸maskTm_le _ tm 0) (Zco _) ?_
 exact W.rounds (wrIx (Q:=fun e s=>K e s.tm s.hp s.b) hP ps hl ps 0 rfl (Nat.zero_le _) h1 h2)
def ixF {β:Type} (R:AV→β→Prop) (b:β) (P:Int→Bool) (f:Nat) (xs:List (List Dv)):Prop:=∃(ps:List (List Int)),Zbq lpIx= .loop lpIx∧tmIx f xs xs.length 0=tmIx f (partsR ps) (partsR ps).length 0∧([]:List Blk)= []∧ps.length≤9223372036854775807∧
 (∀i:Nat,ixP P ps 0=i→R (.d (i64 i)) b)∧(ixP P ps 0= -1→R (.d (i64 (-1))) b)
theorem ixF75 (P:Int→Bool) (xs:List (List Dv)):wpFn prog ⟨TIx, [],wlIx P 190,y,false⟩ 100 f219 [.d (.sl 1 xs), .fn (.func 190) [] []] b R=ixF R b P 190 xs:=by kernel_rfl
theorem ixF59 (P:Int→Bool) (xs:List (List Dv)):wpFn prog ⟨TIx, [],wlIx P 195,y,false⟩ 100 f219 [.d (.sl 1 xs), .fn (.func 195) [] []] b R=ixF R b P 195 xs:=by kernel_rfl
theorem pcIx75 (ps:List (List Int)) (hl:ps.length≤9223372036854775807):PCall prog 219 [.d (.sl 1 (partsR ps)), .fn (.func 190) [] []] (.d (i64 (ixP (fun n=>decide (n>256)) ps 0))):=by
 refine PCall.ofFnW (n:=100) (u:=false) (fun _=>wlIx (fun n=>decide (n>256)) 190) mixed TIx_ok Zaf (fun Ev=>wlIx_ok (fun wl y b K xs n i=>ix75 wl y b K xs n i)) func219 (by rfl) (by rfl) fun Ev bb=> ?_
 rw [ixF75]
 exact ⟨ps,rfl,rfl,rfl,hl,fun i h=>by rw [h],fun h=>by rw [h]⟩
theorem pcIx59 (ps:List (List Int)) (hl:ps.length≤9223372036854775807):PCall prog 219 [.d (.sl 1 (partsR ps)), .fn (.func 195) [] []] (.d (i64 (ixP (fun n=>n !=256) ps 0))):=by
 refine PCall.ofFnW (n:=100) (u:=false) (fun _=>wlIx (fun n=>n !=256) 195) mixed TIx_ok Zaf (fun Ev=>wlIx_ok (fun wl y b K xs n i=>ix59 wl y b K xs n i)) func219 (by rfl) (by rfl) fun Ev bb=> ?_
 rw [ixF59]
 exact ⟨ps,rfl,rfl,rfl,hl,fun i h=>by rw [h],fun h=>by rw [h]⟩
def cIx (args:List AV) (K:AV→Prop):Prop:=match args with
 | [_, .fn (.func 190) _ _]=>∃(ps:List (List Int)) (z:Int),args= [.d (.sl 1 (partsR ps)), .fn (.func 190) [] []]∧(ps.length≤9223372036854775807∧z=ixP (fun n=>decide (n>256)) ps 0)∧K (.d (i64 z))
 |_=>∃(ps:List (List Int)) (z:Int),args= [.d (.sl 1 (partsR ps)), .fn (.func 195) [] []]∧(ps.length≤9223372036854775807∧z=ixP (fun n=>n !=256) ps 0)∧K (.d (i64 z))
theorem cIx_ok:∀args K,cIx args K→∃x,PCall prog 219 args x∧K x:=by
 intro args K h
 unfold cIx at h
 split at h
 · obtain ⟨ps,_,e,⟨hl,rfl⟩,h⟩:=h;rw [e];exact ⟨_,pcIx75 ps hl,h⟩
 · obtain ⟨ps,_,e,⟨hl,rfl⟩,h⟩:=h;rw [e];exact ⟨_,pcIx59 ps hl,h⟩
def TCf:List (Nat×(List AV→(AV→Prop)→Prop)):= [(219,cIx)]
theorem TCf_ok:CallsOk prog TCf:=Zag cIx_ok Zaj
theorem cf75_nf (xs:List (List Dv)):wpFn prog ⟨TCf, [],wl,y,false⟩ 100 f189 [.d (.sl 1 xs), .fn (.func 190) [] []] b R=(∃(ps0:List (List Int)) (z1:Int), [Zae (Zal 1 xs),AV.fn (Fn.func 190) [] []]= [Zae (Zal 1 (partsR ps0)),AV.fn (Fn.func 190) [] []]∧(Zac ps0≤9223372036854775807∧z1=ixP (fun (n2:Int)=>decide (n2>(256:Int))) ps0 0)∧R (.d (bo (decide (z1≥(0:Int))))) b):=by kernel_rfl
theorem cf59_nf (xs:List (List Dv)):wpFn prog ⟨TCf, [],wl,y,false⟩ 100 f189 [.d (.sl 1 xs), .fn (.func 195) [] []] b R=(∃(ps0:List (List Int)) (z1:Int), [Zae (Zal 1 xs),AV.fn (Fn.func 195) [] []]= [Zae (Zal 1 (partsR ps0)),AV.fn (Fn.func 195) [] []]∧(Zac ps0≤9223372036854775807∧z1=ixP (fun (n2:Int)=>n2 !=(256:Int)) ps0 0)∧R (.d (bo (decide (z1≥(0:Int))))) b):=by kernel_rfl
def anyLong (ps:List (List Int)):Bool:=ps.any fun p=>decide ((p.length:Int)>256)
def anyOther (ps:List (List Int)):Bool:=ps.any fun p=>(p.length:Int) !=256
def cCf (args:List AV) (K:AV→Prop):Prop:=match args with
 | [_, .fn (.func 190) _ _]=>∃(ps:List (List Int)) (z:Bool),args= [.d (.sl 1 (partsR ps)), .fn (.func 190) [] []]∧(ps.length≤9223372036854775807∧z=anyLong ps)∧K (.d (bo z))
 |_=>∃(ps:List (List Int)) (z:Bool),args= [.d (.sl 1 (partsR ps)), .fn (.func 195) [] []]∧(ps.length≤9223372036854775807∧z=anyOther ps)∧K (.d (bo z))
theorem cCf_ok:∀args K,cCf args K→∃x,PCall prog 189 args x∧K x:=by
 intro args K h
 unfold cCf at h
 split at h
 · obtain ⟨ps,_,e,⟨hl,rfl⟩,h⟩:=h
   rw [e]
   refine ⟨_,Zbi (n:=100) (u:=false) mixed TCf_ok Zaf func189 (by rfl) (by rfl) fun Ev bb=> ?_,h⟩
   rw [cf75_nf]
   exact ⟨ps,_,rfl,⟨hl,rfl⟩,by rw [ixP_ge];rfl⟩
 · obtain ⟨ps,_,e,⟨hl,rfl⟩,h⟩:=h
   rw [e]
   refine ⟨_,Zbi (n:=100) (u:=false) mixed TCf_ok Zaf func189 (by rfl) (by rfl) fun Ev bb=> ?_,h⟩
   rw [cf59_nf]
   exact ⟨ps,_,rfl,⟨hl,rfl⟩,by rw [ixP_ge];rfl⟩
def TPgI:List (Nat×(List AV→(AV→Prop)→Prop)):= [(189,cCf)]
theorem TPg_okI:CallsOk prog TPgI:=Zag cCf_ok Zaj
theorem arePages_nf (xs:List (List Dv)):wpFn prog ⟨TPgI, [],wl,y,false⟩ 100 f145 [.d (.sl 1 xs)] b R=(BIf (decide (↑(Zac xs)>(0:Int))) (BIf (decide (↑(Zac xs)≤(16:Int))) (∃(ps0:List (List Int)) (z1:Bool), [Zae (Zal 1 xs),AV.fn (Fn.func 190) [] []]= [Zae (Zal 1 (partsR ps0)),AV.fn (Fn.func 190) [] []]∧(Zac ps0≤9223372036854775807∧z1=anyLong ps0)∧R (.d (bo !z1)) b) (R (.d (bo false)) b)) (R (.d (bo false)) b)):=by kernel_rfl
theorem paged_nf (xs:List (List Dv)):wpFn prog ⟨TPgI, [],wl,y,false⟩ 100 f148 [.d (.sl 1 xs)] b R=(∃(ps0:List (List Int)) (z1:Bool), [Zae (Zal 1 xs),AV.fn (Fn.func 195) [] []]= [Zae (Zal 1 (partsR ps0)),AV.fn (Fn.func 195) [] []]∧(Zac ps0≤9223372036854775807∧z1=anyOther ps0)∧R (.d (bo !z1)) b):=by kernel_rfl
def areS (ps:List (List Int)):Bool:=decide ((ps.length:Int)>0)&&(decide ((ps.length:Int)≤16)&& !anyLong ps)
theorem pcArePages (ps:List (List Int)):PCall prog 145 [.d (.sl 1 (partsR ps))] (.d (bo (areS ps))):=by
 refine Zbi (n:=100) (u:=false) mixed TPg_okI Zaf func145 (by rfl) (by rfl) fun Ev bb=> ?_
 rw [arePages_nf,partsR_len]
 refine Zar (fun h1=>Zar (fun h2=>⟨ps,_,rfl,⟨by simp at h2;omega,rfl⟩, ?_⟩) fun h2=> ?_) fun h1=> ?_
 · rw [areS,h1,h2];rfl
 · rw [areS,h1,h2];rfl
 · rw [areS,h1];rfl
def cArePages (args:List AV) (K:AV→Prop):Prop:=∃(ps:List (List Int)) (z:Bool),args= [.d (.sl 1 (partsR ps))]∧z=areS ps∧K (.d (bo z))
theorem cArePages_ok:∀args K,cArePages args K→∃x,PCall prog 145 args x∧K x:=by
 rintro _ K ⟨ps,_,rfl,rfl,h⟩;exact ⟨_,pcArePages ps,h⟩
theorem pcPaged (ps:List (List Int)) (hl:ps.length≤9223372036854775807):PCall prog 148 [.d (.sl 1 (partsR ps))] (.d (bo (!anyOther ps))):=by
 refine Zbi (n:=100) (u:=false) mixed TPg_okI Zaf func148 (by rfl) (by rfl) fun Ev bb=> ?_
 rw [paged_nf]
 exact ⟨ps,_,rfl,⟨hl,rfl⟩,rfl⟩
def cPaged (args:List AV) (K:AV→Prop):Prop:=∃(ps:List (List Int)) (z:Bool),args= [.d (.sl 1 (partsR ps))]∧(ps.length≤9223372036854775807∧z= !anyOther ps)∧K (.d (bo z))
theorem cPaged_ok:∀args K,cPaged args K→∃x,PCall prog 148 args x∧K x:=by
 rintro _ K ⟨ps,_,rfl,⟨hl,rfl⟩,h⟩;exact ⟨_,pcPaged ps hl,h⟩
noncomputable def lpCh:Code:=sub [1,2,3] (code f220)
def tmCh (xs:List (List Dv)) (m i:Int):List AV:= [.yl, .rptr [.sl 1 xs], .rptr [i64 m], .bad, .d (i64 i)]++Zad 26 .bad
noncomputable def lpCb:Code:=sub [1,2,3] (code f147)
def restLen (xs:List (List Dv)) (i:Int):Int:=((List.take (Zat (xs.length:Int) - Zat i) (List.drop (Zat i) xs)).length:Int)
def chPart (xs:List (List Dv)) (i z:Int):List (List Dv):=List.take (Zat (Zaa .i64 (i+z)) - Zat i) (List.drop (Zat i) xs)
def chOk1 (xs:List (List Dv)) (i:Int):Prop:=0≤i∧i≤(xs.length:Int)∧(xs.length:Int)≤(xs.length:Int)∧(xs.length:Int)≤(xs.length:Int)
def chOk2 (xs:List (List Dv)) (i z:Int):Prop:=0≤i∧i≤Zaa .i64 (i+z)∧Zaa .i64 (i+z)≤Zaa .i64 (i+z)∧Zaa .i64 (i+z)≤(xs.length:Int)
instance (xs : List (List Dv)) (i : Int) : Decidable (chOk1 xs i) := inferInstanceAs (Decidable (_ ∧ _))
instance (xs : List (List Dv)) (i z : Int) : Decidable (chOk2 xs i z) := inferInstanceAs (Decidable (_ ∧ _))
def chR {β:Type} (y:YieldT β) (b:β) (K:Exit→List AV→List Blk→β→Prop) (xs:List (List Dv)) (m i:Int):Prop:=
 BIf (decide (i<xs.length)) (BIf (true&&decide (chOk1 xs i)) (∃(z:Int),(z=if restLen xs i<m then restLen xs i else m)∧BIf (true&&decide (chOk2 xs i z)) (BIf (true&&Zat (Zaa .i64 (i+z))==Zat (Zaa .i64 (i+z)))
     (y b [.full 1 (chPart xs i z)] fun (c:Bool) (b1:β)=>BIf (!c) (K .ret (tmCh xs m i) [] b1) (K .normal (tmCh xs m (Zaa .i64 (i+m))) [] b1))
     (y b [.d (.sl 1 (chPart xs i z))] fun (c:Bool) (b1:β)=>BIf (!c) (K .ret (tmCh xs m i) [] b1) (K .normal (tmCh xs m (Zaa .i64 (i+m))) [] b1))) False) False)
   (K (.exit 0) (tmCh xs m i) [] b)
def ChOk (lp:Code):Prop:=∀ {β:Type} (wl:WLT β) (y:YieldT β) (b:β) (K:Exit→List AV→List Blk→β→Prop) (xs:List (List Dv)) (m i:Int),
 wpc prog ⟨[], [],wl,y,false⟩ 100 lp (tmCh xs m i) [] b (maskT [0,1,2,4] K)=chR y b K xs m i
theorem ch88 (xs:List (List Dv)) (m i:Int):wpc prog ⟨[], [],wl,y,false⟩ 100 lpCh (tmCh xs m i) [] b (maskT [0,1,2,4] K)=chR y b K xs m i:=by kernel_rfl
theorem ch57 (xs:List (List Dv)) (m i:Int):wpc prog ⟨[], [],wl,y,false⟩ 100 lpCb (tmCh xs m i) [] b (maskT [0,1,2,4] K)=chR y b K xs m i:=by kernel_rfl
def chunkD {α:Type} (m:Nat):Nat→List α→List (List α)
 |0,_=> []
 |n+1,xs=>if xs.isEmpty then [] else xs.take m::chunkD m n (xs.drop m)
def itemC (c:List (List Dv)):List AV:= [.full 1 c]
theorem chPart_eq {xs:List (List Dv)} {m i:Nat} (hi:i<xs.length) (hm:1≤m) (hb:xs.length+2*m<9223372036854775807):
   ∃z:Int,z=(if restLen xs i<(m:Int) then restLen xs i else m)∧chPart xs i z=(xs.drop i).take m∧chOk2 xs i z:=by
 have e1:restLen xs (i:Int)=((xs.length - i:Nat):Int):=by unfold restLen;simp
 rw [e1]
 by_cases h:((xs.length - i:Nat):Int)<(m:Int)
 · refine ⟨_,rfl, ?_, ?_⟩<;>rw [if_pos h]
   · unfold chPart
     rw [wrap_i64 (by omega) (by omega)]
     have e2:((i:Int)+((xs.length - i:Nat):Int)).toNat - (i:Int).toNat=xs.length - i:=by omega
     rw [e2,Zba,List.take_of_length_le (by simp),List.take_of_length_le (by simp;omega)]
   · unfold chOk2;rw [wrap_i64 (by omega) (by omega)];omega
 · refine ⟨_,rfl, ?_, ?_⟩<;>rw [if_neg h]
   · unfold chPart
     rw [wrap_i64 (by omega) (by omega)]
     have e2:((i:Int)+(m:Int)).toNat - (i:Int).toNat=m:=by omega
     rw [e2,Zba]
   · unfold chOk2;rw [wrap_i64 (by omega) (by omega)];omega
theorem wrCh {lp:Code} (hP:ChOk lp) {Ev:Env prog} {Q:Exit→St Ev.β→Prop} (xs:List (List Dv)) (m:Nat) (hm:1≤m) (hb:xs.length+2*m<9223372036854775807):∀(n i:Nat) (b:Ev.β),(xs.drop i).length≤n→i≤xs.length+m→
   (YList Ev.Y ((chunkD m n (xs.drop i)).map itemC) b fun b'=>∀i:Int,Q (.exit 0) ⟨tmCh xs m i, [],b'⟩∧Q .ret ⟨tmCh xs m i, [],b'⟩)→WR Ev lp (n+1) ⟨tmCh xs m i, [],b⟩ Q
 | 0,i,b,hn,hi,h=>by
   refine Zdk [0,1,2,4] mixed (CX.Ok.of (u:=false) Zaj Zaf) (k:=100) ?_
   rw [hP]
   exact Zea (by simp at hn ⊢;omega) (h _).1
 | n+1,i,b,hn,hi,h=>by
   refine Zdk [0,1,2,4] mixed (CX.Ok.of (u:=false) Zaj Zaf) (k:=100) ?_
   rw [hP]
   by_cases hlt:i<xs.length
   · have e0:(xs.drop i).isEmpty=false:=by
       cases hx:xs.drop i with
       |nil=>have:=drop_nil hx;omega
       |cons=>rfl
     rw [chunkD,if_neg (by rw [e0];simp),Zck] at h
     obtain ⟨z,hz,hp,hk⟩:=chPart_eq hlt hm hb
     refine Zbt (by simp;omega) (Zbt (by rw [show decide (chOk1 xs i)=true from decide_eq_true (by unfold chOk1;omega)];rfl) ⟨z,hz,Zbt (by rw [decide_eq_true hk];rfl) (Zbt (by simp) ?_)⟩)
     rw [hp]
     refine Ev.Ymono h fun c b' h=> ?_
     cases c with
     | true=>
       refine Zea rfl ?_
       rw [wrap_i64 (by omega) (by omega),show (i:Int)+(m:Int)=((i+m:Nat):Int) by omega]
       rw [List.drop_drop] at h
       exact wrCh hP xs m hm hb n (i+m) b' (by simp at hn ⊢;omega) (by omega) h
     |false=>exact Zbt rfl (h _).2
   · have e0:xs.drop i= []:=List.drop_eq_nil_of_le (by omega)
     rw [e0,chunkD,if_pos (show ([]:List (List Dv)).isEmpty=true from rfl)] at h
     exact Zea (by simp;omega) (h _).1
def wlCh {β:Type} (lp:Code) (y:YieldT β):WLT β:=fun c tm hp b K=>∃(xs:List (List Dv)) (m:Nat),c= .loop lp∧maskTm [0,1,2,4] 0 tm=tmCh xs m 0∧hp= []∧(1≤m∧xs.length+2*m<9223372036854775807)∧
 YList y ((chunkD m xs.length xs).map itemC) b fun b'=>∀i:Int,K (.exit 0) (tmCh xs m i) [] b'∧K .ret (tmCh xs m i) [] b'
theorem wlCh_ok {lp:Code} (hP:ChOk lp) {Ev:Env prog} (c:Code) (tm:List AV) (hp:List Blk) (b:Ev.β) (K:Exit→List AV→List Blk→Ev.β→Prop) (h:wlCh lp Ev.Y c tm hp b K):W Ev c ⟨tm,hp,b⟩ (fun e s=>K e s.tm s.hp s.b):=by
 obtain ⟨xs,m,rfl,htm,rfl,⟨hm,hb⟩,hK⟩:=h
 refine W.cast (htm▸maskTm_le _ tm 0) (Zco _) ?_
 exact W.rounds (wrCh (Q:=fun e s=>K e s.tm s.hp s.b) hP xs m hm hb xs.length 0 b (by simp) (by omega) (by simpa using hK))
theorem f88_nf (xs:List (List Dv)) (m:Int):wpc prog ⟨[], [],wlCh lpCh y,y,false⟩ 100 (code f220) (startTm f220 [.yl, .rptr [.sl 1 xs], .rptr [i64 m]]) [] b (fnK prog f220 fun _ b=>Q b)=(
 ∃(xs':List (List Dv)) (m':Nat),Zbq lpCh= .loop lpCh∧tmCh xs m 0=tmCh xs' m' 0∧([]:List Blk)= []∧(1≤m'∧xs'.length+2*m'<9223372036854775807)∧YList y ((chunkD m' xs'.length xs').map itemC) b fun b'=>∀_:Int,Q b'∧Q b'):=by kernel_rfl
theorem f57_nfI (xs:List (List Dv)) (m:Int):wpc prog ⟨[], [],wlCh lpCb y,y,false⟩ 100 (code f147) (startTm f147 [.yl, .rptr [.sl 1 xs], .rptr [i64 m]]) [] b (fnK prog f147 fun _ b=>Q b)=(
 ∃(xs':List (List Dv)) (m':Nat),Zbq lpCb= .loop lpCb∧tmCh xs m 0=tmCh xs' m' 0∧([]:List Blk)= []∧(1≤m'∧xs'.length+2*m'<9223372036854775807)∧YList y ((chunkD m' xs'.length xs').map itemC) b fun b'=>∀_:Int,Q b'∧Q b'):=by kernel_rfl
set_option maxRecDepth 100000 in
theorem ic88 (xs:List (List Dv)) (m:Nat) (hm:1≤m) (hb:xs.length+2*m<9223372036854775807):ICall prog 220 [.yl, .rptr [.sl 1 xs], .rptr [i64 m]] (fun Y b Q=>YList Y ((chunkD m xs.length xs).map itemC) b Q):=by
 refine ICall.ofW (c:=code f220) func220 rfl rfl fun Ev b Q h=> ?_
 have h1:wpc prog ⟨[], [],wlCh lpCh Ev.Y,Ev.Y,false⟩ 100 (code f220) (startTm f220 [.yl, .rptr [.sl 1 xs], .rptr [i64 m]]) [] b (fnK prog f220 fun _ b=>Q b):=by
   rw [f88_nf]
   exact ⟨xs,m,rfl,rfl,rfl,⟨hm,hb⟩,YList.mono (fun b h _=>⟨h,h⟩) _ _ h⟩
 refine wpc_sound mixed (CX.Ok.ofWl (wl:=wlCh lpCh Ev.Y) (u:=false) Zaj Zaf (wlCh_ok fun wl y b K xs m i=>ch88 wl y b K xs m i)) h1 fun e tm hp b hK=> ?_
 obtain ⟨g1,ys,g2,z,g3,g4⟩:=fnK_sound hK
 exact ⟨g1,ys,g2,g4⟩
set_option maxRecDepth 100000 in
theorem ic57 (xs:List (List Dv)) (m:Nat) (hm:1≤m) (hb:xs.length+2*m<9223372036854775807):ICall prog 147 [.yl, .rptr [.sl 1 xs], .rptr [i64 m]] (fun Y b Q=>YList Y ((chunkD m xs.length xs).map itemC) b Q):=by
 refine ICall.ofW (c:=code f147) func147 rfl rfl fun Ev b Q h=> ?_
 have h1:wpc prog ⟨[], [],wlCh lpCb Ev.Y,Ev.Y,false⟩ 100 (code f147) (startTm f147 [.yl, .rptr [.sl 1 xs], .rptr [i64 m]]) [] b (fnK prog f147 fun _ b=>Q b):=by
   rw [f57_nfI]
   exact ⟨xs,m,rfl,rfl,rfl,⟨hm,hb⟩,YList.mono (fun b h _=>⟨h,h⟩) _ _ h⟩
 refine wpc_sound mixed (CX.Ok.ofWl (wl:=wlCh lpCb Ev.Y) (u:=false) Zaj Zaf (wlCh_ok fun wl y b K xs m i=>ch57 wl y b K xs m i)) h1 fun e tm hp b hK=> ?_
 obtain ⟨g1,ys,g2,z,g3,g4⟩:=fnK_sound hK
 exact ⟨g1,ys,g2,g4⟩
theorem chunk_nf {β:Type} (wl:WLT β) (y:YieldT β) (b:β) (R:AV→β→Prop) (xs:List (List Dv)):wpFn prog ⟨[], [],wl,y,false⟩ 100 f193 [.d (.sl 1 xs), .d (i64 2)] b R=R (.fn (.func 220) [] [.rptr [.sl 1 xs], .rptr [i64 2]]) b:=by kernel_rfl
def cChunk2 (args:List AV) (K:AV→Prop):Prop:=∃(xs:List (List Dv)),args= [.d (.sl 1 xs), .d (i64 2)]∧K (.fn (.func 220) [] [.rptr [.sl 1 xs], .rptr [i64 2]])
theorem cChunk2_ok:∀args K,cChunk2 args K→∃x,PCall prog 193 args x∧K x:=by
 rintro _ K ⟨xs,rfl,h⟩
 refine ⟨_,Zbi (n:=100) (u:=false) mixed Zaj Zaf func193 (by rfl) (by rfl) fun Ev bb=> ?_,h⟩
 rw [chunk_nf]
def TLv:List (Nat×(List AV→(AV→Prop)→Prop)):= [(192,cLeaf),(193,cChunk2),(194,cPair)]
theorem TLv_ok:CallsOk prog TLv:=Zag cLeaf_ok (Zag cChunk2_ok (Zag cPair_ok Zaj))
noncomputable def lpLa:Code:=sub [1,0,1,2,3] (code f191)
noncomputable def lpLb:Code:=sub [1,1,2,3] (code f191)
noncomputable def rfLv:Code:=sub [1,1,2,3,1,2,1,0,1,2] (code f191)
theorem rfLv_shape:rfLv= .rangeFunc (.tmp 30) #[31] (assignOf rfLv) (bodyOf rfLv):=by kernel_rfl
def tmLa (acc:AV) (ps:List (List Dv)) (n i:Int):List AV:= [.yl, .rptr [.sl 1 ps], .bad,acc, .bad, .bad, .bad, .bad, .d (.sl 1 ps), .d (i64 n), .d (i64 i)]++Zad 41 .bad
def tmLb (now:AV):List AV:= [.yl, .bad, .bad,now]++Zad 48 .bad
def tmLr (now:List (List Dv)):List AV:= [.yl, .bad, .bad, .d (.sl 1 now), .bad, .bad, .ptr 0 0]++Zad 23 .bad++ [.fn (.func 220) [] [.rptr [.sl 1 now], .rptr [i64 2]]]++Zad 21 .bad
theorem la_round (ps xs:List (List Dv)) (n i:Int):wpc prog ⟨TLv, [],wl,y,false⟩ 100 lpLa (tmLa (.own 22 1 xs) ps n i) [] b (maskK 0 [0,1,3,8,9,10] K)=(
 BIf (decide (i<n)) (BIf (true&&decide (0≤i)) (∃(xs0:List (List Dv)),ps[Zat i]? =some [Zal 1 xs0]∧∃(p3:List Int) (z4:Int), [AV.full 1 [[Zal 1 xs0]]]= [.full 1 [[.sl 1 (bytesR p3)]]]∧(p3.length≤9223372036854775807∧z4=leafS p3)∧
   BIf (true&&decide ((xs.length+1)*8≤140737488355328)) (K .normal (tmLa (.own 22 1 (xs++ [[u64 z4]])) ps n (Zaa .i64 (i+1))) [] b) False) False) (K (.exit 0) (tmLa (.own 22 1 xs) ps n i) [] b)):=by kernel_rfl
theorem lr_round (now xs x:List (List Dv)):wpcY prog ⟨TLv, [],wl,y,false⟩ 100 #[31] (assignOf rfLv) (bodyOf rfLv) (tmLr now) [.full 1 x] [cellV (.own 22 1 xs)] b (takeK 1 Kh)=(
 BIf ((x.length:Int)==2) (∃(x0:Int),x[0]? =some [u64 x0]∧∃(x3:Int),x[1]? =some [u64 x3]∧∃(a6 c7 z8:Int), [Zae (u64 x0), .d (u64 x3)]= [.d (u64 a6), .d (u64 c7)]∧z8=pairS a6 c7∧BIf (true&&decide ((xs.length+1)*8≤140737488355328)) (Kh .normal [cellV (.own 22 1 (xs++ [[u64 z8]]))] b) False)
   (∃(x9:Int),x[0]? =some [u64 x9]∧BIf (true&&decide ((xs.length+1)*8≤140737488355328)) (Kh .normal [cellV (.own 22 1 (xs++ [[u64 x9]]))] b) False)):=by kernel_rfl
def nextL:List Int→List Int
 | []=> []
 | [a]=> [a]
 |a::c::l=>pairS a c::nextL l
theorem nextL_len:∀l:List Int,(nextL l).length≤l.length∧(1<l.length→(nextL l).length<l.length)
 | []=>by simp [nextL]
 | [a]=>by simp [nextL]
 |a::c::l=>by have:=(nextL_len l).1;simp only [nextL,List.length_cons];omega
theorem rangeLv {Ev:Env prog} {b:Ev.β} {Q:Exit→St Ev.β→Prop} (now:List (List Dv)):∀(n:Nat) (l acc:List Int),l.length≤n→acc.length+l.length≤1000→Q .normal ⟨tmLr now, [cellV (.own 22 1 (digR (acc++nextL l)))],b⟩→
   YList (YBody Ev (tmLr now) #[31] (assignOf rfLv) (bodyOf rfLv) 1) ((chunkD 2 n (digR l)).map itemC) ([cellV (.own 22 1 (digR acc))],b,none) (rangeQ (tmLr now) Q)
 | 0,l,acc,hn,hb,h=>by
   have:l= []:=List.length_eq_zero_iff.1 (by omega)
   subst this
   rw [show nextL []= [] from rfl,List.append_nil] at h;exact h
 | n+1, [],acc,hn,hb,h=>by
   have e:chunkD 2 (n+1) (digR [])= []:=rfl
   rw [e]
   rw [show nextL []= [] from rfl,List.append_nil] at h;exact h
 | n+1, [a],acc,hn,hb,h=>by
   have e:chunkD 2 (n+1) (digR [a])= [[u64 a]]::chunkD 2 n (digR []):=rfl
   rw [e,Zck]
   refine YList.step (X:=⟨TLv, [],wlW Ev,Ev.Y,false⟩) (k:=100) mixed (CX.Ok.of TLv_ok Zaf) rfl ?_
   show wpcY _ _ _ _ _ _ _ [.full 1 [[u64 a]]] [cellV _] b (takeK 1 _)
   rw [lr_round]
   refine Zea (by simp) ⟨a,rfl,Zbt (by simp [digR_len] at hb ⊢;omega) ?_⟩
   rw [digs_app]
   refine rangeLv now n [] (acc++ [a]) (by simp) (by simp at hb ⊢;omega) ?_
   simpa [nextL] using h
 | n+1,a::c::l,acc,hn,hb,h=>by
   have e:chunkD 2 (n+1) (digR (a::c::l))= [[u64 a], [u64 c]]::chunkD 2 n (digR l):=rfl
   rw [e,Zck]
   refine YList.step (X:=⟨TLv, [],wlW Ev,Ev.Y,false⟩) (k:=100) mixed (CX.Ok.of TLv_ok Zaf) rfl ?_
   show wpcY _ _ _ _ _ _ _ [.full 1 [[u64 a], [u64 c]]] [cellV _] b (takeK 1 _)
   rw [lr_round]
   refine Zbt (by simp) ⟨a,rfl,c,rfl,a,c,_,rfl,rfl,Zbt (by simp [digR_len] at hb ⊢;omega) ?_⟩
   rw [digs_app]
   refine rangeLv now n l (acc++ [pairS a c]) (by simp at hn;omega) (by simp at hb ⊢;omega) ?_
   have e2:(acc++ [pairS a c])++nextL l=acc++nextL (a::c::l):=by simp [nextL]
   rw [e2];exact h
def wlLr {β:Type}:WLT β:=fun c tm hp b K=>∃(now q:List Int),c=rfLv∧maskTm [0,3,6,30] 0 tm=tmLr (digR now)∧hp= [cellV (.d (.s (.slice none 0 0)))]∧(now.length≤1000∧q=nextL now)∧K .normal (tmLr (digR now)) [cellV (.own 22 1 (digR q))] b
theorem wlLr_ok {Ev:Env prog} (c:Code) (tm:List AV) (hp:List Blk) (b:Ev.β) (K:Exit→List AV→List Blk→Ev.β→Prop) (h:wlLr c tm hp b K):W Ev c ⟨tm,hp,b⟩ (fun e s=>K e s.tm s.hp s.b):=by
 obtain ⟨now,q,rfl,htm,rfl,⟨hl,rfl⟩,hK⟩:=h
 refine W.cast (htm▸maskTm_le _ tm 0) (hp':= [cellV (.own 22 1 (digR []))]) (.cons (.cons (LeA.nilOwn rfl) .nil) .nil) ?_
 rw [rfLv_shape]
 exact W.range (s:=⟨tmLr (digR now),_,b⟩) (k:=220) (first:= []) (caps:= [.rptr [.sl 1 (digR now)], .rptr [i64 2]]) rfl rfl rfl (ic88 (digR now) 2 (by omega) (by rw [digR_len];omega)) (rangeLv (digR now) _ now [] (by rw [digR_len];exact Nat.le_refl _) (by simpa using hl) (by simpa using hK))
set_option maxRecDepth 10000 in
theorem wrLa {Ev:Env prog} {b:Ev.β} {Q:Exit→St Ev.β→Prop} (ps:List (List Int)) (hl:ps.length≤1000) (hp:∀p∈ps,p.length≤9223372036854775807):∀(rest:List (List Int)) (k:Nat) (acc:List Int),ps.drop k=rest→k≤ps.length→acc.length≤k→
   Q (.exit 0) ⟨tmLa (.own 22 1 (digR (acc++rest.map leafS))) (partsR ps) ps.length ps.length, [],b⟩→WR Ev lpLa (rest.length+1) ⟨tmLa (.own 22 1 (digR acc)) (partsR ps) ps.length k, [],b⟩ Q
 | [],k,acc,hd,hk,ha,h=>by
   refine WR.ofMask [0,1,3,8,9,10] mixed (CX.Ok.of (u:=false) TLv_ok Zaf) (k:=100) ?_
   show wpc _ _ _ _ _ _ _ (maskK 0 _ _)
   rw [la_round]
   have:=drop_nil hd
   obtain rfl:k=ps.length:=by omega
   rw [List.map_nil,List.append_nil] at h
   exact Zea (by simp) h
 | p::rest,k,acc,hd,hk,ha,h=>by
   refine WR.ofMask [0,1,3,8,9,10] mixed (CX.Ok.of (u:=false) TLv_ok Zaf) (k:=100) ?_
   show wpc _ _ _ _ _ _ _ (maskK 0 _ _)
   rw [la_round]
   obtain ⟨hk',hr,hd'⟩:=drop_cons hd
   refine Zbt (by simp;omega) (Zbt (by simp) ⟨bytesR p,by simp [partsR,hr],p,_,rfl,⟨hp p (Zbb hr),rfl⟩,Zbt (by simp [digR_len];omega) ?_⟩)
   rw [digs_app,wrap_succ hk' (by omega)]
   refine wrLa ps hl hp rest (k+1) (acc++ [leafS p]) hd' hk' (by simp;omega) ?_
   rw [Zck] at h
   rw [Zcl];exact h
def levelsF:Nat→List Int→List (List Int)
 |0,now=> [now]
 |n+1,now=>if 1<now.length then now::levelsF n (nextL now) else [now]
def itemL (l:List Int):List AV:= [.d (.sl 1 (digR l))]
theorem lb_round (now:List (List Dv)):wpc prog ⟨TLv, [],wlLr,y,false⟩ 100 lpLb (tmLb (.d (.sl 1 now))) [] b (maskK 0 [0,3] K)=(
 y b [.d (.sl 1 now)] fun (c:Bool) (b1:β)=>BIf c (BIf (decide ((now.length:Int)>1)) (∃(xs2:List (List Dv)), [Zae (.sl 1 now),Zae (i64 2)]= [.d (.sl 1 xs2), .d (i64 2)]∧∃(now3 q4:List Int),rfLv=rfLv∧
     [.yl, .bad, .bad,Zae (.sl 1 now), .bad, .bad, .ptr 0 0]++Zad 23 .bad++ [.fn (.func 220) [] [.rptr [.sl 1 xs2], .rptr [i64 2]]]++Zad 21 .bad=tmLr (digR now3)∧
     [cellV (.d (.s (.slice none 0 0)))]= [cellV (.d (.s (.slice none 0 0)))]∧(now3.length≤1000∧q4=nextL now3)∧K .normal (tmLb (.d (.sl 1 (digR q4)))) [] b1)
   (K (.exit 2) (tmLb (.d (.sl 1 now))) [] b1)) (K (.exit 2) (tmLb (.d (.sl 1 now))) [] b1)):=by kernel_rfl
set_option maxRecDepth 10000 in
theorem wrLb {Ev:Env prog} {Q:Exit→St Ev.β→Prop}:∀(n:Nat) (now:List Int) (b:Ev.β),now.length≤n+1→now.length≤1000→
   (YList Ev.Y ((levelsF n now).map itemL) b fun b'=>∀z:List (List Dv),Q (.exit 2) ⟨tmLb (.d (.sl 1 z)), [],b'⟩)→WR Ev lpLb (n+1) ⟨tmLb (.d (.sl 1 (digR now))), [],b⟩ Q
 | 0,now,b,hn,hl,h=>by
   refine WR.ofMask [0,3] mixed (CX.Ok.ofWl (wl:=wlLr) (u:=false) TLv_ok Zaf wlLr_ok) (k:=100) ?_
   show wpc _ _ _ _ _ _ _ (maskK 0 _ _)
   rw [lb_round]
   refine Ev.Ymono h fun c b' h=> ?_
   have h':∀z:List (List Dv),Q (.exit 2) ⟨tmLb (.d (.sl 1 z)), [],b'⟩:=by cases c<;>exact h
   cases c with
   |true=>exact Zbt rfl (Zea (by simp [digR_len];omega) (h' _))
   |false=>exact Zea rfl (h' _)
 | n+1,now,b,hn,hl,h=>by
   refine WR.ofMask [0,3] mixed (CX.Ok.ofWl (wl:=wlLr) (u:=false) TLv_ok Zaf wlLr_ok) (k:=100) ?_
   show wpc _ _ _ _ _ _ _ (maskK 0 _ _)
   rw [lb_round]
   by_cases h1:1<now.length
   · rw [levelsF,if_pos h1,Zck] at h
     refine Ev.Ymono h fun c b' h=> ?_
     cases c with
     | true=>
       have:=(nextL_len now).2 h1
       exact Zbt rfl (Zbt (by simp [digR_len];omega) ⟨_,rfl,now,_,rfl,rfl,rfl,⟨hl,rfl⟩,wrLb n (nextL now) b' (by omega) (by omega) h⟩)
     |false=>exact Zea rfl (h _)
   · rw [levelsF,if_neg h1] at h
     refine Ev.Ymono h fun c b' h=> ?_
     have h':∀z:List (List Dv),Q (.exit 2) ⟨tmLb (.d (.sl 1 z)), [],b'⟩:=by cases c<;>exact h
     cases c with
     |true=>exact Zbt rfl (Zea (by simp [digR_len];omega) (h' _))
     |false=>exact Zea rfl (h' _)
def wl76 {β:Type} (y:YieldT β):WLT β:=fun c tm hp b K=>match cidO c with
 |3=>∃(ps:List (List Int)) (q:List Int),c= .loop lpLa∧maskTm [0,1,3,8,9,10] 0 tm=tmLa nilV (partsR ps) (partsR ps).length 0∧hp= []∧((ps.length≤1000∧∀p∈ps,p.length≤9223372036854775807)∧q=ps.map leafS)∧K (.exit 0) (tmLa (.own 22 1 (digR q)) (partsR ps) (partsR ps).length (partsR ps).length) [] b
 |7=>∃(now:List Int),c= .loop lpLb∧maskTm [0,3] 0 (tm.map AV.view)=tmLb (.d (.sl 1 (digR now)))∧hp= []∧now.length≤1000∧YList y ((levelsF now.length now).map itemL) b fun b'=>∀z:List (List Dv),K (.exit 2) (tmLb (.d (.sl 1 z))) [] b'
 |_=>False
theorem map_view_le:∀l:List AV,LeL l (l.map AV.view)
 | []=> .nil
 |x::l=> .cons LeA.view (map_view_le l)
theorem wl76_ok {Ev:Env prog} (c:Code) (tm:List AV) (hp:List Blk) (b:Ev.β) (K:Exit→List AV→List Blk→Ev.β→Prop) (h:wl76 Ev.Y c tm hp b K):W Ev c ⟨tm,hp,b⟩ (fun e s=>K e s.tm s.hp s.b):=by
 unfold wl76 at h
 split at h
 · obtain ⟨ps,q,rfl,htm,rfl,⟨⟨hl,hp⟩,rfl⟩,hK⟩:=h
   rw [partsR_len] at htm hK
   refine W.cast (htm▸maskTm_le _ tm 0) (Zco _) ?_
   refine W.cast (tm':=tmLa (.own 22 1 (digR [])) (partsR ps) ps.length 0) (LeL.at [_,_,_] _ (LeA.nilOwn rfl)) (Zco _) ?_
   exact W.rounds (wrLa (Q:=fun e s=>K e s.tm s.hp s.b) ps hl hp ps 0 [] rfl (Nat.zero_le _) (Nat.zero_le _) hK)
 · obtain ⟨now,rfl,htm,rfl,hl,hK⟩:=h
   refine W.cast (map_view_le _) (Zco _) ?_
   refine W.cast (htm▸maskTm_le _ _ 0) (Zco _) ?_
   exact W.rounds (wrLb (Q:=fun e s=>K e s.tm s.hp s.b) now.length now b (by omega) hl hK)
 · exact h.elim
theorem f76_nf (ps:List (List Dv)):wpc prog ⟨TLv, [],wl76 y,y,false⟩ 100 (code f191) (startTm f191 [.yl, .rptr [.sl 1 ps]]) [] b (fnK prog f191 fun _ b=>Q b)=(
 ∃ (ps0:List (List Int)) (q1:List Int),Zbq lpLa= .loop lpLa∧tmLa nilV ps ps.length 0=tmLa nilV (partsR ps0) (partsR ps0).length 0∧([]:List Blk)= []∧((ps0.length≤1000∧∀p∈ps0,p.length≤9223372036854775807)∧q1=ps0.map leafS)∧
   ∃(now2:List Int),Zbq lpLb= .loop lpLb∧tmLb (.d (.sl 1 (digR q1)))=tmLb (.d (.sl 1 (digR now2)))∧([]:List Blk)= []∧now2.length≤1000∧YList y ((levelsF now2.length now2).map itemL) b fun b'=>∀_:List (List Dv),Q b'):=by kernel_rfl
theorem levels_nf (ps:List (List Dv)):wpFn prog ⟨[], [],wl,y,false⟩ 100 f146 [.d (.sl 1 ps)] b R=R (.fn (.func 191) [] [.rptr [.sl 1 ps]]) b:=by kernel_rfl
def levelsS (ps:List (List Int)):List (List Int):=levelsF (ps.map leafS).length (ps.map leafS)
set_option maxRecDepth 100000 in
theorem ic76 (ps:List (List Int)) (hl:ps.length≤1000) (hp:∀p∈ps,p.length≤9223372036854775807):ICall prog 191 [.yl, .rptr [.sl 1 (partsR ps)]] (fun Y b Q=>YList Y ((levelsS ps).map itemL) b Q):=by
 refine ICall.ofW (c:=code f191) func191 rfl rfl fun Ev b Q h=> ?_
 have h1:wpc prog ⟨TLv, [],wl76 Ev.Y,Ev.Y,false⟩ 100 (code f191) (startTm f191 [.yl, .rptr [.sl 1 (partsR ps)]]) [] b (fnK prog f191 fun _ b=>Q b):=by
   rw [f76_nf]
   exact ⟨ps,_,rfl,rfl,rfl,⟨⟨hl,hp⟩,rfl⟩,_,rfl,rfl,rfl,by simpa using hl,YList.mono (fun b h _=>h) _ _ h⟩
 refine wpc_sound mixed (CX.Ok.ofWl (wl:=wl76 Ev.Y) (u:=false) TLv_ok Zaf wl76_ok) h1 fun e tm hp b hK=> ?_
 obtain ⟨g1,ys,g2,z,g3,g4⟩:=fnK_sound hK
 exact ⟨g1,ys,g2,g4⟩
def cLevels (args:List AV) (K:AV→Prop):Prop:=∃(ps:List (List Dv)),args= [.d (.sl 1 ps)]∧K (.fn (.func 191) [] [.rptr [.sl 1 ps]])
theorem cLevels_ok:∀args K,cLevels args K→∃x,PCall prog 146 args x∧K x:=by
 rintro _ K ⟨ps,rfl,h⟩
 refine ⟨_,Zbi (n:=100) (u:=false) mixed Zaj Zaf func146 (by rfl) (by rfl) fun Ev bb=> ?_,h⟩
 rw [levels_nf]
def TRt:List (Nat×(List AV→(AV→Prop)→Prop)):= [(145,cArePages),(146,cLevels)]
theorem TRt_ok:CallsOk prog TRt:=Zag cArePages_ok (Zag cLevels_ok Zaj)
noncomputable def rfRt:Code:=sub [1,1,1,0,1,2] (code f84)
theorem rfRt_shape:rfRt= .rangeFunc (.tmp 10) #[11] (assignOf rfRt) (bodyOf rfRt):=by kernel_rfl
def tmRt (ps:List (List Dv)):List AV:= [.bad, .bad, .bad, .bad, .ptr 0 0]++Zad 5 .bad++ [.fn (.func 191) [] [.rptr [.sl 1 ps]]]++Zad 5 .bad
noncomputable def rfPr:Code:=sub [1,1,1,0,1,2] (code f87)
theorem rfPr_shape:rfPr= .rangeFunc (.tmp 23) #[24] (assignOf rfPr) (bodyOf rfPr):=by kernel_rfl
def tmPrI (ps:List (List Dv)):List AV:= [.bad, .bad, .bad, .ptr 0 0, .bad, .bad, .ptr 1 0]++Zad 16 .bad++ [.fn (.func 191) [] [.rptr [.sl 1 ps]]]++Zad 17 .bad
def sibB (v:Int):Int:=Zaa Zax ↑(BitVec.toNat (Zao 64 v ^^^ Zao 64 1))
theorem rt_round (ps x:List (List Dv)) (v:Int):wpcY prog ⟨[], [],wl,y,false⟩ 100 #[11] (assignOf rfRt) (bodyOf rfRt) (tmRt ps) [.d (.sl 1 x)] [cellV (.d (u64 v))] b (takeK 1 Kh)=(
 ∃(x0:Int),x[0]? =some [u64 x0]∧Kh .normal [cellV (.d (u64 x0))] b):=by kernel_rfl
theorem pr_round (ps x xs:List (List Dv)) (v:Int):wpcY prog ⟨[], [],wl,y,false⟩ 100 #[24] (assignOf rfPr) (bodyOf rfPr) (tmPrI ps) [.d (.sl 1 x)] [cellV (.d (i64 v)),cellV (.own 22 1 xs)] b (takeK 2 Kh)=(
 BIf (decide (sibB v<(x.length:Int))) (BIf (true&&decide (0≤sibB v)) (∃(x0:Int),x[Zat (sibB v)]? =some [u64 x0]∧BIf (true&&decide ((xs.length+1)*8≤140737488355328)) (Kh .normal [cellV (.d (i64 (Zaa .i64 (Int.tdiv v 2)))),cellV (.own 22 1 (xs++ [[u64 x0]]))] b) False) False)
   (Kh .normal [cellV (.d (i64 (Zaa .i64 (Int.tdiv v 2)))),cellV (.own 22 1 xs)] b)):=by kernel_rfl
def sibN (k:Nat):Nat:=if k % 2=0 then k+1 else k - 1
theorem sibB_nat {k:Nat} (h:k<1000000):sibB (k:Int)=((sibN k:Nat):Int):=by
 have e1:(Zao 64 (k:Int) ^^^ Zao 64 1).toNat=k ^^^ 1:=by
   rw [BitVec.toNat_xor,show Zao 64 (k:Int)=BitVec.ofNat 64 k by simp,BitVec.toNat_ofNat,Nat.mod_eq_of_lt (by omega)];rfl
 have h1:(k ^^^ 1) / 2=k / 2:=by rw [Nat.xor_div_two];simp
 have e2:(k ^^^ 1).testBit 0=(k.testBit 0 ^^ (1:Nat).testBit 0):=Nat.testBit_xor ..
 rw [Nat.testBit_zero,Nat.testBit_zero,Nat.testBit_zero] at e2
 have h2:(k ^^^ 1) % 2=(k+1) % 2:=by
   rcases Nat.mod_two_eq_zero_or_one k with h|h<;>rcases Nat.mod_two_eq_zero_or_one (k ^^^ 1) with h'|h'<;>simp [h,h'] at e2<;>omega
 have h3:k ^^^ 1=sibN k:=by unfold sibN;split<;>omega
 have h4:sibN k≤k+1:=by unfold sibN;split<;>omega
 rw [sibB,e1,h3,wrap_i64 (by omega) (by omega)]
theorem levelsF_len:∀(n:Nat) (now:List Int),(levelsF n now).length≤n+1
 |0,now=>by simp [levelsF]
 | n+1,now=>by
   rw [levelsF];split
   · simp [levelsF_len n (nextL now)]
   · simp
theorem levelsS_len (ps:List (List Int)):(levelsS ps).length≤ps.length+1:=by
 have:=levelsF_len (ps.map leafS).length (ps.map leafS)
 rw [List.length_map] at this
 unfold levelsS;rw [List.length_map];exact this
theorem nextL_ne:∀ {l:List Int},l≠ []→nextL l≠ []
 | [],h=>(h rfl).elim
 | [a],h=>by simp [nextL]
 |a::c::l,h=>by simp [nextL]
theorem levelsF_ne:∀(n:Nat) (now:List Int),now≠ []→∀l∈levelsF n now,l≠ []
 |0,now,h=>by simpa [levelsF] using h
 | n+1,now,h=>by
   rw [levelsF];split
   · intro l hl
     rcases Zcp.1 hl with rfl|hl
     · exact h
     · exact levelsF_ne n _ (nextL_ne h) l hl
   · simpa using h
theorem levelsS_ne {ps:List (List Int)} (h:ps≠ []):∀l∈levelsS ps,l≠ []:=levelsF_ne _ _ (by simpa using h)
def lastS:List (List Int)→Int→Int
 | [],v=>v
 |l::ls,_=>lastS ls (nth l 0)
theorem rangeRt {Ev:Env prog} {b:Ev.β} {Q:Exit→St Ev.β→Prop} (ps:List (List Dv)):∀(ls:List (List Int)) (v:Int),(∀l∈ls,l≠ [])→Q .normal ⟨tmRt ps, [cellV (.d (u64 (lastS ls v)))],b⟩→
   YList (YBody Ev (tmRt ps) #[11] (assignOf rfRt) (bodyOf rfRt) 1) (ls.map itemL) ([cellV (.d (u64 v))],b,none) (rangeQ (tmRt ps) Q)
 | [],v,hn,h=>h
 | l::ls,v,hn,h=>by
   rw [Zck]
   refine YList.step (X:=⟨[], [],wlW Ev,Ev.Y,false⟩) (k:=100) mixed (CX.Ok.of Zaj Zaf) rfl ?_
   show wpcY _ _ _ _ _ _ _ [.d (.sl 1 (digR l))] [cellV _] b (takeK 1 _)
   rw [rt_round]
   have h0:0<l.length:=List.length_pos_iff.2 (hn l Zay)
   exact ⟨nth l 0,digs_at h0,rangeRt ps ls (nth l 0) (fun l hl=>hn l (Zaw _ hl)) h⟩
def proofF:List (List Int)→Nat→List Int
 | [],_=> []
 |l::ls,k=>(if sibN k<l.length then [nth l (sibN k)] else [])++proofF ls (k / 2)
theorem rangePr {Ev:Env prog} {b:Ev.β} {Q:Exit→St Ev.β→Prop} (ps:List (List Dv)):∀(ls:List (List Int)) (k:Nat) (acc:List Int),k<1000000→acc.length+ls.length≤100000→
   (∀z:Int,Q .normal ⟨tmPrI ps, [cellV (.d (i64 z)),cellV (.own 22 1 (digR (acc++proofF ls k)))],b⟩)→
   YList (YBody Ev (tmPrI ps) #[24] (assignOf rfPr) (bodyOf rfPr) 2) (ls.map itemL) ([cellV (.d (i64 k)),cellV (.own 22 1 (digR acc))],b,none) (rangeQ (tmPrI ps) Q)
 | [],k,acc,hk,hl,h=>by
   have h:=h k
   rw [proofF,List.append_nil] at h;exact h
 | l::ls,k,acc,hk,hl,h=>by
   rw [Zck]
   refine YList.step (X:=⟨[], [],wlW Ev,Ev.Y,false⟩) (k:=100) mixed (CX.Ok.of Zaj Zaf) rfl ?_
   show wpcY _ _ _ _ _ _ _ [.d (.sl 1 (digR l))] [cellV _,cellV _] b (takeK 2 _)
   rw [pr_round,sibB_nat hk,digR_len,show Int.tdiv (k:Int) 2=((k / 2:Nat):Int) from rfl,wrap_i64 (by omega) (by omega)]
   simp only [List.length_cons] at hl
   refine Zar (fun h1=> ?_) fun h1=> ?_
   · have h2:sibN k<l.length:=by simp at h1;omega
     refine Zbt (by simp) ⟨nth l (sibN k),by rw [Zba];exact digs_at h2,Zbt (by simp [digR_len];omega) ?_⟩
     rw [digs_app]
     refine rangePr ps ls (k / 2) (acc++ [nth l (sibN k)]) (by omega) (by simp;omega) ?_
     rw [proofF,if_pos h2] at h
     rw [Zcl];exact h
   · have h2:¬sibN k<l.length:=by simp at h1;omega
     refine rangePr ps ls (k / 2) acc (by omega) (by omega) ?_
     rw [proofF,if_neg h2,List.nil_append] at h
     exact h
def wlRt {β:Type}:WLT β:=fun c tm hp b K=>∃(ps:List (List Int)) (v q:Int),c=rfRt∧maskTm [4,10] 0 tm=tmRt (partsR ps)∧hp= [cellV (.d (u64 v))]∧((ps.length≤1000∧ps≠ []∧∀p∈ps,p.length≤9223372036854775807)∧q=lastS (levelsS ps) v)∧K .normal (tmRt (partsR ps)) [cellV (.d (u64 q))] b
theorem wlRt_ok {Ev:Env prog} (c:Code) (tm:List AV) (hp:List Blk) (b:Ev.β) (K:Exit→List AV→List Blk→Ev.β→Prop) (h:wlRt c tm hp b K):W Ev c ⟨tm,hp,b⟩ (fun e s=>K e s.tm s.hp s.b):=by
 obtain ⟨ps,v,q,rfl,htm,rfl,⟨⟨hl,h0,hp⟩,rfl⟩,hK⟩:=h
 refine W.cast (htm▸maskTm_le _ tm 0) (Zco _) ?_
 rw [rfRt_shape]
 exact W.range (s:=⟨tmRt (partsR ps),_,b⟩) (k:=191) (first:= []) (caps:= [.rptr [.sl 1 (partsR ps)]]) rfl rfl rfl (ic76 ps hl hp) (rangeRt (partsR ps) (levelsS ps) v (levelsS_ne h0) hK)
def wlPrI {β:Type}:WLT β:=fun c tm hp b K=>∃(ps:List (List Int)) (k:Nat) (q:List Int),c=rfPr∧maskTm [3,6,23] 0 tm=tmPrI (partsR ps)∧hp= [cellV (.d (i64 k)),cellV nilV]∧((ps.length≤1000∧k<1000000∧∀p∈ps,p.length≤9223372036854775807)∧q=proofF (levelsS ps) k)∧∀z:Int,K .normal (tmPrI (partsR ps)) [cellV (.d (i64 z)),cellV (.own 22 1 (digR q))] b
theorem wlPr_okI {Ev:Env prog} (c:Code) (tm:List AV) (hp:List Blk) (b:Ev.β) (K:Exit→List AV→List Blk→Ev.β→Prop) (h:wlPrI c tm hp b K):W Ev c ⟨tm,hp,b⟩ (fun e s=>K e s.tm s.hp s.b):=by
 obtain ⟨ps,k,q,rfl,htm,rfl,⟨⟨hl,h0,hp⟩,rfl⟩,hK⟩:=h
 refine W.cast (htm▸maskTm_le _ tm 0) (hp':= [cellV (.d (i64 k)),cellV (.own 22 1 (digR []))]) (.cons (.cons LeA.rfl .nil) (.cons (.cons (LeA.nilOwn rfl) .nil) .nil)) ?_
 rw [rfPr_shape]
 have:=levelsS_len ps
 exact W.range (s:=⟨tmPrI (partsR ps),_,b⟩) (k:=191) (first:= []) (caps:= [.rptr [.sl 1 (partsR ps)]]) rfl rfl rfl (ic76 ps hl hp) (rangePr (partsR ps) (levelsS ps) k [] h0 (by simp;omega) hK)
def rootS (ps:List (List Int)):Int×Int:=if areS ps then (lastS (levelsS ps) 0,0) else (0,1)
def proofS (ps:List (List Int)) (i:Int):List Int×Int:=if areS ps&& !decide (i<0)&& !decide (i≥ps.length) then (proofF (levelsS ps) i.toNat,0) else ([],1)
theorem areS_ok {ps:List (List Int)} (h:areS ps=true):ps.length≤16∧ps≠ []∧∀p∈ps,p.length≤256:=by
 simp [areS,anyLong] at h
 obtain ⟨h1,h2,h3⟩:=h
 refine ⟨by omega,fun h=>by simp [h] at h1,fun p hp=> ?_⟩
 have:=h3 p hp
 omega
theorem root_nf (ps:List (List Dv)):wpFn prog ⟨TRt, [],wlRt,y,false⟩ 100 f84 [.d (.sl 1 ps)] b R=(
 ∃ (ps0:List (List Int)) (z1:Bool), [Zae (.sl 1 ps)]= [.d (.sl 1 (partsR ps0))]∧z1=areS ps0∧BIf (!z1) (R (.tup [.d (u64 0), .d (i64 1)]) b) (∃(ps2:List (List Dv)), [Zae (.sl 1 ps)]= [.d (.sl 1 ps2)]∧∃(ps3:List (List Int)) (v4 q5:Int),rfRt=rfRt∧
   tmRt ps2=tmRt (partsR ps3)∧ [cellV (.d (u64 0))]= [cellV (.d (u64 v4))]∧((ps3.length≤1000∧ps3≠ []∧∀p∈ps3,p.length≤9223372036854775807)∧q5=lastS (levelsS ps3) v4)∧R (.tup [.d (u64 q5), .d (i64 0)]) b)):=by kernel_rfl
theorem proof_nf (ps:List (List Dv)) (i:Int):wpFn prog ⟨TRt, [],wlPrI,y,false⟩ 100 f87 [.d (.sl 1 ps), .d (i64 i)] b R=(
 ∃ (ps0:List (List Int)) (z1:Bool), [Zae (.sl 1 ps)]= [.d (.sl 1 (partsR ps0))]∧z1=areS ps0∧BIf (!z1) (R (.tup [nilV, .d (i64 1)]) b) (BIf (decide (i<0)) (R (.tup [nilV, .d (i64 1)]) b) (BIf (decide (i≥(ps.length:Int))) (R (.tup [nilV, .d (i64 1)]) b)
   (∃(ps2:List (List Dv)), [Zae (.sl 1 ps)]= [.d (.sl 1 ps2)]∧∃(ps3:List (List Int)) (k4:Nat) (q5:List Int),rfPr=rfPr∧tmPrI ps2=tmPrI (partsR ps3)∧ [cellV (.d (i64 i)),cellV nilV]= [cellV (.d (i64 k4)),cellV nilV]∧
     ((ps3.length≤1000∧k4<1000000∧∀p∈ps3,p.length≤9223372036854775807)∧q5=proofF (levelsS ps3) k4)∧∀_:Int,R (.tup [.d (.sl 1 (digR q5)), .d (i64 0)]) b)))):=by kernel_rfl
theorem pcRoot (ps:List (List Int)):PCall prog 84 [.d (.sl 1 (partsR ps))] (.tup [.d (u64 (rootS ps).1), .d (i64 (rootS ps).2)]):=by
 refine PCall.ofFnW (n:=100) (u:=false) (fun _=>wlRt) mixed TRt_ok Zaf (fun Ev=>wlRt_ok) func84 (by rfl) (by rfl) fun Ev bb=> ?_
 rw [root_nf]
 refine ⟨ps,_,rfl,rfl,Zar (fun h=> ?_) fun h=> ?_⟩
 · have h:areS ps=false:=by simpa using h
   rw [rootS,if_neg (by rw [h];simp)]
 · have h:areS ps=true:=by simpa using h
   obtain ⟨h1,h2,h3⟩:=areS_ok h
   rw [rootS,if_pos h]
   exact ⟨_,rfl,ps,0,_,rfl,rfl,rfl,⟨⟨by omega,h2,fun p hp=>by have:=h3 p hp;omega⟩,rfl⟩,rfl⟩
def cRoot (args:List AV) (K:AV→Prop):Prop:=∃(ps:List (List Int)) (z:Int×Int),args= [.d (.sl 1 (partsR ps))]∧z=rootS ps∧K (.tup [.d (u64 z.1), .d (i64 z.2)])
theorem cRoot_ok:∀args K,cRoot args K→∃x,PCall prog 84 args x∧K x:=by
 rintro _ K ⟨ps,_,rfl,rfl,h⟩;exact ⟨_,pcRoot ps,h⟩
theorem pcProof (ps:List (List Int)) (i:Int):PCall prog 87 [.d (.sl 1 (partsR ps)), .d (i64 i)] (.tup [.d (.sl 1 (digR (proofS ps i).1)), .d (i64 (proofS ps i).2)]):=by
 refine PCall.ofFnV (n:=100) (u:=false) (fun _=>wlPrI) mixed TRt_ok Zaf (fun Ev=>wlPr_okI) func87 (by rfl) (by rfl) fun Ev bb=> ?_
 rw [proof_nf,partsR_len]
 have hn:LeV (.tup [nilV, .d (i64 1)]) (.tup [.d (.sl 1 (digR [])), .d (i64 1)]):= .tups (.cons (.nil rfl) (.cons .rfl .nil))
 refine ⟨ps,_,rfl,rfl,Zar (fun h=> ?_) fun h=>Zar (fun g=> ?_) fun g=>Zar (fun f=> ?_) fun f=> ?_⟩
 · have h:areS ps=false:=by simpa using h
   rw [proofS,if_neg (by rw [h];simp)];exact hn
 · rw [proofS,if_neg (by rw [g];simp)];exact hn
 · rw [proofS,if_neg (by rw [f];simp)];exact hn
 · have h:areS ps=true:=by simpa using h
   obtain ⟨h1,h2,h3⟩:=areS_ok h
   rw [proofS,if_pos (by rw [h,g,f];rfl)]
   simp at g f
   obtain ⟨k,rfl⟩:=Int.eq_ofNat_of_zero_le g
   exact ⟨_,rfl,ps,k,_,rfl,rfl,rfl,⟨⟨by omega,by omega,fun p hp=>by have:=h3 p hp;omega⟩,rfl⟩,fun _=> .rfl⟩
def cProof (args:List AV) (K:AV→Prop):Prop:=∃(ps:List (List Int)) (i:Int) (z:List Int×Int),args= [.d (.sl 1 (partsR ps)), .d (i64 i)]∧z=proofS ps i∧K (.tup [.d (.sl 1 (digR z.1)), .d (i64 z.2)])
theorem cProof_ok:∀args K,cProof args K→∃x,PCall prog 87 args x∧K x:=by
 rintro _ K ⟨ps,i,_,rfl,rfl,h⟩;exact ⟨_,pcProof ps i,h⟩
noncomputable def lpWk:Code:=sub [2,3] (code f230)
def tmWk:List AV:= [.yl, .ptr 0 0, .ptr 1 0]++Zad 18 .bad
def cellN (x:Int):Blk:=cellV (.d (i64 x))
section
variable {β:Type} (wl:WLT β) (y:YieldT β) (b:β) (K:Exit→List AV→List Blk→β→Prop) (R:AV→List Blk→β→Prop)
theorem wk_round (x k:Int):wpc prog ⟨[], [],wl,y,false⟩ 100 lpWk tmWk [cellN x,cellN k] b (maskT [0,1,2] K)=(
 BIf (decide (x>1)) (y b [.d (bo (decide (sibB k<x))), .d (bo (Int.tmod k 2==1))] fun (c:Bool) (b1:β)=>BIf (!c) (K .ret tmWk [cellN x,cellN k] b1)
   (K .normal tmWk [cellN (Zaa .i64 (Int.tdiv (Zaa .i64 (x+1)) 2)),cellN (Zaa .i64 (Int.tdiv k 2))] b1)) (K (.exit 0) tmWk [cellN x,cellN k] b)):=by kernel_rfl
theorem walk_nf (x k:Int):wpFnS prog ⟨[], [],wl,y,false⟩ 100 f214 [.d (i64 x), .d (i64 k)] b R=R (.fn (.func 230) [] [.ptr 0 0, .ptr 1 0]) [cellN x,cellN k] b:=by kernel_rfl
end
def walkP:Nat→Nat→Nat→List (Bool×Bool)
 |0,_,_=> []
 |n+1,w,k=>if 1<w then (decide (sibN k<w),k % 2==1)::walkP n ((w+1) / 2) (k / 2) else []
def walkS (w k:Nat):List (Bool×Bool):=walkP w w k
def itemK (p:Bool×Bool):List AV:= [.d (bo p.1), .d (bo p.2)]
theorem wrWk {Ev:Env prog} {Q:Exit→St Ev.β→Prop}:∀(n w k:Nat) (b:Ev.β),w≤n+1→w<1000000→k<1000000→
   (YList Ev.Y ((walkP n w k).map itemK) b fun b'=>∀z t:Int,Q (.exit 0) ⟨tmWk, [cellN z,cellN t],b'⟩∧Q .ret ⟨tmWk, [cellN z,cellN t],b'⟩)→WR Ev lpWk (n+1) ⟨tmWk, [cellN w,cellN k],b⟩ Q
 | 0,w,k,b,hn,hw,hk,h=>by
   refine Zdk [0,1,2] mixed (CX.Ok.of (u:=false) Zaj Zaf) (k:=100) ?_
   rw [wk_round]
   exact Zea (by simp;omega) (h _ _).1
 | n+1,w,k,b,hn,hw,hk,h=>by
   refine Zdk [0,1,2] mixed (CX.Ok.of (u:=false) Zaj Zaf) (k:=100) ?_
   rw [wk_round]
   by_cases h1:1<w
   · rw [walkP,if_pos h1,Zck] at h
     refine Zbt (by simp;omega) ?_
     have e1:decide (sibB (k:Int)<(w:Int))=decide (sibN k<w):=by rw [sibB_nat hk];simp
     have e2:(Int.tmod (k:Int) 2==1)=(k % 2==1):=by
       rw [show Int.tmod (k:Int) 2=((k % 2:Nat):Int) from rfl]
       rcases Nat.mod_two_eq_zero_or_one k with h|h<;>rw [h]<;>rfl
     rw [e1,e2]
     refine Ev.Ymono h fun c b' h=> ?_
     cases c with
     | true=>
       refine Zea rfl ?_
       rw [wrap_i64 (x:=(w:Int)+1) (by omega) (by omega),show Int.tdiv ((w:Int)+1) 2=(((w+1) / 2:Nat):Int) from rfl,show Int.tdiv (k:Int) 2=((k / 2:Nat):Int) from rfl,wrap_i64 (by omega) (by omega),wrap_i64 (by omega) (by omega)]
       exact wrWk n ((w+1) / 2) (k / 2) b' (by omega) (by omega) (by omega) h
     |false=>exact Zbt rfl (h _ _).2
   · rw [walkP,if_neg h1] at h
     exact Zea (by simp;omega) (h _ _).1
def wlWk {β:Type} (y:YieldT β):WLT β:=fun c tm hp b K=>∃(w k:Nat),c= .loop lpWk∧maskTm [0,1,2] 0 tm=tmWk∧hp= [cellN w,cellN k]∧(w<1000000∧k<1000000)∧YList y ((walkS w k).map itemK) b fun b'=>∀z t:Int,K (.exit 0) tmWk [cellN z,cellN t] b'∧K .ret tmWk [cellN z,cellN t] b'
theorem wlWk_ok {Ev:Env prog} (c:Code) (tm:List AV) (hp:List Blk) (b:Ev.β) (K:Exit→List AV→List Blk→Ev.β→Prop) (h:wlWk Ev.Y c tm hp b K):W Ev c ⟨tm,hp,b⟩ (fun e s=>K e s.tm s.hp s.b):=by
 obtain ⟨w,k,rfl,htm,rfl,⟨hw,hk⟩,hK⟩:=h
 refine W.cast (htm▸maskTm_le _ tm 0) (Zco _) ?_
 exact W.rounds (wrWk (Q:=fun e s=>K e s.tm s.hp s.b) w w k b (by omega) hw hk hK)
theorem f92_nf (x k:Int):wpc prog ⟨[], [],wlWk y,y,false⟩ 100 (code f230) (startTm f230 [.yl, .ptr 0 0, .ptr 1 0]) [cellN x,cellN k] b (fnK prog f230 fun _ b=>Q b)=(
 ∃(w' k':Nat),Zbq lpWk= .loop lpWk∧tmWk=tmWk∧ [cellN x,cellN k]= [cellN w',cellN k']∧(w'<1000000∧k'<1000000)∧YList y ((walkS w' k').map itemK) b fun b'=>∀_ _:Int,Q b'∧Q b'):=by kernel_rfl
set_option maxRecDepth 100000 in
theorem ic92 (w k:Nat) (hw:w<1000000) (hk:k<1000000):ICallBs prog 230 (.yl::ptrsFrom 0 2) [cellN w,cellN k] (fun Y b Q=>YList Y ((walkS w k).map itemK) b Q):=by
 refine ICallBs.ofW (c:=code f230) func230 rfl rfl fun Ev b Q h=> ?_
 have h1:wpc prog ⟨[], [],wlWk Ev.Y,Ev.Y,false⟩ 100 (code f230) (startTm f230 [.yl, .ptr 0 0, .ptr 1 0]) [cellN w,cellN k] b (fnK prog f230 fun _ b=>Q b):=by
   rw [f92_nf]
   exact ⟨w,k,rfl,rfl,rfl,⟨hw,hk⟩,YList.mono (fun b h _ _=>⟨h,h⟩) _ _ h⟩
 refine wpc_sound mixed (CX.Ok.ofWl (wl:=wlWk Ev.Y) (u:=false) Zaj Zaf wlWk_ok) h1 fun e tm hp b hK=> ?_
 obtain ⟨g1,ys,g2,z,g3,g4⟩:=fnK_sound hK
 exact ⟨g1,ys,g2,g4⟩
theorem fcWalk (x k:Int):FCall prog 214 [.d (i64 x), .d (i64 k)] (.fn (.func 230) [] [.ptr 0 0, .ptr 1 0]) [cellN x,cellN k]:=by
 refine FCall.ofFnW (n:=100) (u:=false) (fun _=>fun _ _ _ _ _=>False) mixed Zaj Zaf (fun Ev _ _ _ _ _ h=>h.elim) func214 (by rfl) (by rfl) (by rfl) fun Ev bb=> ?_
 rw [walk_nf]
 exact ⟨rfl,rfl⟩
def sWalk (args:List AV) (hp:List Blk) (K:AV→List Blk→Prop):Prop:=∃(x k:Int),args= [.d (i64 x), .d (i64 k)]∧K (.fn (.func 230) [] [.ptr hp.length 0, .ptr (hp.length+1) 0]) (hp++ [cellN x,cellN k])
theorem sWalk_ok:∀args hp K,sWalk args hp K→∃x hp',SCall prog 214 args hp x hp'∧K x hp':=by
 rintro _ hp K ⟨x,k,rfl,h⟩
 exact ⟨_,_,(fcWalk x k).toS rfl hp,by simpa [shift,shifts,shiftH,shiftB,cellN,cellV,Nat.add_comm] using h⟩
def SCk:List (Nat×(List AV→List Blk→(AV→List Blk→Prop)→Prop)):= [(214,sWalk)]
theorem SCk_ok:SCallsOk prog SCk:=Zcc sWalk_ok Zaf
noncomputable def rfCk:Code:=sub [1,1,1,0,1,2] (code f177)
theorem rfCk_shape:rfCk= .rangeFunc (.tmp 41) #[42,43] (assignOf rfCk) (bodyOf rfCk):=by kernel_rfl
theorem f71_shape:code f177= .seq (sub [0] (code f177)) (.seq (sub [1,0] (code f177)) (.seq (sub [1,1,0] (code f177)) (.seq (.seq (sub [1,1,1,0,0] (code f177)) (.block 0 rfCk)) (sub [1,1,1,1] (code f177))))):=by kernel_rfl
def tmCa (r n i:Int) (p q:List (List Dv)):List AV:= [.d (u64 r), .d (i64 n), .d (i64 i), .d (.sl 1 p), .d (.sl 1 q), .bad, .bad, .bad, .bad, .ptr 0 0, .ptr 1 0]++Zad 58 .bad
def tmCb (r n i:Int):List AV:= [.d (u64 r), .d (i64 n), .d (i64 i), .bad, .bad, .bad, .bad, .bad, .bad, .ptr 0 0, .ptr 1 0, .ptr 2 0]++Zad 57 .bad
def tmCc (r:Int):List AV:= [.d (u64 r), .bad, .bad, .bad, .bad, .bad, .bad, .bad, .bad, .ptr 0 0, .ptr 1 0, .ptr 2 0]++Zad 29 .bad++ [.fn (.func 230) [] [.ptr 3 0, .ptr 4 0]]++Zad 27 .bad
def ckH (q:List (List Dv)) (z:Bool) (s:Int):List Blk:= [cellV (.d (.sl 1 q)),cellV (.d (bo z)),cellV (.d (u64 s))]
def ckH2 (q:List (List Dv)):List Blk:= [cellV (.d (.sl 1 q)),cellV (.d (bo false))]
theorem ck_a (r n i:Int) (p q:List (List Dv)):wpc prog ⟨[], [],wl,y,false⟩ 100 (sub [0] (code f177)) (startTm f177 [.d (u64 r), .d (i64 n), .d (i64 i), .d (.sl 1 p), .d (.sl 1 q)]) [] b K=K .normal (tmCa r n i p q) (ckH2 q) b:=by kernel_rfl
theorem ck_b (r n i:Int) (p q:List (List Dv)):wpc prog ⟨[], [],wl,y,false⟩ 100 (sub [1,0] (code f177)) (tmCa r n i p q) (ckH2 q) b (maskT [0,1,2,3,4,9,10] K)=(
 BIf (decide (n<1)) (K .ret (tmCa r n i p q) (ckH2 q) b) (BIf (decide (n>16)) (K .ret (tmCa r n i p q) (ckH2 q) b) (BIf (decide (i<0)) (K .ret (tmCa r n i p q) (ckH2 q) b) (BIf (decide (i≥n)) (K .ret (tmCa r n i p q) (ckH2 q) b)
   (BIf (decide ((p.length:Int)>256)) (K .ret (tmCa r n i p q) (ckH2 q) b) (K .normal (tmCa r n i p q) (ckH2 q) b)))))):=by kernel_rfl
theorem ck_c (r n i:Int) (p q:List (List Dv)):wpc prog ⟨TLv, [],wl,y,false⟩ 100 (sub [1,1,0] (code f177)) (tmCa r n i p q) (ckH2 q) b (maskT [0,1,2,9,10,11] K)=(
 ∃(p0:List Int) (z1:Int), [AV.full 1 [[.sl 1 p]]]= [.full 1 [[.sl 1 (bytesR p0)]]]∧(p0.length≤9223372036854775807∧z1=leafS p0)∧K .normal (tmCb r n i) (ckH q false z1) b):=by kernel_rfl
theorem ck_d (r n i s:Int) (q:List (List Dv)):wpc prog ⟨TLv,SCk,wl,y,false⟩ 100 (sub [1,1,1,0,0] (code f177)) (tmCb r n i) (ckH q false s) b (maskT [0,9,10,11,41] K)=(
 ∃(x0 k1:Int), [Zae (i64 n), .d (i64 i)]= [.d (i64 x0), .d (i64 k1)]∧K .normal (tmCc r) (ckH q false s++ [cellN x0,cellN k1]) b):=by kernel_rfl
def rest1 (q:List (List Dv)):List (List Dv):=List.take (Zat (q.length:Int) - Zat 1) (List.drop (Zat 1) q)
theorem ck_round (r s:Int) (t u:Bool) (q:List (List Dv)):wpcY prog ⟨TLv, [],wl,y,false⟩ 100 #[42,43] (assignOf rfCk) (bodyOf rfCk) (lowTm 3 (tmCc r)) [.d (bo t), .d (bo u)] (ckH q false s) b (takeK 3 Kh)=(
 BIf (!t) (Kh .normal (ckH q false s) b) (BIf ((q.length:Int)==0) (Kh .ret (ckH q false s) b) (∃(x0:Int),q[0]? =some [u64 x0]∧
   BIf u (∃(a3 c4 z5:Int), [Zae (u64 x0), .d (u64 s)]= [.d (u64 a3), .d (u64 c4)]∧z5=pairS a3 c4∧BIf (true&&decide ((0:Int)≤1∧(1:Int)≤q.length∧(q.length:Int)≤q.length∧(q.length:Int)≤q.length)) (Kh .normal (ckH (rest1 q) false z5) b) False)
     (∃(a6 c7 z8:Int), [Zae (u64 s), .d (u64 x0)]= [.d (u64 a6), .d (u64 c7)]∧z8=pairS a6 c7∧BIf (true&&decide ((0:Int)≤1∧(1:Int)≤q.length∧(q.length:Int)≤q.length∧(q.length:Int)≤q.length)) (Kh .normal (ckH (rest1 q) false z8) b) False)))):=by kernel_rfl
theorem ck_e (r s:Int) (q:List (List Dv)):wpc prog ⟨[], [],wl,y,false⟩ 100 (sub [1,1,1,1] (code f177)) (lowTm 3 (tmCc r)) (ckH q false s) b (maskT [10] K)=(
 BIf ((q.length:Int)==0) (K .ret (Zad 10 .bad++ [.ptr 1 0]++Zad 58 .bad) (ckH q (s==r) s) b) (K .ret (Zad 10 .bad++ [.ptr 1 0]++Zad 58 .bad) (ckH q false s) b)):=by kernel_rfl
def checkF:List (Bool×Bool)→List Int→Int→Option (List Int×Int)
 | [],q,s=>some (q,s)
 |(t,u)::l,q,s=>if t then match q with
     | []=>none
     |x::q=>checkF l q (if u then pairS x s else pairS s x)
   else checkF l q s
theorem checkF_f (u:Bool) (l:List (Bool×Bool)) (q:List Int) (s:Int):checkF ((false,u)::l) q s=checkF l q s:=by cases q<;>simp [checkF]
theorem checkF_nil (u:Bool) (l:List (Bool×Bool)) (s:Int):checkF ((true,u)::l) [] s=none:=by rw [checkF,if_pos rfl]
theorem checkF_t (l:List (Bool×Bool)) (x:Int) (q:List Int) (s:Int):checkF ((true,true)::l) (x::q) s=checkF l q (pairS x s):=by rw [checkF,if_pos rfl,if_pos rfl]
theorem checkF_g (l:List (Bool×Bool)) (x:Int) (q:List Int) (s:Int):checkF ((true,false)::l) (x::q) s=checkF l q (pairS s x):=by rw [checkF,if_pos rfl,if_neg (by simp)]
def topS (r:Int):Option (List Int×Int)→Bool
 |some (q,s)=>q.isEmpty&&s==r
 |none=>false
def checkS (r n i:Int) (p q:List Int):Bool:= !decide (n<1)&&(!decide (n>16)&&(!decide (i<0)&&(!decide (i≥n)&&(!decide ((p.length:Int)>256)&&topS r (checkF (walkS n.toNat i.toNat) q (leafS p))))))
theorem rest1_eq (x:Int) (q:List Int):rest1 (digR (x::q))=digR q:=by
 unfold rest1
 rw [show Zat 1=1 from rfl,Zba,digR_len,show (digR (x::q)).drop 1=digR q from rfl]
 exact List.take_of_length_le (by rw [digR_len];simp)
theorem rangeCk {Ev:Env prog} {b:Ev.β} {Q:Exit→St Ev.β→Prop} (r:Int):∀(ls:List (Bool×Bool)) (q:List Int) (s:Int),
   (∀q' s',checkF ls q s=some (q',s')→Q .normal ⟨lowTm 3 (tmCc r),ckH (digR q') false s',b⟩)→(checkF ls q s=none→∀q' s',Q .ret ⟨lowTm 3 (tmCc r),ckH q' false s',b⟩)→
   YList (YBody Ev (lowTm 3 (tmCc r)) #[42,43] (assignOf rfCk) (bodyOf rfCk) 3) (ls.map itemK) (ckH (digR q) false s,b,none) (rangeQ (lowTm 3 (tmCc r)) Q)
 | [],q,s,h1,h2=>h1 q s rfl
 | (t,u)::ls,q,s,h1,h2=>by
   rw [Zck]
   refine YList.step (X:=⟨TLv, [],wlW Ev,Ev.Y,false⟩) (k:=100) mixed (CX.Ok.of TLv_ok Zaf) rfl ?_
   show wpcY _ _ _ _ _ _ _ [.d (bo t), .d (bo u)] _ b (takeK 3 _)
   rw [ck_round]
   cases t with
   | false=>
     rw [checkF_f] at h1 h2
     exact Zbt rfl (rangeCk r ls q s h1 h2)
   | true=>
     refine Zea rfl ?_
     cases q with
     |nil=>exact Zbt rfl (h2 (checkF_nil _ _ _) _ _)
     | cons x q=>
       refine Zea (by rw [digR_len];simp;omega) ⟨x,rfl, ?_⟩
       have hc:decide ((0:Int)≤1∧(1:Int)≤(digR (x::q)).length∧((digR (x::q)).length:Int)≤(digR (x::q)).length∧((digR (x::q)).length:Int)≤(digR (x::q)).length)=true:=decide_eq_true (by rw [digR_len];simp only [List.length_cons];omega)
       cases u with
       | true=>
         rw [checkF_t] at h1 h2
         refine Zbt rfl ⟨_,_,_,rfl,rfl,Zbt (by rw [hc];rfl) ?_⟩
         rw [rest1_eq]
         exact rangeCk r ls q (pairS x s) h1 h2
       | false=>
         rw [checkF_g] at h1 h2
         refine Zea rfl ⟨_,_,_,rfl,rfl,Zbt (by rw [hc];rfl) ?_⟩
         rw [rest1_eq]
         exact rangeCk r ls q (pairS s x) h1 h2
theorem ckRes1 (r n i:Int) (p q:List (List Dv)):resAs prog (ckH2 q) (tmCa r n i p q) Tryz.f177.results.toList=some [.d (bo false)]:=by kernel_rfl
theorem ckRes2 (r s:Int) (z:Bool) (q:List (List Dv)):resAs prog (ckH q z s) (lowTm 3 (tmCc r)) Tryz.f177.results.toList=some [.d (bo z)]:=by kernel_rfl
theorem ckRes3 (s:Int) (z:Bool) (q:List (List Dv)):resAs prog (ckH q z s) (Zad 10 .bad++ [.ptr 1 0]++Zad 58 .bad) Tryz.f177.results.toList=some [.d (bo z)]:=by kernel_rfl
theorem pcCheck (r n i:Int) (p q:List Int):PCall prog 177 [.d (u64 r), .d (i64 n), .d (i64 i), .d (.sl 1 (bytesR p)), .d (.sl 1 (digR q))] (.d (bo (checkS r n i p q))):=by
 refine PCall.ofW0 (x0:=bo (checkS r n i p q)) (c:=code f177) func177 rfl rfl rfl fun Ev b=> ?_
 have hfin:∀ {tm:List AV} {hp:List Blk} {b':Ev.β} (z:Bool),resAs prog hp tm Tryz.f177.results.toList=some [.d (bo z)]→z=checkS r n i p q→FnPost prog f177 (fun y hp _=>y= .d (bo (checkS r n i p q))∧Zae (bo (checkS r n i p q))= .d (bo (checkS r n i p q))) .ret (⟨tm,hp,b'⟩:St Ev.β):=by
   rintro tm hp b' z h rfl;exact ⟨.inl rfl,_,h,rfl,rfl⟩
 rw [f71_shape]
 refine W0.seq (W0.of (wpc_sound mixed (CX.Ok.of (u:=false) Zaj Zaf) (n:=100) (K:=thenK (fun tm hp b'=>tm=tmCa r n i (bytesR p) (digR q)∧hp=ckH2 (digR q)) fun _ _ _ _=>False) ?_ ?_))
 · rw [ck_a];exact ⟨rfl,rfl⟩
 intro e tm hp b' h
 cases e<;>first|exact h.elim|skip
 obtain ⟨rfl,rfl⟩:=h
 refine W0.seq (W0.of (W.castPost (wpc_sound mixed (CX.Ok.of (u:=false) Zaj Zaf) (n:=100) (K:=maskT [0,1,2,3,4,9,10] fun e tm hp b'=>tm=tmCa r n i (bytesR p) (digR q)∧hp=ckH2 (digR q)∧
   ((e= .normal∧1≤n∧n≤16∧0≤i∧i<n∧p.length≤256∧checkS r n i p q=topS r (checkF (walkS n.toNat i.toNat) q (leafS p)))∨(e= .ret∧false=checkS r n i p q))) ?_ ?_)))
 · rw [ck_b,bytesR_len]
   refine Zar (fun g=>⟨rfl,rfl, .inr ⟨rfl,by rw [checkS,g];rfl⟩⟩) fun g1=>Zar (fun g=>⟨rfl,rfl, .inr ⟨rfl,by rw [checkS,g1,g];rfl⟩⟩) fun g2=>Zar (fun g=>⟨rfl,rfl, .inr ⟨rfl,by rw [checkS,g1,g2,g];rfl⟩⟩) fun g3=>
     Zar (fun g=>⟨rfl,rfl, .inr ⟨rfl,by rw [checkS,g1,g2,g3,g];rfl⟩⟩) fun g4=>Zar (fun g=>⟨rfl,rfl, .inr ⟨rfl,by rw [checkS,g1,g2,g3,g4,g];rfl⟩⟩) fun g5=>⟨rfl,rfl, .inl ⟨rfl, ?_⟩⟩
   refine ⟨?_, ?_, ?_, ?_, ?_,by rw [checkS,g1,g2,g3,g4,g5];rfl⟩
   · simp at g1;omega
   · simp at g2;omega
   · simp at g3;omega
   · simp at g4;omega
   · simp at g5;omega
 intro e tm hp b' h
 refine ⟨_,_,maskTm_le [0,1,2,3,4,9,10] tm 0,Zco _, ?_⟩
 obtain ⟨h1,rfl,h2⟩:=h
 rcases h2 with ⟨rfl,n1,n2,i1,i2,hp,hck⟩|⟨rfl,hz⟩
 rotate_left
 · rw [h1]
   exact hfin false (ckRes1 _ _ _ _ _) hz
 show W0 Ev _ _ _
 rw [h1]
 clear h1
 obtain ⟨w,rfl⟩:=Int.eq_ofNat_of_zero_le (show 0≤n by omega)
 obtain ⟨k,rfl⟩:=Int.eq_ofNat_of_zero_le i1
 rw [Zba,Zba] at hck
 refine W0.seq (W0.of (W.castPost (wpc_sound mixed (CX.Ok.of (u:=false) TLv_ok Zaf) (n:=100) (K:=maskT [0,1,2,9,10,11] (thenK (fun tm hp b'=>tm=tmCb r w k∧hp=ckH (digR q) false (leafS p)) fun _ _ _ _=>False)) ?_ ?_)))
 · rw [ck_c];exact ⟨p,_,rfl,⟨by omega,rfl⟩,rfl,rfl⟩
 intro e tm hp b' h
 refine ⟨_,_,maskTm_le [0,1,2,9,10,11] tm 0,Zco _, ?_⟩
 cases e<;>first|exact h.elim|skip
 obtain ⟨h1,rfl⟩:=h
 show W0 Ev _ _ _
 rw [h1]
 clear h1
 refine W0.seq (W0.seq (W0.of (W.castPost (wpc_sound mixed (CX.Ok.of (u:=false) TLv_ok SCk_ok) (n:=100) (K:=maskT [0,9,10,11,41] (thenK (fun tm hp b'=>tm=tmCc r∧hp=ckH (digR q) false (leafS p)++ [cellN w,cellN k]) fun _ _ _ _=>False)) ?_ ?_))))
 · rw [ck_d];exact ⟨_,_,rfl,rfl,rfl⟩
 intro e tm hp b' h
 refine ⟨_,_,maskTm_le [0,9,10,11,41] tm 0,Zco _, ?_⟩
 cases e<;>first|exact h.elim|skip
 obtain ⟨h1,rfl⟩:=h
 show W0 Ev _ _ _
 rw [h1]
 clear h1
 refine W0.block ?_
 rw [rfCk_shape]
 refine W0.ranges (hp0:=ckH (digR q) false (leafS p)) (lent:= [cellN w,cellN k]) rfl ?_ rfl ?_ rfl (ic92 w k (by omega) (by omega)) ?_
 · intro q hq;simp at hq;rcases hq with rfl|rfl<;>rfl
 · intro q hq;simp at hq;rcases hq with rfl|rfl<;>exact ⟨rfl,rfl⟩
 refine rangeCk r (walkS w k) q (leafS p) (fun q' s' hc=> ?_) fun hc q' s'=> ?_
 · show W0 Ev _ _ _
   refine W0.of (W.castPost (wpc_sound mixed (CX.Ok.of (u:=false) Zaj Zaf) (n:=100) (K:=maskT [10] fun e tm hp b'=>e= .ret∧tm=Zad 10 .bad++ [.ptr 1 0]++Zad 58 .bad∧hp=ckH (digR q') (topS r (some (q',s'))) s') ?_ ?_))
   · rw [ck_e,digR_len]
     refine Zar (fun g=>⟨rfl,rfl, ?_⟩) fun g=>⟨rfl,rfl, ?_⟩
     · have:q'= []:=by simpa using g
       subst this;rfl
     · cases q' with
       |nil=>simp at g
       |cons=>rfl
   intro e tm hp b' h
   refine ⟨_,_,maskTm_le [10] tm 0,Zco _, ?_⟩
   obtain ⟨rfl,h1,rfl⟩:=h
   rw [h1]
   exact hfin _ (ckRes3 _ _ _) (by rw [hck,hc])
 · exact hfin false (ckRes2 _ _ _ _) (by rw [hck,hc];rfl)
def cCheck (args:List AV) (K:AV→Prop):Prop:=∃(r n i:Int) (p q:List Int) (z:Bool),args= [.d (u64 r), .d (i64 n), .d (i64 i), .d (.sl 1 (bytesR p)), .d (.sl 1 (digR q))]∧z=checkS r n i p q∧K (.d (bo z))
theorem cCheck_ok:∀args K,cCheck args K→∃x,PCall prog 177 args x∧K x:=by
 rintro _ K ⟨r,n,i,p,q,_,rfl,rfl,h⟩;exact ⟨_,pcCheck r n i p q,h⟩
noncomputable def rfSp:Code:=sub [1,1,1,0,1,2] (code f27)
theorem rfSp_shape:rfSp= .rangeFunc (.tmp 12) #[13] (assignOf rfSp) (bodyOf rfSp):=by kernel_rfl
def tmSp (ps:List (List Dv)):List AV:= [.bad, .bad, .bad, .bad, .ptr 0 0]++Zad 7 .bad++ [.fn (.func 147) [] [.rptr [.sl 1 ps], .rptr [i64 256]]]++Zad 10 .bad
def sizedS (n:Int):Bool:=decide (n≥1)&&decide (n≤4096)
def countS (n:Int):Int:=Zaa Zax (Int.tdiv (Zaa Zax (Zaa Zax (n+(256:Int)) - (1:Int))) (256:Int))
theorem sized_nf (n:Int):wpFn prog ⟨[], [],wl,y,false⟩ 100 f85 [.d (i64 n)] b R=BIf (decide (n≥1)) (R (.d (bo (decide (n≤4096)))) b) (R (.d (bo false)) b):=by kernel_rfl
theorem count_nf (n:Int):wpFn prog ⟨[], [],wl,y,false⟩ 100 f125 [.d (i64 n)] b R=R (.d (i64 (countS n))) b:=by kernel_rfl
theorem chunkB_nf (xs:List (List Dv)):wpFn prog ⟨[], [],wl,y,false⟩ 100 f86 [.d (.sl 1 xs), .d (i64 256)] b R=R (.fn (.func 147) [] [.rptr [.sl 1 xs], .rptr [i64 256]]) b:=by kernel_rfl
theorem pcSized (n:Int):PCall prog 85 [.d (i64 n)] (.d (bo (sizedS n))):=by
 refine Zbi (n:=100) (u:=false) mixed Zaj Zaf func85 (by rfl) (by rfl) fun Ev bb=> ?_
 rw [sized_nf]
 exact Zar (fun h=>by rw [sizedS,h];rfl) fun h=>by rw [sizedS,h];rfl
def cSized (args:List AV) (K:AV→Prop):Prop:=∃(n:Int) (z:Bool),args= [.d (i64 n)]∧z=sizedS n∧K (.d (bo z))
theorem cSized_ok:∀args K,cSized args K→∃x,PCall prog 85 args x∧K x:=by
 rintro _ K ⟨n,_,rfl,rfl,h⟩;exact ⟨_,pcSized n,h⟩
theorem pcCount (n:Int):PCall prog 125 [.d (i64 n)] (.d (i64 (countS n))):=by
 refine Zbi (n:=100) (u:=false) mixed Zaj Zaf func125 (by rfl) (by rfl) fun Ev bb=> ?_
 rw [count_nf]
def cCount (args:List AV) (K:AV→Prop):Prop:=∃(n z:Int),args= [.d (i64 n)]∧z=countS n∧K (.d (i64 z))
theorem cCount_ok:∀args K,cCount args K→∃x,PCall prog 125 args x∧K x:=by
 rintro _ K ⟨n,_,rfl,rfl,h⟩;exact ⟨_,pcCount n,h⟩
theorem pcChunkB (xs:List (List Dv)):PCall prog 86 [.d (.sl 1 xs), .d (i64 256)] (.fn (.func 147) [] [.rptr [.sl 1 xs], .rptr [i64 256]]):=by
 refine Zbi (n:=100) (u:=false) mixed Zaj Zaf func86 (by rfl) (by rfl) fun Ev bb=> ?_
 rw [chunkB_nf]
def cChunkB (args:List AV) (K:AV→Prop):Prop:=∃(xs:List (List Dv)),args= [.d (.sl 1 xs), .d (i64 256)]∧K (.fn (.func 147) [] [.rptr [.sl 1 xs], .rptr [i64 256]])
theorem cChunkB_ok:∀args K,cChunkB args K→∃x,PCall prog 86 args x∧K x:=by
 rintro _ K ⟨xs,rfl,h⟩;exact ⟨_,pcChunkB xs,h⟩
def TAn:List (Nat×(List AV→(AV→Prop)→Prop)):= [(85,cSized)]
theorem TAn_ok:CallsOk prog TAn:=Zag cSized_ok Zaj
def notA (a n r t:Int):AV:= .agg [.d (i64 a), .d (i64 n), .d (u64 r), .d (i64 t)]
def announcedS (a n t:Int):Bool:=decide (a≥1)&&(decide (a≤1000000000)&&(sizedS n&&(decide (t≥0)&&decide (t≤1000000000))))
theorem announced_nf (a n r t:Int):wpFn prog ⟨TAn, [],wl,y,false⟩ 100 f83 [notA a n r t] b R=(
 BIf (decide (a≥1)) (BIf (decide (a≤1000000000)) (∃(n0:Int) (z1:Bool), [Zae (i64 n)]= [.d (i64 n0)]∧z1=sizedS n0∧BIf z1 (BIf (decide (t≥0)) (R (.d (bo (decide (t≤1000000000)))) b) (R (.d (bo false)) b)) (R (.d (bo false)) b)) (R (.d (bo false)) b)) (R (.d (bo false)) b)):=by kernel_rfl
theorem pcAnnounced (a n r t:Int):PCall prog 83 [notA a n r t] (.d (bo (announcedS a n t))):=by
 refine Zbi (n:=100) (u:=false) mixed TAn_ok Zaf func83 (by rfl) (by rfl) fun Ev bb=> ?_
 rw [announced_nf]
 refine Zar (fun h1=>Zar (fun h2=>⟨n,_,rfl,rfl,Zar (fun h3=>Zar (fun h4=> ?_) fun h4=> ?_) fun h3=> ?_⟩) fun h2=> ?_) fun h1=> ?_
 · rw [announcedS,h1,h2,h3,h4];rfl
 · rw [announcedS,h1,h2,h3,h4];rfl
 · rw [announcedS,h1,h2,h3];rfl
 · rw [announcedS,h1,h2];rfl
 · rw [announcedS,h1];rfl
def cAnnounced (args:List AV) (K:AV→Prop):Prop:=∃(a n r t:Int) (z:Bool),args= [notA a n r t]∧z=announcedS a n t∧K (.d (bo z))
theorem cAnnounced_ok:∀args K,cAnnounced args K→∃x,PCall prog 83 args x∧K x:=by
 rintro _ K ⟨a,n,r,t,_,rfl,rfl,h⟩;exact ⟨_,pcAnnounced a n r t,h⟩
def lenW:Nat→Nat→Nat→Nat
 |0,_,_=>0
 |n+1,w,k=>if 1<w then (if sibN k<w then 1 else 0)+lenW n ((w+1) / 2) (k / 2) else 0
def padS (p:List Int):List Int:=p++Zad (256 - p.length) 0
theorem padS_len {p:List Int} (h:p.length≤256):(padS p).length=256:=by simp [padS];omega
theorem padS_cells (p:List Int) (h:p.length≤256):flatA ((bytesR p).take 256)++(flatA (Zad 256 [u8 0])).drop ((bytesR p).take 256).length=flatA (bytesR (padS p)):=by
 have e:Zad 256 [u8 0]=bytesR (Zad 256 0):=by simp only [bytesR,List.map_replicate]
 rw [e,bytesR_take,bytesR_len,List.take_of_length_le h]
 have key:∀q:List Int,flatA (bytesR q)=q.map fun x=>Zae (u8 x):=by
   intro q
   induction q with
   |nil=>rfl
   | cons a q ih=>
     rw [show bytesR (a::q)= [u8 a]::bytesR q from rfl]
     simp only [flatA,List.flatten_cons,List.map_append] at ih ⊢
     rw [ih];rfl
 rw [key,key,key,padS,List.map_append,←List.map_drop,List.drop_replicate]
theorem chunkD_map {α γ:Type} (f:α→γ) (m:Nat):∀(n:Nat) (xs:List α),chunkD m n (xs.map f)=(chunkD m n xs).map (List.map f)
 |0,xs=>rfl
 | n+1,xs=>by
   rw [chunkD,chunkD]
   cases xs with
   |nil=>rfl
   | cons a xs=>
     rw [if_neg (by simp),if_neg (by simp),←List.map_take,←List.map_drop,chunkD_map f m n];rfl
theorem chunkD_len {α:Type} (m:Nat):∀(n:Nat) (xs:List α),(∀c∈chunkD m n xs,c.length≤m)∧(chunkD m n xs).length≤n
 |0,xs=>by simp [chunkD]
 | n+1,xs=>by
   rw [chunkD]
   split
   · simp
   · obtain ⟨h1,h2⟩:=chunkD_len m n (xs.drop m)
     refine ⟨fun c hc=> ?_,by simp;omega⟩
     rcases Zcp.1 hc with rfl|hc
     · simp;omega
     · exact h1 c hc
def GByte:List (Nat×(List AV→List Blk→(AV→List Blk→Prop)→Prop)):= [(1000000+5,fun _ _ _=>False)]
theorem GByte_ok:SCallsOk prog GByte:=Zcc (fun _ _ _ h=>h.elim) Zaf
theorem sp_round (ps xs x:List (List Dv)):wpcY prog ⟨[],GByte,wl,y,false⟩ 100 #[13] (assignOf rfSp) (bodyOf rfSp) (tmSp ps) [.full 1 x] [cellV (.own 33 1 xs)] b (takeK 1 Kh)=(
 0 =0∧0=0∧∃(xs0:List (List Dv)),flatA (x.take 256)++(flatA (Zad 256 [u8 0])).drop (x.take 256).length=flatA xs0∧xs0.length=256∧(∀r∈xs0,r.length=1)∧
   BIf (true&&decide ((xs.length+1)*24≤140737488355328)) (Kh .normal [cellV (.own 33 1 (xs++ [[.sl 1 xs0]]))] b) False):=by kernel_rfl
theorem parts_app (ps:List (List Int)) (p:List Int):partsR ps++ [[.sl 1 (bytesR p)]]=partsR (ps++ [p]):=by simp [partsR]
def itemBI (p:List Int):List AV:= [.full 1 (bytesR p)]
theorem rangeSp {Ev:Env prog} {b:Ev.β} {Q:Exit→St Ev.β→Prop} (ps:List (List Dv)):∀(l acc:List (List Int)),(∀p∈l,p.length≤256)→acc.length+l.length≤1000000→Q .normal ⟨tmSp ps, [cellV (.own 33 1 (partsR (acc++l.map padS)))],b⟩→
   YList (YBody Ev (tmSp ps) #[13] (assignOf rfSp) (bodyOf rfSp) 1) (l.map itemBI) ([cellV (.own 33 1 (partsR acc))],b,none) (rangeQ (tmSp ps) Q)
 | [],acc,hl,hb,h=>by rw [List.map_nil,List.append_nil] at h;exact h
 | p::l,acc,hl,hb,h=>by
   rw [Zck]
   refine YList.step (X:=⟨[],GByte,wlW Ev,Ev.Y,false⟩) (k:=100) mixed (CX.Ok.of Zaj GByte_ok) rfl ?_
   show wpcY _ _ _ _ _ _ _ [.full 1 (bytesR p)] [cellV _] b (takeK 1 _)
   rw [sp_round]
   have hp:=hl p (Zay ..)
   refine ⟨rfl,rfl,bytesR (padS p),padS_cells p hp,by rw [bytesR_len,padS_len hp],fun r hr=> ?_,Zbt (by simp [partsR_len] at hb ⊢;omega) ?_⟩
   · simp only [bytesR,Zbe] at hr
     obtain ⟨_,_,rfl⟩:=hr;rfl
   rw [parts_app]
   refine rangeSp ps l (acc++ [padS p]) (fun q hq=>hl q (Zaw _ hq)) (by simp at hb ⊢;omega) ?_
   rw [Zcl];exact h
def splitS (p:List Int):List (List Int):=(chunkD 256 p.length p).map padS
def wlSp {β:Type}:WLT β:=fun c tm hp b K=>∃(p:List Int) (q:List (List Int)),c=rfSp∧maskTm [4,12] 0 tm=tmSp (bytesR p)∧hp= [cellV (.d (.s (.slice none 0 0)))]∧(p.length≤1000000∧q=splitS p)∧K .normal (tmSp (bytesR p)) [cellV (.own 33 1 (partsR q))] b
theorem wlSp_ok {Ev:Env prog} (c:Code) (tm:List AV) (hp:List Blk) (b:Ev.β) (K:Exit→List AV→List Blk→Ev.β→Prop) (h:wlSp c tm hp b K):W Ev c ⟨tm,hp,b⟩ (fun e s=>K e s.tm s.hp s.b):=by
 obtain ⟨p,q,rfl,htm,rfl,⟨hl,rfl⟩,hK⟩:=h
 refine W.cast (htm▸maskTm_le _ tm 0) (hp':= [cellV (.own 33 1 (partsR []))]) (.cons (.cons (LeA.nilOwn rfl) .nil) .nil) ?_
 rw [rfSp_shape]
 refine W.range (s:=⟨tmSp (bytesR p),_,b⟩) (k:=147) (first:= []) (caps:= [.rptr [.sl 1 (bytesR p)], .rptr [i64 256]]) rfl rfl rfl (ic57 (bytesR p) 256 (by omega) (by rw [bytesR_len];omega)) ?_
 have e:(chunkD 256 (bytesR p).length (bytesR p)).map itemC=(chunkD 256 p.length p).map itemBI:=by
   rw [bytesR_len,bytesR,chunkD_map,List.map_map];rfl
 rw [e]
 have:=chunkD_len 256 p.length p
 exact rangeSp (bytesR p) _ [] this.1 (by simp;omega) (by simpa [splitS] using hK)
def TSp:List (Nat×(List AV→(AV→Prop)→Prop)):= [(85,cSized),(86,cChunkB)]
theorem TSp_ok:CallsOk prog TSp:=Zag cSized_ok (Zag cChunkB_ok Zaj)
noncomputable def lp61:Code:=sub [1,0,2,3] (code f197)
noncomputable def lp62:Code:=sub [1,0,2,3] (code f198)
def tm61 (p:List (List Dv)) (c:Int):List AV:= [.d (.sl 1 p), .d (u8 c)]++Zad 19 .bad
def tm62 (p:List (List Dv)) (c:Int):List AV:= [.d (.sl 1 p), .d (u8 c)]++Zad 22 .bad
noncomputable def lp38a:Code:=sub [1,1,0,1,2,3] (code f149)
noncomputable def lp38b:Code:=sub [1,1,1,1,0,1,2,3] (code f149)
def tm38a (ps:List (List Dv)) (s n i:Int):List AV:= [.d (.sl 1 ps), .bad, .bad, .d (i64 s), .bad, .bad, .bad, .bad, .bad, .d (.sl 1 ps), .d (i64 n), .d (i64 i)]++Zad 24 .bad
def tm38b (ps:List (List Dv)) (v m:Nat) (n i:Int):List AV:= [.bad, .bad, .bad, .bad, .bad, .bad, .gref 0 v m 1]++Zad 18 .bad++ [.d (.sl 1 ps), .d (i64 n), .d (i64 i)]++Zad 8 .bad
def bds:Nat→List AV→List AV|0,l=>l|n+1,l=>Zaz::bds n l
theorem r61 (p:List (List Dv)) (c:Int):wpc prog ⟨[], [],wl,y,false⟩ 100 lp61 (tm61 p c) [] b (maskK 0 [0,1] K)=(BIf (decide (((Zac p:Nat):Int)>(0:Int))) (∃(x0:Int),p[0]? =some [u8 x0]∧BIf (x0==c) (BIf (true&&decide ((0:Int)≤(1:Int)∧(1:Int)≤((Zac p:Nat):Int)∧((Zac p:Nat):Int)≤((Zac p:Nat):Int)∧((Zac p:Nat):Int)≤((Zac p:Nat):Int))) (K .normal (Zae (Zal 1 (List.take (Zat ((Zac p:Nat):Int) - Zat (1:Int)) (List.drop (Zat (1:Int)) p)))::Zae (u8 c)::bds 19 []) [] b) False) (K (Exit.exit 0) (Zae (Zal 1 p)::Zae (u8 c)::bds 19 []) [] b)) (K (Exit.exit 0) (Zae (Zal 1 p)::Zae (u8 c)::bds 19 []) [] b)):=by kernel_rfl
theorem r62 (p:List (List Dv)) (c:Int):wpc prog ⟨[], [],wl,y,false⟩ 100 lp62 (tm62 p c) [] b (maskK 0 [0,1] K)=(BIf (decide (((Zac p:Nat):Int)>(0:Int))) (BIf (true&&decide ((0:Int)≤Zaa .i64 (((Zac p:Nat):Int) - (1:Int)))) (∃(x0:Int),p[Zat (Zaa .i64 (((Zac p:Nat):Int) - (1:Int)))]? =some [u8 x0]∧BIf (x0==c) (BIf (true&&decide ((0:Int)≤(0:Int)∧(0:Int)≤Zaa .i64 (((Zac p:Nat):Int) - (1:Int))∧Zaa .i64 (((Zac p:Nat):Int) - (1:Int))≤((Zac p:Nat):Int)∧((Zac p:Nat):Int)≤((Zac p:Nat):Int))) (K .normal (Zae (Zal 1 (List.take (Zat (Zaa .i64 (((Zac p:Nat):Int) - (1:Int))) - Zat (0:Int)) (List.drop (Zat (0:Int)) p)))::Zae (u8 c)::bds 22 []) [] b) False) (K (Exit.exit 0) (Zae (Zal 1 p)::Zae (u8 c)::bds 22 []) [] b)) False) (K (Exit.exit 0) (Zae (Zal 1 p)::Zae (u8 c)::bds 22 []) [] b)):=by kernel_rfl
theorem r38a (ps:List (List Dv)) (s n i:Int):wpc prog ⟨[], [],wl,y,false⟩ 100 lp38a (tm38a ps s n i) [] b (maskK 0 [0,3,9,10,11] K)=(BIf (decide (i<n)) (BIf (true&&decide (0≤i)) (∃(xs0:List (List Dv)),ps[Zat i]? =some [Zal 1 xs0]∧BIf (decide (Zaa .i64 (s+((Zac xs0:Nat):Int))<(0:Int))) False (K .normal (Zae (Zal 1 ps)::Zaz::Zaz::Zae (i64 (Zaa .i64 (s+((Zac xs0:Nat):Int))))::bds 5 (Zae (Zal 1 ps)::Zae (i64 n)::Zae (i64 (Zaa .i64 (i+1)))::bds 24 [])) [] b)) False) (K (Exit.exit 0) (Zae (Zal 1 ps)::Zaz::Zaz::Zae (i64 s)::bds 5 (Zae (Zal 1 ps)::Zae (i64 n)::Zae (i64 i)::bds 24 [])) [] b)):=by kernel_rfl
theorem r38b (ps:List (List Dv)) (cs:List AV) (v m:Nat) (n i:Int):wpc prog ⟨[],GByte,wl,y,false⟩ 100 lp38b (tm38b ps v m n i) [blkG cs v] b (maskT [6,25,26,27] K)=(BIf (decide (i<n)) (BIf (true&&decide (0≤i)) (∃(xs0:List (List Dv)),ps[Zat i]? =some [Zal 1 xs0]∧v=v∧BIf (decide ((m+Zac xs0)*1≤140737488355328)) (K .normal (bds 6 (AV.gref 0 (v+1) (m+Zac xs0) 1::bds 18 (Zae (Zal 1 ps)::Zae (i64 n)::Zae (i64 (Zaa .i64 (i+1)))::bds 8 []))) [Blk.mk (cs++flatA xs0) false true (v+1)] b) False) False) (K (Exit.exit 2) (bds 6 (AV.gref 0 v m 1::bds 18 (Zae (Zal 1 ps)::Zae (i64 n)::Zae (i64 i)::bds 8 []))) [Blk.mk cs false true v] b)):=by kernel_rfl
abbrev Qz25:List AV:= [Zae (Dv.s (.slice none 0 0)),Zae (i64 1)]
theorem split_nf (xs:List (List Dv)):wpFn prog ⟨TSp, [],wlSp,y,false⟩ 100 f27 [.d (.sl 1 xs)] b R=(∃(n0:Int) (z1:Bool), [Zae (i64 ((Zac xs:Nat):Int))]= [Zae (i64 n0)]∧z1=sizedS n0∧BIf (!z1) (R (.tup Qz25) b) (∃(xs2:List (List Dv)), [Zae (Zal 1 xs),Zae (i64 256)]= [Zae (Zal 1 xs2),Zae (i64 256)]∧∃(p3:List Int) (q4:List (List Int)),rfSp=rfSp∧(bds 4 (AV.ptr 0 0::bds 7 (AV.fn (Fn.func 147) [] [AV.rptr [Zal 1 xs2],AV.rptr [i64 256]]::bds 10 [])))=(bds 4 (AV.ptr 0 0::bds 7 (AV.fn (Fn.func 147) [] [AV.rptr [Zal 1 (bytesR p3)],AV.rptr [i64 256]]::bds 10 [])))∧ [Blk.mk [Zae (Dv.s (.slice none 0 0))] false false 0]= [Blk.mk [Zae (Dv.s (.slice none 0 0))] false false 0]∧(Zac p3≤1000000∧q4=splitS p3)∧R (.tup [Zae (Zal 1 (partsR q4)),Zae (i64 0)]) b)):=by kernel_rfl
theorem pcSplit (p:List Int) (hl:p.length≤9223372036854775807):PCall prog 27 [.d (.sl 1 (bytesR p))] (if sizedS p.length then .tup [.d (.sl 1 (partsR (splitS p))), .d (i64 0)] else .tup [.d (.sl 1 []), .d (i64 1)]):=by
 refine PCall.ofFnV (n:=100) (u:=false) (fun _=>wlSp) mixed TSp_ok Zaf (fun Ev=>wlSp_ok) func27 (by rfl) (by rfl) fun Ev bb=> ?_
 rw [split_nf,bytesR_len]
 refine ⟨_,_,rfl,rfl,Zar (fun h=> ?_) fun h=>⟨_,rfl,p,_,rfl,rfl,rfl,⟨?_,rfl⟩, ?_⟩⟩
 · rw [if_neg (by simpa using h)]
   exact LeV.tups (.cons (.nil rfl) (.cons .rfl .nil))
 · simp [sizedS] at h;omega
 · rw [if_pos (by simpa using h)];exact .rfl
def cSplit (args:List AV) (K:AV→Prop):Prop:=∃(p:List Int),args= [.d (.sl 1 (bytesR p))]∧p.length≤9223372036854775807∧∃(z:Bool) (q:List (List Int)),z=sizedS p.length∧q=splitS p∧
 BIf z (K (.tup [.d (.sl 1 (partsR q)), .d (i64 0)])) (K (.tup [.d (.sl 1 []), .d (i64 1)]))
theorem cSplit_ok:∀args K,cSplit args K→∃x,PCall prog 27 args x∧K x:=by
 rintro _ K ⟨p,rfl,hl,z,q,hz,rfl,h⟩
 refine ⟨_,pcSplit p hl, ?_⟩
 rw [←hz]
 cases z<;>exact h
def trimR (c:Int) (p:List Int):List Int:=(p.reverse.dropWhile (· ==c)).reverse
theorem trimR_app (c a:Int) (l:List Int):trimR c (l++ [a])=if (a==c)=true then trimR c l else l++ [a]:=by
 simp only [trimR,List.reverse_append,List.reverse_cons,List.reverse_nil,List.nil_append,List.singleton_append,List.dropWhile_cons]
 split<;>simp
theorem wr61 {Ev:Env prog} {b:Ev.β} {Q:Exit→St Ev.β→Prop} (c:Int):∀(p:List Int),p.length≤9223372036854775807→Q (.exit 0) ⟨tm61 (bytesR (p.dropWhile (· ==c))) c, [],b⟩→WR Ev lp61 (p.length+1) ⟨tm61 (bytesR p) c, [],b⟩ Q
 | [],hl,h=>by
   refine WR.ofMask [0,1] mixed (CX.Ok.of (u:=false) Zaj Zaf) (k:=100) ?_
   show wpc _ _ _ _ _ _ _ (maskK 0 _ _)
   rw [r61]
   exact Zea (by simp [bytesR_len]) h
 | a::p,hl,h=>by
   refine WR.ofMask [0,1] mixed (CX.Ok.of (u:=false) Zaj Zaf) (k:=100) ?_
   show wpc _ _ _ _ _ _ _ (maskK 0 _ _)
   rw [r61,bytesR_len]
   refine Zbt (by simp<;>omega) ⟨a,rfl,Zar (fun g=>Zbt (by simp<;>omega) ?_) fun g=> ?_⟩
   · rw [List.dropWhile_cons,if_pos g] at h
     have e:List.take (Zat ((a::p).length:Int) - Zat 1) (List.drop (Zat 1) (bytesR (a::p)))=bytesR p:=by
       rw [show Zat 1=1 from rfl,show (bytesR (a::p)).drop 1=bytesR p from rfl]
       exact List.take_of_length_le (by rw [bytesR_len];simp)
     rw [e]
     exact wr61 c p (by simp at hl<;>omega) h
   · rw [List.dropWhile_cons,if_neg (by rw [g];simp)] at h
     exact h
theorem wr62 {Ev:Env prog} {b:Ev.β} {Q:Exit→St Ev.β→Prop} (c:Int):∀(n:Nat) (p:List Int),p.length≤n→n≤9223372036854775807→Q (.exit 0) ⟨tm62 (bytesR (trimR c p)) c, [],b⟩→WR Ev lp62 (n+1) ⟨tm62 (bytesR p) c, [],b⟩ Q
 | n,p,hn,hl,h=>by
   refine WR.ofMask [0,1] mixed (CX.Ok.of (u:=false) Zaj Zaf) (k:=100) ?_
   show wpc _ _ _ _ _ _ _ (maskK 0 _ _)
   rw [r62,bytesR_len]
   rcases List.eq_nil_or_concat p with rfl|⟨l,a,rfl⟩
   · exact Zea (by simp) h
   · rw [List.concat_eq_append] at*
     rw [trimR_app] at h
     have e0:Zaa Zax (((l++ [a]).length:Int) - 1)=l.length:=by
       rw [wrap_i64 (by simp<;>omega) (by simp at hn ⊢<;>omega)];simp
     rw [e0,Zba]
     refine Zbt (by simp<;>omega) (Zbt (by simp) ⟨a,by simp [bytesR],Zar (fun g=>Zbt (by simp<;>omega) ?_) fun g=> ?_⟩)
     · rw [if_pos g] at h
       have e:List.take (l.length - Zat 0) (List.drop (Zat 0) (bytesR (l++ [a])))=bytesR l:=by
         rw [show Zat 0=0 from rfl,List.drop_zero,Nat.sub_zero,bytesR_take,List.take_left'];rfl
       rw [e]
       cases n with
       |zero=>simp at hn
       |succ n=>exact wr62 c n l (by simp at hn<;>omega) (by omega) h
     · rw [if_neg (by rw [g];simp)] at h
       exact h
def wl61 {β:Type}:WLT β:=fun c tm hp b K=>∃(p:List Int) (x:Int) (z:List Int),c= .loop lp61∧maskTm [0,1] 0 tm=tm61 (bytesR p) x∧hp= []∧(p.length≤9223372036854775807∧z=p.dropWhile (· ==x))∧K (.exit 0) (tm61 (bytesR z) x) [] b
theorem wl61_ok {Ev:Env prog} (c:Code) (tm:List AV) (hp:List Blk) (b:Ev.β) (K:Exit→List AV→List Blk→Ev.β→Prop) (h:wl61 c tm hp b K):W Ev c ⟨tm,hp,b⟩ (fun e s=>K e s.tm s.hp s.b):=by
 obtain ⟨p,x,z,rfl,htm,rfl,⟨hl,rfl⟩,hK⟩:=h
 refine W.cast (htm▸maskTm_le _ tm 0) (Zco _) ?_
 exact W.rounds (wr61 (Q:=fun e s=>K e s.tm s.hp s.b) x p hl hK)
def wl62 {β:Type}:WLT β:=fun c tm hp b K=>∃(p:List Int) (x:Int) (z:List Int),c= .loop lp62∧maskTm [0,1] 0 tm=tm62 (bytesR p) x∧hp= []∧(p.length≤9223372036854775807∧z=trimR x p)∧K (.exit 0) (tm62 (bytesR z) x) [] b
theorem wl62_ok {Ev:Env prog} (c:Code) (tm:List AV) (hp:List Blk) (b:Ev.β) (K:Exit→List AV→List Blk→Ev.β→Prop) (h:wl62 c tm hp b K):W Ev c ⟨tm,hp,b⟩ (fun e s=>K e s.tm s.hp s.b):=by
 obtain ⟨p,x,z,rfl,htm,rfl,⟨hl,rfl⟩,hK⟩:=h
 refine W.cast (htm▸maskTm_le _ tm 0) (Zco _) ?_
 exact W.rounds (wr62 (Q:=fun e s=>K e s.tm s.hp s.b) x p.length p (Nat.le_refl _) hl hK)
def strZ:ByteArray:=⟨#[0]⟩
theorem f61_nf (p:List (List Dv)) (x:Int):wpFn prog ⟨[], [],wl61,y,false⟩ 100 f197 [.d (.sl 1 p), .d (u8 x)] b R=(∃(p0:List Int) (x1:Int) (z2:List Int),Zbq lp61=Zbq lp61∧(Zae (Zal 1 p)::Zae (u8 x)::bds 19 [])=(Zae (Zal 1 (bytesR p0))::Zae (u8 x1)::bds 19 [])∧([]:List Blk)= []∧(Zac p0≤9223372036854775807∧z2=List.dropWhile (fun (x3:Int)=>x3==x1) p0)∧BIf (((Zac (bytesR z2):Nat):Int)==(0:Int)) (R (.d (Dv.s (.slice none 0 0))) b) (R (.d (Zal 1 (bytesR z2))) b)):=by kernel_rfl
theorem f62_nf (p:List (List Dv)) (x:Int):wpFn prog ⟨[], [],wl62,y,false⟩ 100 f198 [.d (.sl 1 p), .d (u8 x)] b R=(∃(p0:List Int) (x1:Int) (z2:List Int),Zbq lp62=Zbq lp62∧(Zae (Zal 1 p)::Zae (u8 x)::bds 22 [])=(Zae (Zal 1 (bytesR p0))::Zae (u8 x1)::bds 22 [])∧([]:List Blk)= []∧(Zac p0≤9223372036854775807∧z2=trimR x1 p0)∧R (.d (Zal 1 (bytesR z2))) b):=by kernel_rfl
theorem pcTl (p:List Int) (x:Int) (hl:p.length≤9223372036854775807):PCall prog 197 [.d (.sl 1 (bytesR p)), .d (u8 x)] (.d (.sl 1 (bytesR (p.dropWhile (· ==x))))):=by
 refine PCall.ofFnV (n:=100) (u:=false) (fun _=>wl61) mixed Zaj Zaf (fun Ev=>wl61_ok) func197 (by rfl) (by rfl) fun Ev bb=> ?_
 rw [f61_nf]
 refine ⟨p,x,_,rfl,rfl,rfl,⟨hl,rfl⟩,Zar (fun h=> ?_) fun h=> .rfl⟩
 have e:p.dropWhile (· ==x)= []:=by
   have:(p.dropWhile (· ==x)).length=0:=by simpa [bytesR_len] using h
   exact List.length_eq_zero_iff.1 this
 rw [e];exact .nil rfl
theorem pcTr (p:List Int) (x:Int) (hl:p.length≤9223372036854775807):PCall prog 198 [.d (.sl 1 (bytesR p)), .d (u8 x)] (.d (.sl 1 (bytesR (trimR x p)))):=by
 refine PCall.ofFnV (n:=100) (u:=false) (fun _=>wl62) mixed Zaj Zaf (fun Ev=>wl62_ok) func198 (by rfl) (by rfl) fun Ev bb=> ?_
 rw [f62_nf]
 exact ⟨p,x,_,rfl,rfl,rfl,⟨hl,rfl⟩, .rfl⟩
def cTl (args:List AV) (K:AV→Prop):Prop:=∃(p:List Int) (x:Int) (z:List Int),args= [.d (.sl 1 (bytesR p)), .d (u8 x)]∧(p.length≤9223372036854775807∧z=p.dropWhile (· ==x))∧K (.d (.sl 1 (bytesR z)))
theorem cTl_ok:∀args K,cTl args K→∃x,PCall prog 197 args x∧K x:=by
 rintro _ K ⟨p,x,_,rfl,⟨hl,rfl⟩,h⟩;exact ⟨_,pcTl p x hl,h⟩
def cTr (args:List AV) (K:AV→Prop):Prop:=∃(p:List Int) (x:Int) (z:List Int),args= [.d (.sl 1 (bytesR p)), .d (u8 x)]∧(p.length≤9223372036854775807∧z=trimR x p)∧K (.d (.sl 1 (bytesR z)))
theorem cTr_ok:∀args K,cTr args K→∃x,PCall prog 198 args x∧K x:=by
 rintro _ K ⟨p,x,_,rfl,⟨hl,rfl⟩,h⟩;exact ⟨_,pcTr p x hl,h⟩
def TTrim:List (Nat×(List AV→(AV→Prop)→Prop)):= [(197,cTl),(198,cTr)]
theorem TTrim_ok:CallsOk prog TTrim:=Zag cTl_ok (Zag cTr_ok Zaj)
theorem trim_nf (p:List (List Dv)):wpFn prog ⟨TTrim, [],wl,y,false⟩ 100 f150 [.d (.sl 1 p), .d (.s (.string strZ))] b R=(BIf (((Zac p:Nat):Int)==(0:Int)) (R (.d (Dv.s (.slice none 0 0))) b) (∃(c0:UInt8),strZ[0]? =some c0∧BIf (decide (((UInt8.toNat c0:Nat):Int)<(128:Int))) (∃(c3:UInt8),strZ[0]? =some c3∧∃(p6:List Int) (x7:Int) (z8:List Int), [Zae (Zal 1 p),Zae (u8 ((UInt8.toNat c3:Nat):Int))]= [Zae (Zal 1 (bytesR p6)),Zae (u8 x7)]∧(Zac p6≤9223372036854775807∧z8=trimR x7 p6)∧∃(c9:UInt8),strZ[0]? =some c9∧∃(p12:List Int) (x13:Int) (z14:List Int), [Zae (Zal 1 (bytesR z8)),Zae (u8 ((UInt8.toNat c9:Nat):Int))]= [Zae (Zal 1 (bytesR p12)),Zae (u8 x13)]∧(Zac p12≤9223372036854775807∧z14=List.dropWhile (fun (x15:Int)=>x15==x13) p12)∧R (.d (Zal 1 (bytesR z14))) b) False)):=by kernel_rfl
theorem trimR_le (x:Int) (p:List Int):(trimR x p).length≤p.length:=by
 simp only [trimR,List.length_reverse]
 exact Nat.le_trans (List.Sublist.length_le (List.dropWhile_sublist _)) (by rw [List.length_reverse];exact Nat.le_refl _)
def trimS (p:List Int):List Int:=(trimR 0 p).dropWhile (· ==0)
theorem pcTrim (p:List Int) (hl:p.length≤9223372036854775807):PCall prog 150 [.d (.sl 1 (bytesR p)), .d (.s (.string strZ))] (.d (.sl 1 (bytesR (trimS p)))):=by
 refine PCall.ofFnV (n:=100) (u:=false) (fun _=>wlNo _) mixed TTrim_ok Zaf (fun Ev=>wlNo_ok Ev) func150 (by rfl) (by rfl) fun Ev bb=> ?_
 rw [trim_nf,bytesR_len]
 refine Zar (fun h=> ?_) fun h=>⟨0,rfl,Zbt (by decide) ⟨0,rfl,p,0,_,rfl,⟨hl,rfl⟩,0,rfl,trimR 0 p,0,_,rfl,⟨Nat.le_trans (trimR_le 0 p) hl,rfl⟩, .rfl⟩⟩
 have:p= []:=by
   have:p.length=0:=by simpa using h
   exact List.length_eq_zero_iff.1 this
 subst this
 exact .nil rfl
def cTrim (args:List AV) (K:AV→Prop):Prop:=∃(p z:List Int),args= [.d (.sl 1 (bytesR p)), .d (.s (.string strZ))]∧(p.length≤9223372036854775807∧z=trimS p)∧K (.d (.sl 1 (bytesR z)))
theorem cTrim_ok:∀args K,cTrim args K→∃x,PCall prog 150 args x∧K x:=by
 rintro _ K ⟨p,_,rfl,⟨hl,rfl⟩,h⟩;exact ⟨_,pcTrim p hl,h⟩
theorem grow_nf (n:Int):wpFnS prog ⟨[],GByte,wl,y,false⟩ 100 f196 [nilV, .d (i64 n)] b RS=(BIf (decide (n<(0:Int))) False (BIf (decide (Zaa .i64 (n - 0)>(0:Int))) (BIf (true&&decide ((0:Int)<Zaa .i64 (n - 0))&&decide (Zaa .i64 (n - 0)*(1:Int)≤(281474976710656:Int))&&decide (Zaa .i64 (n - 0)≤(9223372036854775807:Int))&&true&&true&&true&&true) (0=0∧RS (AV.gref 0 1 0 1) [Blk.mk [] false true 1] b) False) (RS (Zae (Dv.s (.slice none 0 0))) [] b))):=by kernel_rfl
theorem fcGrow (n:Int) (h0:0<n) (hn:n≤1000000):FCall prog 196 [nilV, .d (i64 n)] (.gref 0 1 0 1) [blkG [] 1]:=by
 refine FCall.ofFnW (n:=100) (u:=false) (fun _=>wlNo _) mixed Zaj GByte_ok (fun Ev=>wlNo_ok Ev) func196 (by rfl) (by rfl) (by rfl) fun Ev bb=> ?_
 rw [grow_nf]
 have e:Zaa Zax (n - 0)=n:=by rw [wrap_i64 (by omega) (by omega)];omega
 rw [e]
 refine Zea (by simp<;>omega) (Zbt (by simp<;>omega) (Zbt ?_ ⟨rfl,rfl,rfl⟩))
 simp only [Bool.and_true,Bool.true_and,Zam,decide_eq_true_eq];omega
def sGrow (args:List AV) (hp:List Blk) (K:AV→List Blk→Prop):Prop:=∃(n:Int),args= [nilV, .d (i64 n)]∧(0<n∧n≤1000000)∧K (.gref hp.length 1 0 1) (hp++ [blkG [] 1])
theorem sGrow_ok:∀args hp K,sGrow args hp K→∃x hp',SCall prog 196 args hp x hp'∧K x hp':=by
 rintro _ hp K ⟨n,rfl,⟨h0,hn⟩,h⟩
 exact ⟨_,_,(fcGrow n h0 hn).toS rfl hp,by simpa [shift,shifts,shiftH,shiftB,blkG] using h⟩
def SCc:List (Nat×(List AV→List Blk→(AV→List Blk→Prop)→Prop)):= [(196,sGrow),(1000000+5,fun _ _ _=>False)]
theorem SCc_ok:SCallsOk prog SCc:=Zcc sGrow_ok GByte_ok
def sumL (ps:List (List Int)):Nat:=ps.flatten.length
theorem wr38a {Ev:Env prog} {b:Ev.β} {Q:Exit→St Ev.β→Prop} (ps:List (List Int)) (hl:ps.length≤1000000):∀(rest:List (List Int)) (k s:Nat),ps.drop k=rest→k≤ps.length→s+sumL rest≤1000000→
   (∀i:Int,Q (.exit 0) ⟨tm38a (partsR ps) ((s+sumL rest:Nat):Int) ps.length i, [],b⟩)→WR Ev lp38a (rest.length+1) ⟨tm38a (partsR ps) s ps.length k, [],b⟩ Q
 | [],k,s,hd,hk,hs,h=>by
   refine WR.ofMask [0,3,9,10,11] mixed (CX.Ok.of (u:=false) Zaj Zaf) (k:=100) ?_
   show wpc _ _ _ _ _ _ _ (maskK 0 _ _)
   rw [r38a]
   have:=drop_nil hd
   exact Zea (by simp<;>omega) (h _)
 | p::rest,k,s,hd,hk,hs,h=>by
   refine WR.ofMask [0,3,9,10,11] mixed (CX.Ok.of (u:=false) Zaj Zaf) (k:=100) ?_
   show wpc _ _ _ _ _ _ _ (maskK 0 _ _)
   rw [r38a]
   obtain ⟨hk',hr,hd'⟩:=drop_cons hd
   have hsum:sumL (p::rest)=p.length+sumL rest:=by simp [sumL]
   rw [hsum] at hs h
   have e:Zaa Zax ((s:Int)+((bytesR p).length:Int))=((s+p.length:Nat):Int):=by rw [bytesR_len,wrap_i64 (by omega) (by omega)];omega
   refine Zbt (by simp<;>omega) (Zbt (by simp) ⟨bytesR p,by simp [partsR,hr], ?_⟩)
   rw [e,wrap_succ hk' (by omega)]
   refine Zea (by simp<;>omega) (wr38a ps hl rest (k+1) (s+p.length) hd' hk' (by omega) ?_)
   rw [Nat.add_assoc];exact h
theorem wr38b {Ev:Env prog} {b:Ev.β} {Q:Exit→St Ev.β→Prop} (ps:List (List Int)) (hl:ps.length≤1000000):∀(rest:List (List Int)) (k v:Nat) (acc:List Int),ps.drop k=rest→k≤ps.length→acc.length+sumL rest≤1000000→
   (∀(i:Int),Q (.exit 2) ⟨tm38b (partsR ps) (v+rest.length) (acc++rest.flatten).length ps.length i, [blkG (flatA (bytesR (acc++rest.flatten))) (v+rest.length)],b⟩)→
   WR Ev lp38b (rest.length+1) ⟨tm38b (partsR ps) v acc.length ps.length k, [blkG (flatA (bytesR acc)) v],b⟩ Q
 | [],k,v,acc,hd,hk,hs,h=>by
   refine Zdk [6,25,26,27] mixed (CX.Ok.of (u:=false) Zaj GByte_ok) (k:=100) ?_
   rw [r38b]
   have:=drop_nil hd
   simp only [List.flatten_nil,List.append_nil] at h
   exact Zea (by simp<;>omega) (h _)
 | p::rest,k,v,acc,hd,hk,hs,h=>by
   refine Zdk [6,25,26,27] mixed (CX.Ok.of (u:=false) Zaj GByte_ok) (k:=100) ?_
   rw [r38b]
   obtain ⟨hk',hr,hd'⟩:=drop_cons hd
   have hsum:sumL (p::rest)=p.length+sumL rest:=by simp [sumL]
   rw [hsum] at hs
   refine Zbt (by simp<;>omega) (Zbt (by simp) ⟨bytesR p,by simp [partsR,hr],rfl,Zbt (by rw [bytesR_len];simp<;>omega) ?_⟩)
   rw [wrap_succ hk' (by omega),bytesR_len]
   have e:flatA (bytesR acc)++flatA (bytesR p)=flatA (bytesR (acc++p)):=by rw [flatA_bytes,flatA_bytes,flatA_bytes,List.map_append]
   rw [e,←Zdo]
   refine wr38b ps hl rest (k+1) (v+1) (acc++p) hd' hk' (by rw [Zdo];omega) fun i=> ?_
   have h1:=h i
   rw [List.flatten_cons,←Zcl,List.length_cons,show v+(rest.length+1)=v+1+rest.length by omega] at h1
   exact h1
def wl38 {β:Type}:WLT β:=fun c tm hp b K=>match cidO c with
 |4=>∃(ps:List (List Int)) (z:Nat),c= .loop lp38a∧maskTm [0,3,9,10,11] 0 tm=tm38a (partsR ps) 0 (partsR ps).length 0∧hp= []∧((ps.length≤1000000∧sumL ps≤1000000)∧z=sumL ps)∧∀i:Int,K (.exit 0) (tm38a (partsR ps) z (partsR ps).length i) [] b
 |12=>∃(ps:List (List Int)) (v z m:Nat) (q:List Int),c= .loop lp38b∧maskTm [6,25,26,27] 0 tm=tm38b (partsR ps) v 0 (partsR ps).length 0∧hp= [blkG [] v]∧((ps.length≤1000000∧sumL ps≤1000000)∧z=v+ps.length∧q=ps.flatten∧m=q.length)∧∀i:Int,K (.exit 2) (tm38b (partsR ps) z m (partsR ps).length i) [blkG (flatA (bytesR q)) z] b
 |_=>False
theorem wl38_ok {Ev:Env prog} (c:Code) (tm:List AV) (hp:List Blk) (b:Ev.β) (K:Exit→List AV→List Blk→Ev.β→Prop) (h:wl38 c tm hp b K):W Ev c ⟨tm,hp,b⟩ (fun e s=>K e s.tm s.hp s.b):=by
 unfold wl38 at h
 split at h
 · obtain ⟨ps,z,rfl,htm,rfl,⟨⟨hl,hs⟩,rfl⟩,hK⟩:=h
   rw [partsR_len] at htm hK
   refine W.cast (htm▸maskTm_le _ tm 0) (Zco _) ?_
   exact W.rounds (wr38a (Q:=fun e s=>K e s.tm s.hp s.b) ps hl ps 0 0 rfl (Nat.zero_le _) (by omega) (by simpa using hK))
 · obtain ⟨ps,v,z,m,q,rfl,htm,rfl,⟨⟨hl,hs⟩,rfl,rfl,rfl⟩,hK⟩:=h
   rw [partsR_len] at htm hK
   refine W.cast (htm▸maskTm_le _ tm 0) (Zco _) ?_
   exact W.rounds (wr38b (Q:=fun e s=>K e s.tm s.hp s.b) ps hl ps 0 v [] rfl (Nat.zero_le _) (by simpa using hs) (by simpa using hK))
 · exact h.elim
abbrev Qz32 (v0:List (List Int)):=Zae (Zal 1 (partsR v0))::Zae (i64 ((Zac (partsR v0):Nat):Int))::Zae (i64 0)::bds 8 []
theorem concat_nf (ps:List (List Dv)):wpFn prog ⟨[],SCc,wl38,y,false⟩ 100 f149 [.d (.sl 1 ps)] b R=(∃(ps0:List (List Int)) (z1:Nat),Zbq lp38a=Zbq lp38a∧(Zae (Zal 1 ps)::Zaz::Zaz::Zae (i64 0)::bds 5 (Zae (Zal 1 ps)::Zae (i64 ((Zac ps:Nat):Int))::Zae (i64 0)::bds 24 []))=(Zae (Zal 1 (partsR ps0))::Zaz::Zaz::Zae (i64 0)::bds 5 (Zae (Zal 1 (partsR ps0))::Zae (i64 ((Zac (partsR ps0):Nat):Int))::Zae (i64 0)::bds 24 []))∧([]:List Blk)= []∧((Zac ps0≤1000000∧sumL ps0≤1000000)∧z1=sumL ps0)∧∀(i:Int),∃(n2:Int), [Zae (Dv.s (.slice none 0 0)),Zae (i64 (z1:Int))]= [Zae (Dv.s (.slice none 0 0)),Zae (i64 n2)]∧((0:Int)<n2∧n2≤(1000000:Int))∧∃(ps3:List (List Int)) (v4:Nat) (z5:Nat) (m6:Nat) (q7:List Int),Zbq lp38b=Zbq lp38b∧(bds 6 (AV.gref 0 1 0 1::bds 18 (Qz32 ps0)))=(bds 6 (AV.gref 0 v4 0 1::bds 18 (Qz32 ps3)))∧ [Blk.mk [] false true 1]= [Blk.mk [] false true v4]∧((Zac ps3≤1000000∧sumL ps3≤1000000)∧z5=v4+Zac ps3∧q7=List.flatten ps3∧m6=Zac q7)∧∀(i:Int),z5=z5∧∃(xs8:List (List Dv)),flatA (bytesR q7)=flatA xs8∧Zac xs8=m6∧(∀(r:List Dv),r∈xs8→Zac r=1)∧R (.d (Zal 1 xs8)) b):=by kernel_rfl
theorem pcConcat (ps:List (List Int)) (hl:ps.length≤1000000) (h0:0<sumL ps) (hs:sumL ps≤1000000):PCall prog 149 [.d (.sl 1 (partsR ps))] (.d (.sl 1 (bytesR ps.flatten))):=by
 refine PCall.ofFnW (n:=100) (u:=false) (fun _=>wl38) mixed Zaj SCc_ok (fun Ev=>wl38_ok) func149 (by rfl) (by rfl) fun Ev bb=> ?_
 rw [concat_nf]
 refine ⟨ps,_,rfl,rfl,rfl,⟨⟨hl,hs⟩,rfl⟩,fun _=>⟨_,rfl,by omega,ps,1,_,_,_,rfl,rfl,rfl,⟨⟨hl,hs⟩,rfl,rfl,rfl⟩,fun _=>⟨rfl,bytesR ps.flatten,rfl,by rw [bytesR_len],fun r hr=> ?_,rfl⟩⟩⟩
 simp only [bytesR,Zbe] at hr
 obtain ⟨_,_,rfl⟩:=hr;rfl
def cConcat (args:List AV) (K:AV→Prop):Prop:=∃(ps:List (List Int)) (z:List Int),args= [.d (.sl 1 (partsR ps))]∧((ps.length≤1000000∧0<sumL ps∧sumL ps≤1000000)∧z=ps.flatten)∧K (.d (.sl 1 (bytesR z)))
theorem cConcat_ok:∀args K,cConcat args K→∃x,PCall prog 149 args x∧K x:=by
 rintro _ K ⟨ps,_,rfl,⟨⟨h1,h2,h3⟩,rfl⟩,h⟩;exact ⟨_,pcConcat ps h1 h2 h3,h⟩
def TJn:List (Nat×(List AV→(AV→Prop)→Prop)):= [(85,cSized),(125,cCount),(148,cPaged),(149,cConcat),(150,cTrim)]
theorem TJn_ok:CallsOk prog TJn:=Zag cSized_ok (Zag cCount_ok (Zag cPaged_ok (Zag cConcat_ok (Zag cTrim_ok Zaj))))
theorem join_nf (ps:List (List Dv)) (n:Int):wpFn prog ⟨TJn, [],wl,y,false⟩ 100 f89 [.d (.sl 1 ps), .d (i64 n)] b R=(∃(n0:Int) (z1:Bool), [Zae (i64 n)]= [Zae (i64 n0)]∧z1=sizedS n0∧BIf (!z1) (R (.tup Qz25) b) (∃(n2:Int) (z3:Int), [Zae (i64 n)]= [Zae (i64 n2)]∧z3=countS n2∧BIf (((Zac ps:Nat):Int) !=z3) (R (.tup Qz25) b) (∃(ps4:List (List Int)) (z5:Bool), [Zae (Zal 1 ps)]= [Zae (Zal 1 (partsR ps4))]∧(Zac ps4≤9223372036854775807∧z5= !anyOther ps4)∧BIf (!z5) (R (.tup Qz25) b) (∃(ps6:List (List Int)) (z7:List Int), [Zae (Zal 1 ps)]= [Zae (Zal 1 (partsR ps6))]∧((Zac ps6≤1000000∧0<sumL ps6∧sumL ps6≤1000000)∧z7=List.flatten ps6)∧BIf (true&&decide ((0:Int)≤n∧n≤((Zac (bytesR z7):Nat):Int)∧((Zac (bytesR z7):Nat):Int)≤((Zac (bytesR z7):Nat):Int)∧((Zac (bytesR z7):Nat):Int)≤((Zac (bytesR z7):Nat):Int))) (∃(p8:List Int) (z9:List Int), [Zae (Zal 1 (List.take (Zat ((Zac (bytesR z7):Nat):Int) - Zat n) (List.drop (Zat n) (bytesR z7)))),Zae (Dv.s (Value.string (ByteArray.mk #[(0:UInt8)])))]= [Zae (Zal 1 (bytesR p8)),Zae (Dv.s (Value.string strZ))]∧(Zac p8≤9223372036854775807∧z9=trimS p8)∧BIf (decide (((Zac (bytesR z9):Nat):Int)>(0:Int))) (R (.tup [Zae (Dv.s (.slice none 0 0)),Zae (i64 12)]) b) (BIf (true&&decide ((0:Int)≤(0:Int)∧(0:Int)≤n∧n≤n∧n≤((Zac (bytesR z7):Nat):Int))) (BIf (true&&Zat n==Zat n) (R (.tup [AV.full 1 (List.take (Zat n - Zat (0:Int)) (List.drop (Zat (0:Int)) (bytesR z7))),Zae (i64 0)]) b) (R (.tup [Zae (Zal 1 (List.take (Zat n - Zat (0:Int)) (List.drop (Zat (0:Int)) (bytesR z7)))),Zae (i64 0)]) b)) False)) False)))):=by kernel_rfl
theorem countS_eq {n:Nat} (h:n≤1000000):countS n=(((n+255) / 256:Nat):Int):=by
 unfold countS
 have e1:Zaa Zax ((n:Int)+256)=((n+256:Nat):Int):=by rw [wrap_i64 (by omega) (by omega)];omega
 have e2:Zaa Zax (((n+256:Nat):Int) - 1)=((n+255:Nat):Int):=by rw [wrap_i64 (by omega) (by omega)];omega
 have e3:Int.tdiv ((n+255:Nat):Int) 256=(((n+255) / 256:Nat):Int):=by
   rw [Int.tdiv_eq_ediv_of_nonneg (by omega)];rfl
 rw [e1,e2,e3,wrap_i64 (by omega) (by omega)]
theorem sum_pages:∀ {ps:List (List Int)},anyOther ps=false→ps.flatten.length=256*ps.length
 | [],_=>rfl
 | p::ps,h=>by
   simp only [anyOther,List.any_cons,Bool.or_eq_false_iff] at h
   have h1:p.length=256:=by have:=h.1;simp at this;omega
   have:=sum_pages (ps:=ps) h.2
   simp only [List.flatten_cons,Zdo,List.length_cons];omega
def joinS (ps:List (List Int)) (n:Int):List Int×Int:=
 if (!sizedS n)||(((ps.length:Int) !=countS n)||anyOther ps) then ([],1)
 else if 0<(trimS (ps.flatten.drop n.toNat)).length then ([],12) else (ps.flatten.take n.toNat,0)
theorem sized_nat {n:Int} (h:sizedS n=true):∃k:Nat,n=k∧1≤k∧k≤4096:=by
 simp only [sizedS,Zam,decide_eq_true_eq] at h
 exact ⟨n.toNat,by omega,by omega,by omega⟩
theorem pcJoin (ps:List (List Int)) (n:Int) (hl:ps.length≤9223372036854775807):PCall prog 89 [.d (.sl 1 (partsR ps)), .d (i64 n)] (.tup [.d (.sl 1 (bytesR (joinS ps n).1)), .d (i64 (joinS ps n).2)]):=by
 refine PCall.ofFnV (n:=100) (u:=false) (fun _=>wlNo _) mixed TJn_ok Zaf (fun Ev=>wlNo_ok Ev) func89 (by rfl) (by rfl) fun Ev bb=> ?_
 rw [join_nf,partsR_len]
 have bad:∀z:Int,((!sizedS n)||(((ps.length:Int) !=countS n)||anyOther ps))=true→z=1→LeV (AV.tup [Zae (Dv.s (Value.slice none 0 0)),Zae (i64 z)]) (.tup [.d (.sl 1 (bytesR (joinS ps n).1)), .d (i64 (joinS ps n).2)]):=by
   intro z h hz
   rw [joinS,if_pos h,hz];exact LeV.tups (.cons (.nil rfl) (.cons .rfl .nil))
 refine ⟨n,_,rfl,rfl,Zar (fun g1=>bad 1 (by rw [g1];rfl) rfl) fun g1=>⟨n,_,rfl,rfl,Zar (fun g2=>bad 1 (by rw [g1,g2];rfl) rfl) fun g2=>⟨ps,_,rfl,⟨hl,rfl⟩,Zar (fun g3=>bad 1 (by rw [g1,g2];simpa using g3) rfl) fun g3=> ?_⟩⟩⟩
 have hz:sizedS n=true:=by simpa using g1
 have hc:(ps.length:Int)=countS n:=by simpa using g2
 have ho:anyOther ps=false:=by simpa using g3
 obtain ⟨k,rfl,hk1,hk2⟩:=sized_nat hz
 rw [countS_eq (by omega)] at hc
 have hfl:=sum_pages ho
 have hk3:k≤ps.flatten.length:=by omega
 have hgood:((!sizedS (k:Int))||(((ps.length:Int) !=countS k)||anyOther ps))=false:=by rw [g1,g2,ho];rfl
 refine ⟨ps,_,rfl,⟨⟨by omega,by unfold sumL;omega,by unfold sumL;omega⟩,rfl⟩, ?_⟩
 rw [bytesR_len,Zba,Zba,bytesR_drop,bytesR_take]
 have e1:List.take (ps.flatten.length - k) (List.drop k ps.flatten)=List.drop k ps.flatten:=List.take_of_length_le (by simp)
 rw [e1]
 refine Zbt (by simp only [Bool.true_and,decide_eq_true_eq];omega) ⟨_,_,rfl,⟨by rw [List.length_drop];omega,rfl⟩,Zar (fun g4=> ?_) fun g4=>Zbt (by simp only [Bool.true_and,decide_eq_true_eq];omega) (Zbt (by simp) ?_)⟩
 · rw [bytesR_len] at g4
   rw [joinS,if_neg (by rw [hgood];simp),if_pos (by simpa using g4)]
   exact LeV.tups (.cons (.nil rfl) (.cons .rfl .nil))
 · rw [bytesR_len] at g4
   have e2:List.take (k - Zat 0) (List.drop (Zat 0) (bytesR ps.flatten))=bytesR (ps.flatten.take k):=by rw [show Zat 0=0 from rfl,List.drop_zero,Nat.sub_zero,bytesR_take]
   rw [e2,joinS,if_neg (by rw [hgood];simp),if_neg (by simpa using g4),Zba]
   exact LeV.tups (.cons .full (.cons .rfl .nil))
def cJoin (args:List AV) (K:AV→Prop):Prop:=∃(ps:List (List Int)) (n:Int) (z:List Int) (e:Int),args= [.d (.sl 1 (partsR ps)), .d (i64 n)]∧(ps.length≤9223372036854775807∧(z,e)=joinS ps n)∧K (.tup [.d (.sl 1 (bytesR z)), .d (i64 e)])
theorem cJoin_ok:∀args K,cJoin args K→∃x,PCall prog 89 args x∧K x:=by
 rintro _ K ⟨ps,n,z,e,rfl,⟨hl,he⟩,h⟩
 have h1:=pcJoin ps n hl
 rw [←he] at h1
 exact ⟨_,h1,h⟩
def TAc:List (Nat×(List AV→(AV→Prop)→Prop)):= [(27,cSplit),(83,cAnnounced),(84,cRoot)]
theorem TAc_ok:CallsOk prog TAc:=Zag cSplit_ok (Zag cAnnounced_ok (Zag cRoot_ok Zaj))
abbrev Qz34:List AV:= [AV.agg [Zae (i64 0),Zae (i64 0),Zae (u64 0),Zae (i64 0)],Zae (i64 1)]
theorem announce_nf (v t:Int) (p:List (List Dv)):wpFn prog ⟨TAc, [],wl,y,false⟩ 100 f25 [.d (i64 v), .d (.sl 1 p), .d (i64 t)] b R=(∃(p0:List Int), [Zae (Zal 1 p)]= [Zae (Zal 1 (bytesR p0))]∧Zac p0≤9223372036854775807∧∃(z1:Bool) (q2:List (List Int)),z1=sizedS ((Zac p0:Nat):Int)∧q2=splitS p0∧BIf z1 (∃(a3:Int) (n4:Int) (r5:Int) (t6:Int) (z7:Bool), [AV.agg [Zae (i64 v),Zae (i64 ((Zac p:Nat):Int)),Zae (u64 0),Zae (i64 t)]]= [AV.agg [Zae (i64 a3),Zae (i64 n4),Zae (u64 r5),Zae (i64 t6)]]∧z7=announcedS a3 n4 t6∧BIf (!z7) (R (.tup Qz34) b) (∃(ps8:List (List Int)) (z9:Int×Int), [Zae (Zal 1 (partsR q2))]= [Zae (Zal 1 (partsR ps8))]∧z9=rootS ps8∧R (.tup [AV.agg [Zae (i64 v),Zae (i64 ((Zac p:Nat):Int)),Zae (u64 (Prod.fst z9)),Zae (i64 t)],Zae (i64 (Prod.snd z9))]) b)) (R (.tup Qz34) b)):=by kernel_rfl
theorem cloneB_nf (p:List (List Dv)):wpFn prog ⟨[], [],wl,y,false⟩ 100 f120 [.d (.sl 1 p)] b R=(∀(t:Bool),(t=true→p= [])→BIf t (R (.d (Dv.s (.slice none 0 0))) b) (BIf (decide ((0+Zac p)*1≤140737488355328)) (BIf (List.isEmpty p) (R (AV.full 1 []) b) (R (.d (Zal 1 ([]++p))) b)) False)):=by kernel_rfl
theorem clone50_nf (p:List (List Dv)):wpFn prog ⟨[], [],wl,y,false⟩ 100 f51 [.d (.sl 1 p)] b R=(∀(t:Bool),(t=true→p= [])→BIf t (R (.d (Dv.s (.slice none 0 0))) b) (BIf (decide ((0+Zac p)*8≤140737488355328)) (BIf (List.isEmpty p) (R (AV.full 1 []) b) (R (.d (Zal 1 ([]++p))) b)) False)):=by kernel_rfl
structure NotT where
 v:Int
 n:Int
 r:Int
 t:Int
def annS (v:Int) (p:List Int) (t:Int):NotT×Int:=
 if sizedS p.length&&announcedS v p.length t then (⟨v,p.length,(rootS (splitS p)).1,t⟩,(rootS (splitS p)).2) else (⟨0,0,0,0⟩,1)
def notV (x:NotT):AV:=notA x.v x.n x.r x.t
theorem pcAnnounce (v t:Int) (p:List Int) (hl:p.length≤9223372036854775807):PCall prog 25 [.d (i64 v), .d (.sl 1 (bytesR p)), .d (i64 t)] (.tup [notV (annS v p t).1, .d (i64 (annS v p t).2)]):=by
 refine Zbi (n:=100) (u:=false) mixed TAc_ok Zaf func25 (by rfl) (by rfl) fun Ev bb=> ?_
 rw [announce_nf]
 refine ⟨p,rfl,hl,_,_,rfl,rfl,Zar (fun g1=>⟨_,_,_,_,_,rfl,rfl,Zar (fun g2=> ?_) fun g2=>⟨_,_,rfl,rfl, ?_⟩⟩) fun g1=> ?_⟩
 · rw [bytesR_len] at g2
   have g2:announcedS v p.length t=false:=by simpa using g2
   rw [annS,g1,g2];rfl
 · rw [bytesR_len] at g2 ⊢
   have g2:announcedS v p.length t=true:=by simpa using g2
   rw [annS,g1,g2];rfl
 · rw [annS,g1];rfl
def cAnnounce (args:List AV) (K:AV→Prop):Prop:=∃(v t:Int) (p:List Int) (z:NotT) (e:Int),args= [.d (i64 v), .d (.sl 1 (bytesR p)), .d (i64 t)]∧(p.length≤9223372036854775807∧(z,e)=annS v p t)∧K (.tup [notV z, .d (i64 e)])
theorem cAnnounce_ok:∀args K,cAnnounce args K→∃x,PCall prog 25 args x∧K x:=by
 rintro _ K ⟨v,t,p,z,e,rfl,⟨hl,he⟩,h⟩
 have:=pcAnnounce v t p hl
 rw [←he] at this
 exact ⟨_,this,h⟩
def proofsR (qs:List (List Int)):List (List Dv):=qs.map fun q=> [.sl 1 (digR q)]
def G22:List (Nat×(List AV→List Blk→(AV→List Blk→Prop)→Prop)):= [(1000000+33,fun _ _ _=>False),(1000000+28,fun _ _ _=>False)]
theorem G22_ok:SCallsOk prog G22:=Zcc (fun _ _ _ h=>h.elim) (Zcc (fun _ _ _ h=>h.elim) Zaf)
theorem clone47S_nf (p:List (List Dv)):wpFnS prog ⟨[],G22,wl,y,false⟩ 100 f127 [.d (.sl 1 p)] b RS=(∀(t:Bool),(t=true→p= [])→BIf t (RS (Zae (Dv.s (.slice none 0 0))) [] b) (BIf (true&&decide (Zac p*24≤140737488355328)) (BIf (decide (0<Zac p)) (RS (AV.gref 0 0 (Zac p) 1) [Blk.mk (flatA p) false true 0] b) (RS (AV.full 1 []) [] b)) False)):=by kernel_rfl
theorem clone49S_nf (p:List (List Dv)):wpFnS prog ⟨[],G22,wl,y,false⟩ 100 f128 [.d (.sl 1 p)] b RS=(∀(t:Bool),(t=true→p= [])→BIf t (RS (Zae (Dv.s (.slice none 0 0))) [] b) (BIf (true&&decide (Zac p*24≤140737488355328)) (BIf (decide (0<Zac p)) (RS (AV.gref 0 0 (Zac p) 1) [Blk.mk (flatA p) false true 0] b) (RS (AV.full 1 []) [] b)) False)):=by kernel_rfl
theorem pcCloneB (xs:List (List Dv)) (hl:xs.length≤1000000):PCall prog 120 [.d (.sl 1 xs)] (.d (.sl 1 xs)):=by
 refine PCall.ofFnV (n:=100) (u:=false) (fun _=>wlNo _) mixed Zaj Zaf (fun Ev=>wlNo_ok Ev) func120 (by rfl) (by rfl) fun Ev bb=> ?_
 rw [cloneB_nf]
 refine fun t ht=>Zar (fun h=>by rw [ht h];exact .nil rfl) fun h=>Zbt (by simp<;>omega) (Zar (fun h=>by rw [List.isEmpty_iff.1 h];exact .full) fun h=> .rfl)
def cCloneB (args:List AV) (K:AV→Prop):Prop:=∃(xs:List (List Dv)),args= [.d (.sl 1 xs)]∧xs.length≤1000000∧K (.d (.sl 1 xs))
theorem cCloneB_ok:∀args K,cCloneB args K→∃x,PCall prog 120 args x∧K x:=by
 rintro _ K ⟨xs,rfl,hl,h⟩;exact ⟨_,pcCloneB xs hl,h⟩
theorem pcClone50 (xs:List (List Dv)) (hl:xs.length≤1000000):PCall prog 51 [.d (.sl 1 xs)] (.d (.sl 1 xs)):=by
 refine PCall.ofFnV (n:=100) (u:=false) (fun _=>wlNo _) mixed Zaj Zaf (fun Ev=>wlNo_ok Ev) func51 (by rfl) (by rfl) fun Ev bb=> ?_
 rw [clone50_nf]
 refine fun t ht=>Zar (fun h=>by rw [ht h];exact .nil rfl) fun h=>Zbt (by simp<;>omega) (Zar (fun h=>by rw [List.isEmpty_iff.1 h];exact .full) fun h=> .rfl)
def cClone50 (args:List AV) (K:AV→Prop):Prop:=∃(xs:List (List Dv)),args= [.d (.sl 1 xs)]∧xs.length≤1000000∧K (.d (.sl 1 xs))
theorem cClone50_ok:∀args K,cClone50 args K→∃x,PCall prog 51 args x∧K x:=by
 rintro _ K ⟨xs,rfl,hl,h⟩;exact ⟨_,pcClone50 xs hl,h⟩
structure SprT where
 no:NotT
 ps:List (List Int)
 qs:List (List Int)
 rows:List (List Dv)
 pf:List Int
 i1:Int
 i2:Int
 i3:Int
 i4:Int
 i5:Int
def spD (s:SprT):List Dv:= [i64 s.no.v,i64 s.no.n,u64 s.no.r,i64 s.no.t, .sl 1 (partsR s.ps), .sl 1 (proofsR s.qs), .sl 2 s.rows, .sl 1 (digR s.pf),i64 s.i1,i64 s.i2,i64 s.i3,i64 s.i4,i64 s.i5]
def spV (s:SprT):AV:= .agg [.d (i64 s.no.v), .d (i64 s.no.n), .d (u64 s.no.r), .d (i64 s.no.t), .d (.sl 1 (partsR s.ps)), .d (.sl 1 (proofsR s.qs)), .d (.sl 2 s.rows), .d (.sl 1 (digR s.pf)), .d (i64 s.i1), .d (i64 s.i2), .d (i64 s.i3), .d (i64 s.i4), .d (i64 s.i5)]
def TSo:List (Nat×(List AV→(AV→Prop)→Prop)):= [(125,cCount),(177,cCheck)]
theorem TSo_ok:CallsOk prog TSo:=Zag cCount_ok (Zag cCheck_ok Zaj)
noncomputable def lp45:Code:=sub [1,1,0,1,2,3] (code f88)
def tm45 (ps:List (List Dv)) (n i:Int):List AV:= [.bad, .ptr 0 0]++Zad 40 .bad++ [.d (.sl 1 ps), .d (i64 n), .d (i64 i)]++Zad 16 .bad
def TSs:List (Nat×(List AV→(AV→Prop)→Prop)):= [(125,cCount),(83,cAnnounced),(148,cPaged)]
theorem TSs_ok:CallsOk prog TSs:=Zag cCount_ok (Zag cAnnounced_ok (Zag cPaged_ok Zaj))
theorem pcClone47:CloneF prog 127 1:=fun xs hl=>by
 refine FCall.ofFnF (n:=100) (u:=false) (fun _=>wlNo _) mixed Zaj G22_ok (fun Ev=>wlNo_ok Ev) func127 (by rfl) (by rfl) (by split<;>rfl) fun Ev bb=> ?_
 rw [clone47S_nf]
 refine fun t ht=>Zar (fun h=>by rw [ht h];exact ⟨.nilFull rfl,rfl⟩) fun h=>Zbt (by simp<;>omega) ?_
 cases xs with
 |nil=>exact Zea rfl ⟨.rfl,rfl⟩
 |cons a xs=>exact Zbt (by simp) ⟨.rfl,rfl⟩
theorem pcClone49:CloneF prog 128 1:=fun xs hl=>by
 refine FCall.ofFnF (n:=100) (u:=false) (fun _=>wlNo _) mixed Zaj G22_ok (fun Ev=>wlNo_ok Ev) func128 (by rfl) (by rfl) (by split<;>rfl) fun Ev bb=> ?_
 rw [clone49S_nf]
 refine fun t ht=>Zar (fun h=>by rw [ht h];exact ⟨.nilFull rfl,rfl⟩) fun h=>Zbt (by simp<;>omega) ?_
 cases xs with
 |nil=>exact Zea rfl ⟨.rfl,rfl⟩
 |cons a xs=>exact Zbt (by simp) ⟨.rfl,rfl⟩
theorem proved_nf (s:SprT) (i:Int) (p q:List (List Dv)):wpFn prog ⟨TSo, [],wl,y,false⟩ 100 f126 [spV s, .d (i64 i), .d (.sl 1 p), .d (.sl 1 q)] b R=(∃(n0:Int) (z1:Int), [Zae (i64 (NotT.n (SprT.no s)))]= [Zae (i64 n0)]∧z1=countS n0∧∃(r2:Int) (n3:Int) (i4:Int) (p5:List Int) (q6:List Int) (z7:Bool), [Zae (u64 (NotT.r (SprT.no s))),Zae (i64 z1),Zae (i64 i),Zae (Zal 1 p),Zae (Zal 1 q)]= [Zae (u64 r2),Zae (i64 n3),Zae (i64 i4),Zae (Zal 1 (bytesR p5)),Zae (Zal 1 (digR q6))]∧z7=checkS r2 n3 i4 p5 q6∧R (.d (bo z7)) b):=by kernel_rfl
def provedS (s:SprT) (i:Int) (p q:List Int):Bool:=checkS s.no.r (countS s.no.n) i p q
theorem pcProved (s:SprT) (i:Int) (p q:List Int):PCall prog 126 [spV s, .d (i64 i), .d (.sl 1 (bytesR p)), .d (.sl 1 (digR q))] (.d (bo (provedS s i p q))):=by
 refine Zbi (n:=100) (u:=false) mixed TSo_ok Zaf func126 (by rfl) (by rfl) fun Ev bb=> ?_
 rw [proved_nf]
 exact ⟨_,_,rfl,rfl,_,_,_,_,_,_,rfl,rfl,rfl⟩
def cProved (args:List AV) (K:AV→Prop):Prop:=∃(s:SprT) (i:Int) (p q:List Int) (z:Bool),args= [spV s, .d (i64 i), .d (.sl 1 (bytesR p)), .d (.sl 1 (digR q))]∧z=provedS s i p q∧K (.d (bo z))
theorem cProved_ok:∀args K,cProved args K→∃x,PCall prog 126 args x∧K x:=by
 rintro _ K ⟨s,i,p,q,_,rfl,rfl,h⟩;exact ⟨_,pcProved s i p q,h⟩
def TPd:List (Nat×(List AV→(AV→Prop)→Prop)):= [(126,cProved)]
theorem TPd_ok:CallsOk prog TPd:=Zag cProved_ok Zaj
def blkSI (s:SprT):Blk:=⟨(spD s).map .d,false,false,0⟩
abbrev Qz1 (v0:SprT):List AV:= [Zae (i64 (NotT.v (SprT.no v0))),Zae (i64 (NotT.n (SprT.no v0))),Zae (u64 (NotT.r (SprT.no v0))),Zae (i64 (NotT.t (SprT.no v0))),Zae (Zal 1 (partsR (SprT.ps v0))),Zae (Zal 1 (proofsR (SprT.qs v0))),Zae (Zal 2 (SprT.rows v0)),Zae (Zal 1 (digR (SprT.pf v0))),Zae (i64 (SprT.i1 v0)),Zae (i64 (SprT.i2 v0)),Zae (i64 (SprT.i3 v0)),Zae (i64 (SprT.i4 v0)),Zae (i64 (SprT.i5 v0))]
theorem r45 (s:SprT) (ps:List (List Dv)) (n i:Int):wpc prog ⟨TPd, [],wl,y,false⟩ 100 lp45 (tm45 ps n i) [blkSI s] b (maskT [1,2,42,43,44] K)=(BIf (decide (i<n)) (BIf (true&&decide (0≤i)) (∃(xs0:List (List Dv)),ps[Zat i]? =some [Zal 1 xs0]∧BIf (true&&decide (0≤i)) (∃(xs3:List (List Dv)),(proofsR (SprT.qs s))[Zat i]? =some [Zal 1 xs3]∧∃(s6:SprT) (i7:Int) (p8:List Int) (q9:List Int) (z10:Bool), [AV.agg (Qz1 s),Zae (i64 i),Zae (Zal 1 xs0),Zae (Zal 1 xs3)]= [AV.agg (Qz1 s6),Zae (i64 i7),Zae (Zal 1 (bytesR p8)),Zae (Zal 1 (digR q9))]∧z10=provedS s6 i7 p8 q9∧BIf (!z10) (K .ret (Zaz::AV.ptr 0 0::Zae (bo false)::bds 39 (Zae (Zal 1 ps)::Zae (i64 n)::Zae (i64 i)::bds 16 [])) [Blk.mk (Qz1 s) false false 0] b) (K .normal (Zaz::AV.ptr 0 0::bds 40 (Zae (Zal 1 ps)::Zae (i64 n)::Zae (i64 (Zaa .i64 (i+1)))::bds 16 [])) [Blk.mk (Qz1 s) false false 0] b)) False) False) (K (Exit.exit 0) (Zaz::AV.ptr 0 0::bds 40 (Zae (Zal 1 ps)::Zae (i64 n)::Zae (i64 i)::bds 16 [])) [Blk.mk (Qz1 s) false false 0] b)):=by kernel_rfl
end Go.Proofs.YtibhflogmbfpcaaGreatDoor.Am
