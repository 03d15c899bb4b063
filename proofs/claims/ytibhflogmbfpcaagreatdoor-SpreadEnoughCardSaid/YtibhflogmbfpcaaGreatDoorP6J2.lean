import Derived.Test.YtibhflogmbfpcaaGreatDoorP6J1
import Derived.Scope
import Derived.ChangeArms
import Derived.OpenShut
import Derived.ChangeShapes
import Derived.Carry
import Derived.ProofKit
import Derived.LaidMore
import Derived.FnData
import Derived.Test.YtibhflogmbfpcaaGreatDoorProg
import Derived.Shelf.Spec.TrailingZeros
set_option linter.unusedSimpArgs false
set_option linter.unusedVariables false
namespace Go.Proofs.YtibhflogmbfpcaaGreatDoor.Am
open Go Go.RowKit Tryz
open AV renaming bad → Zaz, d → Zae, ptr → Zbf, view → Zcx
open _root_.Array renaming getElem?_eq_some_iff → Zah
open BIf renaming of → Zar
open BitVec renaming ofInt → Zao
open Bool renaming and_eq_true → Zam, false_eq_true → Zcg
open Dv renaming sl → Zal
open Int renaming fdiv → Zcy, toNat → Zat
open Go.IntKind renaming i64 → Zax, u8 → Zcw, wrap → Zaa
open List renaming getElem?_eq_getElem → Zbk, getElem?_eq_some_iff → Zab, getElem?_take → Zas, getElem?_zip_eq_some → Zaq, length → Zac, mem_cons_of_mem → Zaw, mem_cons_self → Zay, mem_iff_getElem? → Zak, mem_of_getElem? → Zbb, replicate → Zad
open Nat renaming le_trans → Zbx
open Prod renaming fst → Zdq
open Go.Value renaming func → Zcj, slice → Zbn
open AV (bad)
set_option linter.unusedVariables false
set_option linter.unusedSimpArgs false
structure CX.Ok {P:Program} (Ev:Env P) (X:CX Ev.β):Prop where
 call:∀(k:Nat) f,X.call.lookup k=some f→∀args K,f args K→∃x,PCall P k args x∧K x
 scall:∀(k:Nat) f,X.scall.lookup k=some f→∀args hp K,f args hp K→∃x hp',SCall P k args hp x hp'∧K x hp'
 wl:∀c tm hp b K,X.wl c tm hp b K→W Ev c ⟨tm,hp,b⟩ (fun e s=>K e s.tm s.hp s.b)
 y:X.y=Ev.Y
section
variable {P:Program} {hp hp':List Blk} {tm tm':List AV} {o:Oper} {ops:Array Oper} {Ev:Env P} {X:CX Ev.β} {s:RS} {b:Ev.β}
theorem setB_self {x:Operand} {v:Bool} (h:evalA tm x= .d (.s (.bool v))):setB tm x v=tm:=by
 cases x with
 | tmp t=>
   simp only [evalA,List.getD] at h
   simp only [setB]
   cases ht:tm[t]? with
   |none=>rw [ht] at h;cases h
   |some y=>rw [ht] at h;simp only [Option.getD_some] at h;subst h;exact list_set_self ht
 |_=>rfl
theorem guardC_sound {A B:List AV→Prop} (h:guardC ops o tm A B):(wantedA ops o tm=some true∧A tm)∨(wantedA ops o tm=some false∧B tm):=by
 unfold guardC at h
 unfold wantedA
 split at h
 · rename_i hg;rw [hg];exact .inl ⟨rfl,h⟩
 · rename_i j want hg
   rw [hg]
   split at h
   · rename_i t ht
     split at h
     · rename_i bb hb
       simp only [ht,hb]
       have hs:setB tm (.tmp t) bb=tm:=setB_self hb
       rcases h.elim with ⟨rfl,h⟩|⟨rfl,h⟩<;>rw [hs] at h<;>cases want<;>simp only [Zcg,if_true,if_false] at h
       · exact .inr ⟨rfl,h⟩
       · exact .inl ⟨rfl,h⟩
       · exact .inl ⟨rfl,h⟩
       · exact .inr ⟨rfl,h⟩
     · rename_i vs hb
       simp only [ht,hb]
       exact .inr ⟨trivial,h⟩
     · exact h.elim
   · exact h.elim
theorem pickO_cond {t:Bool} {x y:AV} (h:pickO tm o=some (t,x,y)):setB tm (condOf o) t=tm:=by
 unfold pickO at h
 split at h<;>try (cases h;done)
 rename_i c a b ho
 split at h<;>try (cases h;done)
 rename_i t' hc
 cases h
 simp only [condOf,ho]
 exact setB_self hc
theorem pickO_body {pv:List (Nat×Loc)} {t:Bool} {x y:AV} (h:pickO tm o=some (t,x,y)):bodyX P ⟨tm,hp,pv⟩ o=some ⟨putA tm o.dst (if t then x else y),hp,pvPut pv o.dst⟩:=by
 unfold pickO at h
 split at h<;>try (cases h;done)
 rename_i c a b ho
 split at h<;>try (cases h;done)
 rename_i t' hc
 cases h
 have h1:xa P ⟨tm,hp,pv⟩ o=none:=by simp [xa,ho]
 have h2:xh P noCall ⟨tm,hp,pv⟩ o=none:=by simp [xh,ho]
 have h3:pvRead P ⟨tm,hp,pv⟩ o=none:=by
   unfold pvRead
   rw [ho]
   cases o.dst<;>rfl
 simp only [bodyX,h1,h2,h3]
 simp [xq,ho,hc]
theorem xStep_body (hw:wantedA ops o s.tm=some true):xStep P noCall ops s o=bodyX P s o:=by
 simp only [xStep,hw,bodyX]
 cases xa P s o with
 |some s1=>rfl
 | none=>cases xh P noCall s o with
   |some s1=>rfl
   |none=>cases xq P s.hp (evalA s.tm) o<;>rfl
theorem restC_sound {K:RS→Prop} (h:restC P s o K):∃s',bodyX P s o=some s'∧K s':=by
 unfold restC at h
 split at h
 · rename_i s' hs;exact ⟨s',hs,h⟩
 · exact h.elim
theorem appendC_sound {c:Call} {K:RS→Prop} (ho:o.op= .call c) (h:appendC P s o c K):∃s',bodyX P s o=some s'∧K s':=by
 unfold appendC at h
 split at h
 · rename_i x y hcal hx hy
   split at h
   · rename_i e' i hi
     split at h
     · rename_i ys hys
       split at h
       · rename_i loc e k xs hacc
         obtain ⟨hc,hK⟩:=h.elim'
         simp only [Zam,decide_eq_true_eq] at hc
         obtain ⟨⟨⟨h1,h2⟩,h3⟩,h4⟩:=hc
         refine ⟨_, ?_,hK⟩
         unfold accOf at hacc
         split at hacc<;>try (cases hacc;done)
         rename_i t
         split at hacc<;>try (cases hacc;done)
         rename_i loc' hl
         split at hacc<;>try (cases hacc;done)
         rename_i e1 k1 xs1 hown
         cases hacc
         simp only [bodyX,xa,ho,hcal,hx,hy,h3,hl,hown,hi,hys,if_true]
         rw [if_pos ⟨h1,h2,h4⟩]
       · rename_i hacc
         rcases h.elim with ⟨hc,h⟩|⟨hc,h⟩
         · obtain ⟨h4,hK⟩:=h.elim'
           simp only [Zam,decide_eq_true_eq] at hc h4
           refine ⟨_, ?_,hK⟩
           have hxa:xa P s o=none:=by
             simp only [xa,ho,hcal,hx,hy]
             split<;>try rfl
             rename_i t y' _ e1 e2
             cases e1;cases e2
             split<;>try rfl
             split<;>try rfl
             rename_i loc hl
             split<;>try rfl
             rename_i e k xs e1 i1 hown hi1
             exfalso
             simp only [accOf,hl,hown] at hacc
             cases hacc
           have hxh:xh P noCall s o=none:=by simp [xh,ho,hcal]
           have hxq:xq P s.hp (evalA s.tm) o=some (.own e' i.size ys):=by
             simp only [xq,ho,hcal,hx,hy,hc.2,if_true,xAppendQ,hi,hys,hc.1]
             rw [if_pos h4]
           simp only [bodyX,hxa,hxh,hxq]
         · split at h
           · rename_i k xs hfull
             rcases h.elim with ⟨hc,h⟩|⟨_,h⟩
             · obtain ⟨h4,h⟩:=h.elim'
               simp only [Zam,decide_eq_true_eq] at hc h4
               have hxa:xa P s o=none:=by
                 simp only [xa,ho,hcal,hx,hy]
                 split<;>try rfl
                 rename_i t y' _ e1 e2
                 cases e1;cases e2
                 split<;>try rfl
                 split<;>try rfl
                 rename_i loc hl
                 split<;>try rfl
                 rename_i e k xs e1 i1 hown hi1
                 exfalso
                 simp only [accOf,hl,hown] at hacc
                 cases hacc
               have hxh:xh P noCall s o=none:=by simp [xh,ho,hcal]
               rcases h.elim with ⟨he,hK⟩|⟨he,hK⟩
               · have hxq:xq P s.hp (evalA s.tm) o=some (.full k xs):=by
                   simp only [xq,ho,hcal,hx,hy,hc.2,if_true,xAppendQ,hi,hys,hfull,isNilSlice]
                   rw [if_neg (by simp),if_pos ⟨hc.1,h4⟩,if_pos he]
                 exact ⟨_,by simp only [bodyX,hxa,hxh,hxq],hK⟩
               · have hxq:xq P s.hp (evalA s.tm) o=some (.own e' k (xs++ys)):=by
                   simp only [xq,ho,hcal,hx,hy,hc.2,if_true,xAppendQ,hi,hys,hfull,isNilSlice]
                   rw [if_neg (by simp),if_pos ⟨hc.1,h4⟩,if_neg (by simp [he])]
                 exact ⟨_,by simp only [bodyX,hxa,hxh,hxq],hK⟩
             · exact restC_sound h
           · exact restC_sound h
     · exact restC_sound h
   · exact restC_sound h
 · exact restC_sound h
theorem copyC_sound {c:Call} {K:RS→Prop} (ho:o.op= .call c) (hc:c.callee= .builtin .copy) (h:copyC P s o c K):∃s',bodyX P s o=some s'∧K s':=by
 unfold copyC at h
 split at h
 · rename_i x y hx hy
   split at h
   · rename_i g off n cap k k' xs hd hs
     split at h
     · rename_i t ht
       split at h
       · rename_i e hu
         split at h
         · rename_i i blk hi hblk
           obtain ⟨hcond,h⟩:=h.elim'
           simp only [Zam,decide_eq_true_eq,Bool.not_eq_true'] at hcond
           obtain ⟨⟨⟨⟨⟨⟨⟨h1,h2⟩,h3⟩,h4⟩,h5⟩,h6⟩,h7⟩,h8⟩:=hcond
           obtain ⟨row,hrow,h⟩:=(shape_sound P 400).2 _ _ h
           obtain ⟨hone,hK⟩:=h.elim'
           refine ⟨_, ?_,hK⟩
           have hxa:xa P s o=none:=by simp [xa,ho,hc]
           have hsrc:srcCells s.hp (evalA s.tm y)=some (xs.map fun r=>Zae (r.headD (.s undef))):=by
             have hr:=hs
             unfold srcCells
             have hnil:isNilSlice (evalA s.tm y)=false:=by
               unfold isNilSlice
               split
               · rename_i he;rw [he] at hr;cases hr
               · rfl
             rw [hnil]
             simp only [Zcg,if_false]
             split
             · rename_i he;rw [he] at hr;cases hr
             · rw [hs];simp only [h5,if_true]
           have htake:(xs.map fun r=>Zae (r.headD (.s undef))).take n=(xs.take n).map fun r=>Zae (r.headD (.s undef)):=by rw [List.map_take]
           have hlen:((xs.take n).map fun r=>Zae (r.headD (.s undef))).length=min n xs.length:=by simp
           have hall:(((xs.map fun r=>Zae (r.headD (.s undef))).take n).all AV.one)=true:=by
             rw [htake]
             rw [←hrow,List.all_append,Zam] at hone
             exact hone.1
           have hcopy:xCopy P s.hp c.argTypes (evalA s.tm x) (evalA s.tm y)=some (.d (.s (goInt (min n xs.length:Nat))),s.hp.set g {blk with cells:=blk.cells.take off++row.map Zae++blk.cells.drop (off+n)}):=by
             unfold xCopy
             simp only [ht,hu,hi,hd,hsrc,hblk]
             rw [if_pos ⟨h2,h3,h4,h6,h7,hall,h8⟩,htake,hlen]
             congr 4
             rw [←hrow,List.append_assoc,List.append_assoc,List.append_assoc]
             congr 2
             have e1:blk.cells.drop (off+min n xs.length)=(blk.cells.drop off).drop (min n xs.length):=by rw [List.drop_drop]
             have e2:blk.cells.drop (off+n)=(blk.cells.drop off).drop n:=by rw [List.drop_drop]
             rw [e1,e2]
             conv=>lhs;rw [←List.take_append_drop n (blk.cells.drop off)]
             rw [List.drop_append_of_le_length]
             simp only [List.length_take,List.length_drop]
             omega
           have hxh:xh P noCall s o=some {tm:=putA s.tm o.dst (.d (.s (goInt (min n xs.length:Nat)))),hp:=s.hp.set g {blk with cells:=blk.cells.take off++row.map Zae++blk.cells.drop (off+n)},pv:= []}:=by
             simp only [xh,ho,hc,hx,hy,h1,if_true,hcopy]
           simp only [bodyX,hxa,hxh]
         · exact h.elim
       · exact h.elim
     · exact h.elim
   · exact restC_sound h
 · exact restC_sound h
theorem valG_xa {K:AV→Prop} {p:Prop} (h:valG P s.hp s.tm o K=some p):xa P s o=none∧xh P noCall s o=none:=by
 unfold valG at h
 split at h
 · rename_i ho;exact ⟨by simp [xa,ho],by simp [xh,ho]⟩
 · rename_i ho;exact ⟨by simp [xa,ho],by simp [xh,ho]⟩
 · rename_i ho;exact ⟨by simp [xa,ho],by simp [xh,ho]⟩
 · rename_i c ho
   split at h<;>try (cases h;done)
   · rename_i x hc hx0
     exact ⟨by simp [xa,ho,hc],by simp [xh,ho,hc]⟩
   · rename_i x hc hx0
     exact ⟨by simp [xa,ho,hc],by simp [xh,ho,hc]⟩
 · cases h
theorem bodyC_sound {K:RS→Prop} (h:bodyC P s o K):∃s',bodyX P s o=some s'∧K s':=by
 unfold bodyC at h
 split at h
 · rename_i p hv
   obtain ⟨x,hx,hK⟩:=valG_sound hv h
   obtain ⟨h1,h2⟩:=valG_xa hv
   exact ⟨_,by simp only [bodyX,h1,h2,hx],hK⟩
 split at h
 · rename_i t x y hp'
   have hs:=pickO_cond hp'
   rcases h.elim with ⟨rfl,hK⟩|⟨rfl,hK⟩
   · rw [hs] at hK;exact ⟨_,pickO_body hp',hK⟩
   · rw [hs] at hK;exact ⟨_,pickO_body hp',hK⟩
 · split at h
   · rename_i hq
     obtain ⟨x,hx,hK⟩:=valC_sound h
     refine ⟨_, ?_,hK⟩
     have hxa:xa P s o=none:=by
       unfold xa
       split<;>try rfl
       rename_i c ho;rw [ho] at hq;cases hq
     have hxh:xh P noCall s o=none:=by
       unfold xh
       split<;>first|rfl|(rename_i ho;rw [ho] at hq;cases hq)
     simp only [bodyX,hxa,hxh,hx]
   · split at h
     · rename_i c ho
       split at h
       · rename_i hc;exact copyC_sound ho hc h
       · exact appendC_sound ho h
     · exact restC_sound h
mutual
theorem sealC_sound:∀ {x:AV} {K:AV→Prop},sealC hp x K→∃y,SealR hp x y∧K y
 | .gref g ver n k,K,h=>by
   simp only [sealC] at h
   split at h
   · rename_i blk hb
     obtain ⟨hg,hv,xs,h1,h2,h3,hK⟩:=h.elim'
     exact ⟨_, .gref hb hg hv h1 h2 h3,hK⟩
   · exact h.elim
 | .agg cs,K,h=>by
   simp only [sealC] at h
   obtain ⟨ys,hl,hs,hK⟩:=sealCs_sound h
   exact ⟨_, .agg hl hs,hK⟩
 | .tup cs,K,h=>by
   simp only [sealC] at h
   obtain ⟨ys,hl,hs,hK⟩:=sealCs_sound h
   exact ⟨_, .tup hl hs,hK⟩
 | .fn f a b,K,h=>by
   simp only [sealC] at h
   obtain ⟨ys,hl,hs,h2⟩:=sealCs_sound h
   obtain ⟨zs,hl',hs',hK⟩:=sealCs_sound h2
   exact ⟨_, .fn hl hl' hs hs',hK⟩
 | .own e k xs,K,h=>⟨.d (.sl k xs), .v (by simp [sealV]),by simpa only [sealC] using h⟩
 | .ref g off n cap k,K,h=>by
   simp only [sealC] at h
   split at h
   · rename_i y hy;exact ⟨y, .v hy,h⟩
   · exact h.elim
 | .ptr g off,K,h=>by
   simp only [sealC] at h
   split at h
   · rename_i y hy;exact ⟨y, .v hy,h⟩
   · exact h.elim
 | .gptr ..,K,h=>by simp only [sealC] at h
 | .yl,K,h=>by simp only [sealC] at h
 | .d x,K,h=>⟨.d x, .v (by simp [sealV]),by simpa only [sealC] using h⟩
 | .full k xs,K,h=>⟨.full k xs, .v (by simp [sealV]),by simpa only [sealC] using h⟩
 | .rptr cs,K,h=>⟨.rptr cs, .v (by simp [sealV]),by simpa only [sealC] using h⟩
 | .bad,K,h=>⟨.bad, .v (by simp [sealV]),by simpa only [sealC] using h⟩
theorem sealCs_sound:∀ {cs:List AV} {K:List AV→Prop},sealCs hp cs K→∃ys,cs.length=ys.length∧(∀(i:Nat) (c y:AV),cs[i]? =some c→ys[i]? =some y→SealR hp c y)∧K ys
 | [],K,h=>⟨[],rfl,fun i c y h=>by simp at h,by simpa only [sealCs] using h⟩
 | x::l,K,h=>by
   simp only [sealCs] at h
   obtain ⟨y,hy,h2⟩:=sealC_sound h
   obtain ⟨ys,hl,hs,hK⟩:=sealCs_sound h2
   refine ⟨y::ys,by simp [hl],fun i c z h3 h4=> ?_,hK⟩
   cases i with
   |zero=>simp at h3 h4;subst h3;subst h4;exact hy
   |succ i=>exact hs i c z (by simpa using h3) (by simpa using h4)
end
theorem frzTm_refl (gs:List Nat):∀l:List AV,FrzTm hp gs l l
 | []=>trivial
 |x::l=>⟨.inl rfl,frzTm_refl gs l⟩
theorem sealTs_sound {gs:List Nat} {tm0:List AV}:∀ {ts:List Nat} {tm:List AV} {K:List AV→Prop},sealTs hp ts tm K→ts.Nodup→FrzTm hp gs tm0 tm→(∀t∈ts,tm.getD t .bad=tm0.getD t .bad)→(∀t∈ts,∀g∈occ (tm0.getD t .bad),g∈gs)→
   ∃tm1,FrzTm hp gs tm0 tm1∧K tm1
 | [],tm,K,h,_,hf,_,_=>⟨tm,hf,h⟩
 | t::ts,tm,K,h,hnd,hf,hsame,hocc=>by
   simp only [sealTs] at h
   obtain ⟨y,hy,h⟩:=sealC_sound h
   rcases h.elim with ⟨_,h⟩|⟨ho,h⟩
   · exact h.elim
   obtain ⟨hn1,hn2⟩:=List.nodup_cons.1 hnd
   have hset:FrzTm hp gs tm0 (tm.set t y):=by
     have key:∀(l l':List AV) (t:Nat),FrzTm hp gs l l'→(t<l.length→SealR hp (l.getD t .bad) y∧∀g∈occ (l.getD t .bad),g∈gs)→FrzTm hp gs l (l'.set t y):=by
       intro l
       induction l with
       | nil=>
         intro l' t h _
         cases l' with
         |nil=>exact trivial
         |cons _ _=>exact h.elim
       | cons x l ih=>
         intro l' t h hs
         cases l' with
         |nil=>exact h.elim
         | cons z l'=>
           cases t with
           | zero=>
             have:=hs (by simp)
             exact ⟨.inr ⟨by simpa using this.1,by simpa using this.2,ho⟩,h.2⟩
           |succ t=>exact ⟨h.1,ih l' t h.2 fun ht=>by simpa using hs (by simpa using ht)⟩
     refine key tm0 tm t hf fun ht=>⟨?_,hocc t (Zay ..)⟩
     rw [←hsame t (Zay ..)];exact hy
   refine sealTs_sound h hn2 hset (fun t' ht'=> ?_) fun t' ht'=>hocc t' (Zaw _ ht')
   have hne:t≠t':=fun he=>hn1 (he▸ht')
   rw [←hsame t' (Zaw _ ht')]
   simp [List.getD,List.getElem?_set_ne hne]
theorem FrzTm.at {gs:List Nat}:∀ {l l':List AV} {t:Nat} {x:Dv},FrzTm hp gs l l'→l.getD t .bad= .d x→l'.getD t .bad= .d x
 | [], [],_,_,_,h=>h
 | [],_::_,_,_,h,_=>h.elim
 |_::_, [],_,_,h,_=>h.elim
 | y::l,z::l',0,x,h,hx=>by
   simp only [List.getD_cons_zero] at hx ⊢
   subst hx
   rcases h.1 with rfl|⟨h1,_⟩
   · rfl
   · cases h1 with
     |v h1=>simp only [sealV,Option.some.injEq] at h1;exact h1.symm
 | y::l,z::l',t+1,x,h,hx=>by
   simp only [List.getD_cons_succ] at hx ⊢
   exact FrzTm.at h.2 hx
theorem wantedA_frz {gs:List Nat} {tm tm':List AV} {v:Bool} (h:FrzTm hp gs tm tm') (hw:wantedA ops o tm=some v):wantedA ops o tm'=some v:=by
 unfold wantedA at hw ⊢
 split at hw
 · exact hw
 · rename_i j want hg
   split at hw<;>try (cases hw;done)
   rename_i t ht
   split at hw<;>try (cases hw;done)
   · rename_i b hb
     simp only [h.at hb];exact hw
   · rename_i b hb
     simp only [h.at hb];exact hw
theorem frzC_sound {pc:Nat→Bool} {K:RS→Prop} (h:frzC pc s o K) (hnd:(needFrz pc s o).Nodup):∃s0,FrzOk s s0∧(∀v,wantedA ops o s.tm=some v→wantedA ops o s0.tm=some v)∧K s0:=by
 unfold frzC at h
 split at h
 · exact ⟨s, .rfl,fun _ h=>h,h⟩
 · rename_i t ts hn
   rw [hn] at hnd
   obtain ⟨tm1,hf,hK⟩:=sealTs_sound (gs:=occs ((t::ts).map fun t=>s.tm.getD t .bad)) (tm0:=s.tm) h hnd (frzTm_refl _ _) (fun _ _=>rfl) fun t' ht' g hg=>by
     obtain ⟨j,hj⟩:=Zak.1 ht'
     exact occs_get (i:=j) (by rw [List.getElem?_map,hj];rfl) g hg
   exact ⟨_,frz_ok hf,fun v hw=>wantedA_frz hf hw,hK⟩
theorem nodup_eraseDups (l:List Nat):l.eraseDups.Nodup:=by
 have key:∀(n:Nat) (l:List Nat),l.length≤n→l.eraseDups.Nodup:=by
   intro n
   induction n with
   |zero=>intro l h;have:l= []:=List.length_eq_zero_iff.1 (by omega);subst this;simp
   | succ n ih=>
     intro l h
     cases l with
     |nil=>simp
     | cons a l=>
       rw [List.eraseDups_cons]
       refine List.nodup_cons.2 ⟨?_,ih _ ?_⟩
       · rw [List.mem_eraseDups];simp
       · have:=List.length_filter_le (fun b=> !b==a) l
         simp only [List.length_cons] at h;omega
 exact key l.length l (Nat.le_refl _)
theorem needFrz_nodup (pc:Nat→Bool) (s:RS) (o:Oper):(needFrz pc s o).Nodup:=by
 unfold needFrz
 split
 · split
   · split
     · split
       · exact nodup_eraseDups _
       · simp
     · simp
   · split
     · unfold leans
       split
       · split<;>simp
       · simp
     · simp
   · simp
 · exact nodup_eraseDups _
 · simp
theorem extC_sound {gt:Nat→Bool} {K:RS→Prop} {p:Prop} (h:extC P gt s o K=some p) (hp0:p):∃s',ExtOk P o s s'∧K s':=by
 unfold extC at h
 split at h
 · rename_i c ho
   split at h<;>try (cases h;done)
   · rename_i x y hc h0 h1
     split at h
     rotate_left
     · split at h<;>try (cases h;done)
       rename_i t tn ht htn
       split at h<;>try (cases h;done)
       rename_i e kn k n hu hun hy
       split at h<;>try (cases h;done)
       rename_i i hi
       split at h<;>try (cases h;done)
       rename_i hgt
       split at h<;>try (cases h;done)
       rename_i zr hz
       cases h
       obtain ⟨hcc,hK⟩:=hp0.elim'
       simp only [Zam,decide_eq_true_eq] at hcc hgt
       obtain ⟨⟨⟨⟨⟨⟨⟨⟨a1,a2⟩,a3⟩,a4⟩,a5⟩,a6⟩,a7⟩,a8⟩,a9⟩:=hcc
       exact ⟨_,ext_zeros ho hc a1 h0 h1 a2 ht htn hu hun hi hgt.2 hy hz a3 a4 a5 a6 a7 a8 a9,hK⟩
     rename_i e i hinf
     split at h
     · rename_i g ver n k hx
       split at h<;>try (cases h;done)
       rename_i blk ys hg hys
       cases h
       obtain ⟨hcc,hv,h2⟩:=hp0.elim'
       obtain ⟨hfit,hK⟩:=h2.elim'
       simp only [Zam,decide_eq_true_eq,Bool.not_eq_true'] at hcc hfit
       obtain ⟨⟨⟨hsz,rfl⟩,hgr⟩,hf⟩:=hcc
       exact ⟨_,ext_append ho hc hsz h0 h1 hinf hx hys hg hgr hv hf hfit,hK⟩
     · split at h<;>try (cases h;done)
       rename_i hgt
       split at h<;>try (cases h;done)
       rename_i ys hys
       cases h
       obtain ⟨hcc,h2⟩:=hp0.elim'
       simp only [Zam,decide_eq_true_eq,Bool.or_eq_true] at hcc hgt
       have hbase:isNilSlice (evalA s.tm x)=true∨evalA s.tm x= .full i.size []:=by
         rcases hgt.2 with h3|h3
         · exact .inl h3
         · right
           unfold isFull0 at h3
           split at h3
           · rename_i k hk;rw [hk];simp only [decide_eq_true_eq] at h3;rw [h3]
           · cases h3
       rcases h2.elim with ⟨hpos,hK⟩|⟨hpos,hK⟩
       · have hpos:0<ys.length:=by simpa using hpos
         exact ⟨_,ext_first ho hc hcc.1 h0 h1 hinf hbase hys (List.length_pos_iff.1 hpos) hcc.2,hK⟩
       · have hpos:ys= []:=by
           have:¬0<ys.length:=by simpa using hpos
           exact List.length_eq_zero_iff.1 (by omega)
         subst hpos
         exact ⟨_,ext_zero ho hc hcc.1 h0 h1 hinf hbase hys,hK⟩
   · rename_i x y hc h0 h1
     split at h<;>try (cases h;done)
     rename_i g ver n k t hx ht
     split at h<;>try (cases h;done)
     rename_i blk ys e hg hys hu
     split at h<;>try (cases h;done)
     rename_i i hi
     cases h
     obtain ⟨hcc,hv,hK⟩:=hp0.elim'
     simp only [Zam,decide_eq_true_eq,Bool.not_eq_true'] at hcc
     obtain ⟨⟨⟨⟨⟨a1,a2⟩,a3⟩,rfl⟩,a5⟩,a6⟩:=hcc
     exact ⟨_,ext_copy ho hc a1 h0 h1 a2 ht hu hi a3 hx hys hg a5 hv a6,hK⟩
 · rename_i t lo co ho
   split at h<;>try (cases h;done)
   rename_i e hu
   split at h<;>try (cases h;done)
   split at h<;>try (cases h;done)
   rename_i kl l kc c i hl hc hi
   split at h<;>try (cases h;done)
   rename_i zr hz
   cases h
   obtain ⟨hcc,hK⟩:=hp0.elim'
   simp only [Zam,decide_eq_true_eq] at hcc
   obtain ⟨⟨⟨⟨⟨⟨a1,a2⟩,a3⟩,a4⟩,a5⟩,a6⟩,a7⟩:=hcc
   exact ⟨_,ext_make ho hu hi hl hc hz a1 a2 a3 a4 a5 a6 a7,hK⟩
 · rename_i t x hi ho
   split at h<;>try (cases h;done)
   rename_i g ver n k kk j e hx hj hu
   split at h<;>try (cases h;done)
   rename_i i blk hi' hg
   cases h
   obtain ⟨hcc,hv,hK⟩:=hp0.elim'
   simp only [Zam,decide_eq_true_eq,Bool.not_eq_true'] at hcc
   obtain ⟨⟨⟨⟨rfl,a2⟩,a3⟩,a4⟩,a5⟩:=hcc
   exact ⟨_,ext_cut ho hu hi' hx hj hg a2 hv a3 a4 a5,hK⟩
 · rename_i t ax x ho
   split at h<;>try (cases h;done)
   rename_i g ver off hax
   split at h<;>try (cases h;done)
   rename_i i blk xs hi hg hxs
   cases h
   obtain ⟨hcc,hv,h2⟩:=hp0.elim'
   obtain ⟨hoff,hK⟩:=h2.elim'
   simp only [Zam,decide_eq_true_eq,Bool.not_eq_true'] at hcc hoff
   exact ⟨_,ext_store ho hi hax hxs hg hcc.1.1 hcc.1.2 hv hcc.2 hoff,hK⟩
 · cases h
theorem demC_sound {K:RS→Prop} {p:Prop} (h:demC P s o K=some p) (hp0:p):∃T:RS→Prop,DemOk P o s T∧∀s',T s'→K s':=by
 unfold demC at h
 split at h<;>try (cases h;done)
 rename_i op t x y ty ho
 split at h<;>try (cases h;done)
 rename_i hn
 split at h<;>try (cases h;done)
 all_goals
   rename_i k xs e hrows hu
   cases h
 · refine ⟨fun s'=>∃t:Bool,(t=true→xs= [])∧s'= {tm:=putA s.tm o.dst (.d (.s (.bool t))),hp:=s.hp,pv:=pvPut s.pv o.dst}, ?_, ?_⟩
   · intro r S X yv w m B hv a K' Q hr hK
     have h1:=rows?_spec hrows (evalA_sound hr x)
     have h2:=isNilSlice_spec hn (evalA_sound hr y)
     obtain ⟨hl,hr',hpv⟩:=hr
     obtain ⟨base,n,cap,hv1,hbb⟩:∃base n cap,a.eval x= .slice base n cap∧(base.isNone=true→xs= []):=by
       generalize a.eval x=v at h1
       cases h1 with
       |nil=>exact ⟨_,_,_,rfl,fun _=>rfl⟩
       |sl=>exact ⟨_,_,_,rfl,fun h=>by cases h⟩
     obtain ⟨q1,q2,q3,q4⟩:=eql_nil_run hu base n cap x y w
     have hexec:(execOp a.eval o).run P w= .ok (.value (.bool base.isNone)) w:=by
       unfold execOp;rw [ho];simp only [hv1,h2,Sem.run_bind];simp only [Sem.run_bind] at q1;rw [q1];rfl
     refine wpIn_value (by simp [ho]) hexec (.inl rfl) ?_
     exact Nx.of (hK _ ⟨base.isNone,hbb,rfl⟩) (Gs.refl S X none w m) hl (hr'.cons (x:= .d (.s (.bool base.isNone))) (v:= .bool base.isNone) (.d (.s _)) rfl) (pvPut_ok hpv _ _)
   · rintro _ ⟨t,ht,rfl⟩;exact hp0 t ht
 · refine ⟨fun s'=>∃t:Bool,(t=true→xs= [])∧s'= {tm:=putA s.tm o.dst (.d (.s (.bool !t))),hp:=s.hp,pv:=pvPut s.pv o.dst}, ?_, ?_⟩
   · intro r S X yv w m B hv a K' Q hr hK
     have h1:=rows?_spec hrows (evalA_sound hr x)
     have h2:=isNilSlice_spec hn (evalA_sound hr y)
     obtain ⟨hl,hr',hpv⟩:=hr
     obtain ⟨base,n,cap,hv1,hbb⟩:∃base n cap,a.eval x= .slice base n cap∧(base.isNone=true→xs= []):=by
       generalize a.eval x=v at h1
       cases h1 with
       |nil=>exact ⟨_,_,_,rfl,fun _=>rfl⟩
       |sl=>exact ⟨_,_,_,rfl,fun h=>by cases h⟩
     obtain ⟨q1,q2,q3,q4⟩:=eql_nil_run hu base n cap x y w
     have hexec:(execOp a.eval o).run P w= .ok (.value (.bool !base.isNone)) w:=by
       unfold execOp;rw [ho];simp only [hv1,h2,Sem.run_bind];simp only [Sem.run_bind] at q2;rw [q2];rfl
     refine wpIn_value (by simp [ho]) hexec (.inl rfl) ?_
     exact Nx.of (hK _ ⟨base.isNone,hbb,rfl⟩) (Gs.refl S X none w m) hl (hr'.cons (x:= .d (.s (.bool !base.isNone))) (v:= .bool !base.isNone) (.d (.s _)) rfl) (pvPut_ok hpv _ _)
   · rintro _ ⟨t,ht,rfl⟩;exact hp0 t ht
theorem opC_sound {K:RS→Ev.β→Prop} {R:RS→Ev.β→Prop} {l:List Oper} (hX:X.Ok) (h:opC P X ops o s b K) (hK:∀s' b',K s' b'→wOps Ev ops l s' b' R):wOps Ev ops (o::l) s b R:=by
 unfold opC at h
 rcases guardC_sound h with ⟨hw0,h⟩|⟨hw,h⟩
 · obtain ⟨s0,hfz,hgd,h⟩:=frzC_sound h (needFrz_nodup _ _ _)
   have hw:wantedA ops o s0.tm=some true:=hgd _ hw0
   refine ⟨s0,hfz, ?_⟩
   split at h
   · rename_i k args hc
     split at h
     · rename_i f hf
       obtain ⟨hcl,h⟩:=h.elim'
       obtain ⟨x,hp,h⟩:=hX.call k f hf args _ h
       exact .inr (.inl ⟨hw,k,args,hc, .inl ⟨hcl,x,hp,hK _ _ h⟩⟩)
     · split at h
       · rename_i f hf
         obtain ⟨x,hp',hp,h⟩:=hX.scall k f hf args _ _ h
         exact .inr (.inl ⟨hw,k,args,hc, .inr ⟨x,hp',hp,hK _ _ h⟩⟩)
       · exact h.elim
   · split at h
     · rename_i args hy
       obtain ⟨hcl,h⟩:=h.elim'
       rw [hX.y] at h
       exact .inr (.inr (.inl ⟨hw,args,hy,hcl,Ev.Ymono h fun _ _ h=>hK _ _ h⟩))
     · split at h
       · rename_i p hpx
         obtain ⟨T,he,h⟩:=demC_sound hpx h
         exact .inr (.inr (.inr ⟨hw,T,he,fun s' hs=>hK _ _ (h s' hs)⟩))
       split at h
       · rename_i p hpx
         obtain ⟨s',he,h⟩:=extC_sound hpx h
         exact .inr (.inr (.inr ⟨hw,_,he.dem,fun s'' hs=>by subst hs;exact hK _ _ h⟩))
       · obtain ⟨s',hs,h⟩:=bodyC_sound h
         exact .inl ⟨s',by rw [xStep_body hw];exact hs,hK _ _ h⟩
 · exact ⟨s, .rfl, .inl ⟨_,by simp only [xStep,hw],hK _ _ h⟩⟩
theorem opsC_sound (hX:X.Ok) {R:RS→Ev.β→Prop}:∀ {l:List Oper} {s:RS} {b:Ev.β} {K:RS→Ev.β→Prop},opsC P X ops l s b K→(∀s' b',K s' b'→R s' b')→wOps Ev ops l s b R
 | [],s,b,K,h,hK=>hK _ _ h
 |o::l,s,b,K,h,hK=>opC_sound hX h fun s' b' h=>opsC_sound hX h hK
open Classical in
noncomputable def tblD (tb:Tbl):CallT:=
 ⟨fun d k args=>match tb.find? (fun t=>t.1==d) with
   |some t=>if t.2.1=k∧t.2.2.1=args then some t.2.2.2 else none
   |none=>none,fun _ _ _=>none⟩
theorem tblD_ok {tb:Tbl} (h:∀t∈tb,PCall P t.2.1 t.2.2.1 t.2.2.2):CallOk P (tblD tb):=by
 refine ⟨fun d f args r hr=> ?_,fun _ _ _ _ _ h=>by cases h⟩
 simp only [tblD] at hr
 split at hr<;>try (cases hr;done)
 rename_i t ht
 split at hr<;>try (cases hr;done)
 rename_i hc
 cases hr
 have:=h t (List.mem_of_find?_eq_some ht)
 rw [hc.1,hc.2] at this;exact this
theorem xp_other {call:CallT} {x:AV} (hw:wantedA ops o tm=some true) (hx:xq P hp (evalA tm) o=some x):xp P call ops hp tm o=some x:=by
 unfold xp
 rw [hw]
 simp only
 split
 · rename_i c ho
   split
   · rename_i f hc
     simp [xq,ho,hc] at hx
   · exact hx
 · exact hx
theorem find_of_nodup:∀ {T:Tbl},(T.map (·.1)).Nodup→∀t∈T,T.find? (fun e=>e.1==t.1)=some t
 | [],_,t,h=>by cases h
 | e::T,hn,t,h=>by
   simp only [List.map_cons,List.nodup_cons] at hn
   rcases List.mem_cons.1 h with rfl|h
   · simp
   · have hne:¬e.1=t.1:=fun he=>hn.1 (he▸List.mem_map.2 ⟨t,h,rfl⟩)
     rw [List.find?_cons_of_neg (by simpa using hne)]
     exact find_of_nodup hn.2 t h
theorem preC_sound (hX:X.Ok):∀ {l:List Oper} {tm:List AV} {tb:Tbl} {K:List AV→Tbl→Prop},preC P X ops hp l tm tb K→
   ∃tmK tb',K tmK tb'∧(∀t∈tb,t∈tb')∧((∀t∈tb,PCall P t.2.1 t.2.2.1 t.2.2.2)→∀t∈tb',PCall P t.2.1 t.2.2.1 t.2.2.2)∧∀T:Tbl,(∀t∈tb',T.find? (fun e=>e.1==t.1)=some t)→xPre P (tblD T) ops hp l tm=some tmK
 | [],tm,tb,K,h=>⟨tm,tb,h,fun _ h=>h,fun h=>h,fun _ _=>rfl⟩
 | o::l,tm,tb,K,h=>by
   simp only [preC] at h
   rcases guardC_sound h with ⟨hw,h⟩|⟨hw,h⟩
   · split at h
     · rename_i k args hc
       split at h
       · rename_i f hf
         obtain ⟨hcl,h⟩:=h.elim'
         obtain ⟨x,hpc,h⟩:=hX.call k f hf args _ h
         obtain ⟨tmK,tb',h1,h2,h3,h4⟩:=preC_sound hX h
         refine ⟨tmK,tb',h1,fun t ht=>h2 t (Zaw _ ht),fun hall=>h3 fun t ht=> ?_,fun T hT=> ?_⟩
         · rcases List.mem_cons.1 ht with rfl|ht
           · exact hpc
           · exact hall t ht
         · have hf':=hT _ (h2 _ (Zay ..))
           have hxp:xp P (tblD T) ops hp tm o=some x.view:=by
             unfold opCall at hc
             split at hc<;>try (cases hc;done)
             rename_i c ho
             split at hc<;>try (cases hc;done)
             rename_i f hcc
             unfold xp
             simp only [hw,ho,hcc,hc,hcl,if_true]
             simp only at hf'
             simp [tblD,hf']
           simp only [xPre,hxp];exact h4 T hT
       · exact h.elim
     · split at h
       · rename_i t x y hpick
         have hxq:xq P hp (evalA tm) o=some (if t then x else y):=by
           unfold pickO at hpick
           split at hpick<;>try (cases hpick;done)
           rename_i c a b ho
           split at hpick<;>try (cases hpick;done)
           rename_i t'' hc
           cases hpick
           simp [xq,ho,hc]
         have hs:=pickO_cond hpick
         rcases h.elim with ⟨rfl,h⟩|⟨rfl,h⟩<;>rw [hs] at h
         · obtain ⟨tmK,tb',h1,h2,h3,h4⟩:=preC_sound hX h
           exact ⟨tmK,tb',h1,h2,h3,fun T hT=>by simp only [xPre,xp_other hw hxq];exact h4 T hT⟩
         · obtain ⟨tmK,tb',h1,h2,h3,h4⟩:=preC_sound hX h
           exact ⟨tmK,tb',h1,h2,h3,fun T hT=>by simp only [xPre,xp_other hw hxq];exact h4 T hT⟩
       · obtain ⟨x,hxq,h⟩:=valC_sound h
         obtain ⟨tmK,tb',h1,h2,h3,h4⟩:=preC_sound hX h
         exact ⟨tmK,tb',h1,h2,h3,fun T hT=>by simp only [xPre,xp_other hw hxq];exact h4 T hT⟩
   · obtain ⟨tmK,tb',h1,h2,h3,h4⟩:=preC_sound hX h
     refine ⟨tmK,tb',h1,h2,h3,fun T hT=> ?_⟩
     have:xp P (tblD T) ops hp tm o=some (.d (.s undef)):=by unfold xp;rw [hw]
     simp only [xPre,this];exact h4 T hT
def hdr (blk:Blk):Bool×Nat×Nat:=(blk.grow,blk.ver,blk.cells.length)
structure Sim (fp:List (Nat×Nat×Nat)) (h h':List Blk):Prop where
 hd:∀g,g<h.length→(h'[g]?).map hdr=(h[g]?).map hdr
 ln:h.length≤h'.length
 same:∀(g:Nat) (blk blk':Blk) (i:Nat),h[g]? =some blk→h'[g]? =some blk'→apartB fp g i 1=true→blk'.cells[i]? =blk.cells[i]?
theorem Sim.refl (fp:List (Nat×Nat×Nat)) (h:List Blk):Sim fp h h:=⟨fun _ _=>rfl,Nat.le_refl _,fun g blk blk' i h1 h2 _=>by rw [h1] at h2;cases h2;rfl⟩
theorem Sim.widen {fp fp1:List (Nat×Nat×Nat)} {h h':List Blk} (hs:Sim fp h h'):Sim (fp++fp1) h h':=
 ⟨hs.hd,hs.ln,fun g blk blk' i h1 h2 h3=>hs.same g blk blk' i h1 h2 (by simp only [apartB,List.all_append,Zam] at h3;exact h3.1)⟩
theorem storeFps_skip {tm:List AV} {o:Oper} {l:List Oper} (h:∀t a x,o.op≠ .store t a x):storeFps tm (o::l)=storeFps tm l:=by
 simp only [storeFps]
theorem xLates_sim {l:List Oper} {tmF:List AV}:∀ {tm:List AV} {h0 h:List Blk} {sts:List (List AV×List Blk)},xLates P l tm h=some sts→
   (∀(i:Nat) (o:Oper) (t:List AV) (hh:List Blk),l[i]? =some o→sts[i]? =some (t,hh)→∀a b c,o.op= .store a b c→evalA t b=evalA tmF b∧evalA t c=evalA tmF c)→
   ∀fp0,Sim fp0 h0 h→∀st∈sts,Sim (fp0++storeFps tmF l) h0 st.2∧(hasAlloc l=false→st.2.length=h.length):=by
 induction l with
 | nil=>
   intro tm h0 h sts hx _ fp0 hs st hh
   simp only [xLates,Option.some.injEq] at hx
   subst hx
   rw [List.mem_singleton.1 hh]
   exact ⟨by simpa [storeFps] using hs,fun _=>rfl⟩
 | cons o l ih=>
   intro tm h0 h sts hx hev fp0 hs st hh
   simp only [xLates] at hx
   split at hx<;>try (cases hx;done)
   rename_i xr h1 hl
   simp only [Option.map_eq_some_iff] at hx
   obtain ⟨sts',hx,rfl⟩:=hx
   have hev':∀(i:Nat) (o:Oper) (t:List AV) (hh:List Blk),l[i]? =some o→sts'[i]? =some (t,hh)→∀a b c,o.op= .store a b c→evalA t b=evalA tmF b∧evalA t c=evalA tmF c:=
     fun i o' t hh e1 e2=>hev (i+1) o' t hh (by simpa using e1) (by simpa using e2)
   unfold xLate at hl
   split at hl<;>try (cases hl;done)
   · rename_i t a x ho hg hd
     obtain ⟨ea,ex⟩:=hev 0 o tm h rfl rfl t a x ho
     split at hl<;>try (cases hl;done)
     rename_i hown
     split at hl<;>try (cases hl;done)
     rename_i xs hxs
     simp only [Option.map_eq_some_iff,Prod.mk.injEq] at hl
     obtain ⟨h2,hl,rfl,rfl⟩:=hl
     unfold xStore at hl
     split at hl<;>try (cases hl;done)
     rename_i i g off hi ha
     split at hl<;>try (cases hl;done)
     rename_i blk hblk
     split at hl<;>try (cases hl;done)
     rename_i hc
     cases hl
     have e:storeFps tmF (o::l)=(g,off,xs.length)::storeFps tmF l:=by simp only [storeFps,ho,←ea,←ex,ha,hxs]
     have hal:hasAlloc (o::l)=hasAlloc l:=by simp only [hasAlloc,ho]
     rw [e,hal]
     have hgl:g<h.length:=(Zab.1 hblk).1
     have hs1:Sim (fp0++ [(g,off,xs.length)]) h0 (h.set g {blk with cells:=blk.cells.take off++xs++blk.cells.drop (off+xs.length)}):=by
       refine ⟨fun g' hg'=> ?_,by rw [List.length_set];exact hs.ln,fun g' b0 b1 j e1 e2 e3=> ?_⟩
       · rw [←hs.hd g' hg']
         by_cases hgg:g'=g
         · subst hgg
           rw [List.getElem?_set_self hgl,hblk]
           have hlen:(blk.cells.take off++xs++blk.cells.drop (off+xs.length)).length=blk.cells.length:=by
             simp only [List.length_append,List.length_take,List.length_drop];have:=hc.2.2.2;omega
           simp only [Option.map_some,hdr,hlen]
         · rw [List.getElem?_set_ne (Ne.symm hgg)]
       · simp only [apartB,List.all_append,Zam] at e3
         obtain ⟨e3,e4⟩:=e3
         by_cases hgg:g'=g
         · subst hgg
           rw [List.getElem?_set_self hgl] at e2
           cases e2
           simp only [List.all_cons,List.all_nil,Bool.and_true,bne_self_eq_false,Bool.false_or,Bool.or_eq_true,decide_eq_true_eq] at e4
           rw [←hs.same g' b0 blk j e1 hblk e3]
           simp only
           rcases e4 with e4|e4
           · rw [List.getElem?_append_right (by simp;omega),List.getElem?_drop]
             congr 1
             simp only [List.length_append,List.length_take];have:=hc.2.2.2;omega
           · rw [List.append_assoc,List.getElem?_append_left (by simp;have:=hc.2.2.2;omega),Zas,if_pos (by omega)]
         · rw [List.getElem?_set_ne (Ne.symm hgg)] at e2
           exact hs.same g' b0 b1 j e1 e2 e3
     rcases List.mem_cons.1 hh with rfl|hh
     · exact ⟨hs.widen,fun _=>rfl⟩
     · obtain ⟨h3,h4⟩:=ih hx hev' _ hs1 st hh
       exact ⟨by simpa using h3,fun ha=>by rw [h4 ha,List.length_set]⟩
   · rename_i t d ho hg hd
     split at hl<;>try (cases hl;done)
     rename_i xs hxs
     simp only [Option.some.injEq,Prod.mk.injEq] at hl
     obtain ⟨rfl,rfl⟩:=hl
     have hal:hasAlloc (o::l)=true:=by simp only [hasAlloc,ho]
     rw [storeFps_skip (fun t a x h=>by rw [ho] at h;cases h),hal]
     rcases List.mem_cons.1 hh with rfl|hh
     · exact ⟨hs.widen,fun h=>by cases h⟩
     · have hs1:Sim fp0 h0 (h++ [⟨xs,false,false,0⟩]):=by
         have hln:=hs.ln
         refine ⟨fun g hg=> ?_,by simp;omega,fun g b0 b1 j e1 e2 e3=> ?_⟩
         · rw [List.getElem?_append_left (by omega)];exact hs.hd g hg
         · have hg:=(Zab.1 e1).1
           rw [List.getElem?_append_left (by omega)] at e2
           exact hs.same g b0 b1 j e1 e2 e3
       exact ⟨(ih hx hev' _ hs1 st hh).1,fun h=>by cases h⟩
end
section
variable {P:Program} {h h':List Blk} {tm:List AV} {o:Oper} {ops:Array Oper} {fp:List (Nat×Nat×Nat)}
theorem Sim.cases (hs:Sim fp h h') (g:Nat) (hg:g<h.length∨h'.length=h.length):(h[g]? =none∧h'[g]? =none)∨∃b b',h[g]? =some b∧h'[g]? =some b'∧b'.grow=b.grow∧b'.ver=b.ver∧b'.cells.length=b.cells.length:=by
 cases h1:h[g]? with
 | none=>
   have h2:h.length≤g:=List.getElem?_eq_none_iff.1 h1
   exact .inl ⟨rfl,List.getElem?_eq_none (by omega)⟩
 | some b=>
   have:=hs.hd g (Zab.1 h1).1
   rw [h1] at this
   simp only [Option.map_some,Option.map_eq_some_iff] at this
   obtain ⟨b',h2,h3⟩:=this
   simp only [hdr,Prod.mk.injEq] at h3
   exact .inr ⟨b,b',rfl,h2,h3⟩
def LowIn (h h':List Blk) (a:AV):Prop:=a.low h.length=true∨h'.length=h.length
theorem cellsAt_d (h h':List Blk) (x:Dv):cellsAt h' (.d x)=cellsAt h (.d x):=by
 cases x with
 | s v=>
   cases v<;>try rfl
   rename_i oa
   cases oa<;>rfl
 |sl k xs=>rfl
 |pt cs=>rfl
theorem shiftPtr_d (h h':List Blk) (x:Dv) (n:Nat):shiftPtr h' (.d x) n=shiftPtr h (.d x) n:=by
 cases x with
 | s v=>
   cases v<;>try rfl
   rename_i oa
   cases oa<;>rfl
 |sl k xs=>rfl
 |pt cs=>rfl
theorem shiftPtr_sim (hs:Sim fp h h') (a:AV) (ha:LowIn h h' a) (n:Nat):shiftPtr h' a n=shiftPtr h a n:=by
 cases a<;>first|exact shiftPtr_d _ _ _ _|simp only [shiftPtr]
 · rename_i g off
   rcases hs.cases g (ha.imp (fun h=>by simpa [AV.low] using h) id) with ⟨h1,h2⟩|⟨b,b',h1,h2,h3,h4,h5⟩
   · simp only [h1,h2]
   · simp only [h1,h2,h3]
 · rename_i g v off
   rcases hs.cases g (ha.imp (fun h=>by simpa [AV.low] using h) id) with ⟨h1,h2⟩|⟨b,b',h1,h2,h3,h4,h5⟩
   · simp only [h1,h2]
   · simp only [h1,h2,h3,h4]
theorem fieldAddr_sim (hs:Sim fp h h') (t:TypeId) (a:AV) (ha:LowIn h h' a) (f:Nat):xFieldAddr P h' t a f=xFieldAddr P h t a f:=by
 unfold xFieldAddr
 simp only [shiftPtr_sim hs a ha]
theorem indexAddr_sim (hs:Sim fp h h') (t:TypeId) (a ix:AV) (ha:LowIn h h' a):xIndexAddr P h' t a ix=xIndexAddr P h t a ix:=by
 unfold xIndexAddr
 simp only [shiftPtr_sim hs a ha]
 split<;>try rfl
 split<;>try rfl
 cases a<;>try rfl
 rename_i g v l k
 simp only
 rcases hs.cases g (ha.imp (fun h=>by simpa [AV.low] using h) id) with ⟨h1,h2⟩|⟨b,b',h1,h2,h3,h4,h5⟩
 · simp only [h1,h2]
 · simp only [h1,h2,h3,h4]
theorem len_sim (hs:Sim fp h h') (a:AV) (ha:LowIn h h' a):a.len? h'=a.len? h:=by
 cases a
 case gref g v l k=>
   simp only [AV.len?]
   rcases hs.cases g (ha.imp (fun h=>by simpa [AV.low] using h) id) with ⟨h1,h2⟩|⟨b,b',h1,h2,h3,h4,h5⟩
   · simp only [h1,h2]
   · simp only [h1,h2,h3,h4]
 all_goals first|rfl|(rename_i x;cases x<;>rfl)
theorem slice_sim (hs:Sim fp h h') (t:TypeId) (x:AV) (ha:LowIn h h' x) (lo hi mx:Option AV):xSlice P h' t x lo hi mx=xSlice P h t x lo hi mx:=by
 unfold xSlice
 split<;>try rfl
 split<;>try rfl
 cases x<;>try rfl
 rename_i g off
 simp only
 rcases hs.cases g (ha.imp (fun h=>by simpa [AV.low] using h) id) with ⟨h1,h2⟩|⟨b,b',h1,h2,h3,h4,h5⟩
 · simp only [h1,h2]
 · simp only [h1,h2,h3,h5]
theorem load_sim (hs:Sim fp h h') (t:TypeId) (a:AV) (ha:LowIn h h' a) (hf:∀g off,a= .ptr g off→∀i,P.info? t=some i→apartB fp g off (max i.size 1)=true) (hg:∀g v off,a≠ .gptr g v off):xLoad P h' t a=xLoad P h t a:=by
 unfold xLoad
 cases a<;>try rfl
 · rw [cellsAt_d h h']
 · rename_i g off
   simp only [cellsAt]
   rcases hs.cases g (ha.imp (fun h=>by simpa [AV.low] using h) id) with ⟨h1,h2⟩|⟨b,b',h1,h2,h3,h4,h5⟩
   · simp only [h1,h2]
   · simp only [h1,h2,h3]
     cases hgr:b.grow
     · simp only [Zcg,if_false]
       unfold takeCs
       cases hi:P.info? t with
       |none=>rfl
       | some i=>
         simp only
         have ha:=hf g off rfl i hi
         have hcell:∀j,j<max i.size 1→(b'.cells.drop off)[j]? =(b.cells.drop off)[j]? :=by
           intro j hj
           simp only [List.getElem?_drop]
           refine hs.same g b b' (off+j) h1 h2 ?_
           simp only [apartB,List.all_eq_true,Bool.or_eq_true,bne_iff_ne,decide_eq_true_eq] at ha ⊢
           intro q hq
           rcases ha q hq with (h6|h6)|h6
           · exact .inl (.inl h6)
           · exact .inl (.inr (by omega))
           · exact .inr (by omega)
         have hlen:(b'.cells.drop off).length=(b.cells.drop off).length:=by simp [h5]
         have htake:(b'.cells.drop off).take i.size=(b.cells.drop off).take i.size:=by
           apply List.ext_getElem?
           intro j
           simp only [Zas]
           split
           · exact hcell j (by omega)
           · rfl
         rw [hlen,htake,hcell 0 (by omega)]
     · simp only [if_true]
 · exact absurd rfl (hg _ _ _)
theorem xq_sim (hs:Sim fp h h') (hl:lowB h.length tm o=true∨h'.length=h.length) (hf:frameB P tm fp o=true):xq P h' (evalA tm) o=xq P h (evalA tm) o:=by
 have hlo:∀x∈o.op.operands,LowIn h h' (evalA tm x):=fun x hx=>hl.imp (fun h=>by
   unfold lowB at h
   exact List.all_eq_true.1 h x (by simpa using hx)) id
 unfold frameB at hf
 unfold xq
 split<;>try rfl
 · rename_i t a ho
   simp only [ho] at hf
   refine load_sim hs t _ (hlo a (by simp [ho,Op.operands])) (fun g off he i hi=> ?_) (fun g v off he=> ?_)
   · rw [he] at hf;simp only [hi] at hf;exact hf
   · rw [he] at hf;cases hf
 · rename_i t x lo hi mx ho
   simp only [slice_sim hs t _ (hlo x (by simp [ho,Op.operands]))]
 · rename_i t x f ho
   simp only [fieldAddr_sim hs t _ (hlo x (by simp [ho,Op.operands]))]
 · rename_i t x ix ho
   simp only [indexAddr_sim hs t _ _ (hlo x (by simp [ho,Op.operands]))]
 · rename_i c ho
   split<;>try rfl
   split<;>try rfl
   rename_i x hx
   split<;>try rfl
   have hmem:x∈o.op.operands:=by
     rw [ho]
     have:=Array.mem_of_getElem? hx
     show x∈c.operands
     unfold Call.operands
     exact Array.mem_append_right _ this
   simp only [xLen,len_sim hs _ (hlo x hmem)]
theorem xp_sim {call:CallT} (hs:Sim fp h h') (hl:lowB h.length tm o=true∨h'.length=h.length) (hf:frameB P tm fp o=true):xp P call ops h' tm o=xp P call ops h tm o:=by
 unfold xp
 simp only [xq_sim hs hl hf]
theorem xLates_take:∀ {l:List Oper} {tm:List AV} {h:List Blk} {sts:List (List AV×List Blk)} (i:Nat),xLates P l tm h=some sts→xLates P (l.take i) tm h=some (sts.take (i+1))
 | [],tm,h,sts,i,hx=>by simp only [xLates,Option.some.injEq] at hx;subst hx;simp [xLates]
 | o::l,tm,h,sts,i,hx=>by
   simp only [xLates] at hx
   split at hx<;>try (cases hx;done)
   rename_i x h1 hl
   simp only [Option.map_eq_some_iff] at hx
   obtain ⟨sts',hx,rfl⟩:=hx
   cases i with
   |zero=>simp [xLates]
   |succ i=>simp only [List.take_succ_cons,xLates,hl,xLates_take i hx,Option.map_some]
theorem storeFps_cons (tm:List AV) (o:Oper) (l:List Oper):storeFps tm (o::l)=storeFps tm [o]++storeFps tm l:=by
 simp only [storeFps]
 split
 · split<;>rfl
 · rfl
theorem storeFps_mem {tm:List AV} {o:Oper} {q:Nat×Nat×Nat} (hq:q∈storeFps tm [o]):∀ {l:List Oper},o∈l→q∈storeFps tm l
 | [],h=>by cases h
 | x::l,h=>by
   rw [storeFps_cons]
   rcases List.mem_cons.1 h with rfl|h
   · exact List.mem_append_left _ hq
   · exact List.mem_append_right _ (storeFps_mem hq h)
theorem storeFps_sub {tm:List AV} {l':List Oper}:∀ {l:List Oper},(∀o∈l,o∈l')→∀q∈storeFps tm l,q∈storeFps tm l'
 | [],h,q,hq=>by simp [storeFps] at hq
 | x::l,h,q,hq=>by
   rw [storeFps_cons] at hq
   rcases List.mem_append.1 hq with hq|hq
   · exact storeFps_mem hq (h x Zay)
   · exact storeFps_sub (fun o ho=>h o (Zaw _ ho)) q hq
theorem Sim.sub {fp fp':List (Nat×Nat×Nat)} {h h':List Blk} (hs:Sim fp h h') (hf:∀q∈fp,q∈fp'):Sim fp' h h':=
 ⟨hs.hd,hs.ln,fun g blk blk' i h1 h2 h3=>hs.same g blk blk' i h1 h2 (List.all_eq_true.2 fun q hq=>List.all_eq_true.1 h3 q (hf q hq))⟩
theorem findN_spec {k:Nat}:∀ {m n:Nat},findN ops k m=some n→drawLateOk ops k n=true
 |0,n,h=>by simp [findN] at h
 | m+1,n,h=>by
   simp only [findN] at h
   split at h
   · rename_i h1;cases h;exact h1
   · exact findN_spec h
end
section
variable {P:Program} {hp hp':List Blk} {tm tm':List AV} {ops:Array Oper} {Ev:Env P} {X:CX Ev.β} {b:Ev.β}
theorem preRegC_sound {id k:Nat} (hm:P.follows .mixedOrders=true) (hX:X.Ok) (hk:drawOk ops k=true) {K:List AV→List Blk→Ev.β→Prop} {Q:Exit→St Ev.β→Prop} (h:preRegC P X ops k tm hp b K) (hq:∀tm' hp' b',K tm' hp' b'→Q .normal ⟨tm',hp',b'⟩):
   W Ev (.region id ops true) ⟨tm,hp,b⟩ Q:=by
 unfold preRegC at h
 split at h
 · rename_i hks
   obtain ⟨tmK,tb,h1,h2,h3,h4⟩:=preC_sound hX h
   split at h1
   · rename_i hnd
     exact W.draw (s:=⟨tm,hp,b⟩) k (tblD tb) hm (tblD_ok (h3 (by simp))) hk hks (h4 tb (find_of_nodup hnd)) (opsC_sound hX h1 fun s' b' h=>hq _ _ _ h)
   · exact h1.elim
 · exact h.elim
theorem lateRegC_sound {id q n:Nat} (hm:P.follows .mixedOrders=true) (hX:X.Ok) (hn:drawLateOk ops q n=true) {K:List AV→List Blk→Ev.β→Prop} {Q:Exit→St Ev.β→Prop} (h:lateRegC P X ops q n tm hp b K) (hq:∀tm' hp' b',K tm' hp' b'→Q .normal ⟨tm',hp',b'⟩):
   W Ev (.region id ops true) ⟨tm,hp,b⟩ Q:=by
 unfold lateRegC at h
 split at h
 · rename_i hks
   obtain ⟨tmK,tb,h1,h2,h3,h4⟩:=preC_sound hX h
   split at h1
   · rename_i hnd
     split at h1
     · rename_i sts hlates
       split at h1
       · rename_i st hlast
         obtain ⟨hfr,h1⟩:=h1.elim'
         obtain ⟨tmF,hpn⟩:=st
         obtain ⟨sl1,sl2,sl3⟩:=xLates_get hlates
         obtain ⟨L1,L2⟩:=lates_tm hn hks hlates hlast
         have hedges:∀(i:Nat) (o:Oper),ops[i]? =some o→(∀j∈edgesOf o,j<i):=fun i o ho=>(late_at hn ho).1
         have hev:∀(i:Nat) (o:Oper) (t:List AV) (hh:List Blk),((ops.toList.drop q).take n)[i]? =some o→sts[i]? =some (t,hh)→∀a b c,o.op= .store a b c→evalA t b=evalA tmF b∧evalA t c=evalA tmF c:=by
           intro i o t hh e1 e2 a b c hst
           rw [Zas] at e1
           split at e1<;>try (cases e1;done)
           rename_i hin
           rw [List.getElem?_drop] at e1
           have ho:ops[q+i]? =some o:=by simpa using e1
           have hcon:=evalA_congr (o:=o) (ops:=ops) (tm:=t) (tm':=tmF) fun x hx=>getD_of (L2 i t hh e2 (by omega) x fun j' o' hj' hjn ho' hd'=>by
             have h3:=(late_at hn ho).2.1 (by omega) x hx (q+j') o' (by omega) ho' hd'
             have:=hedges _ o ho _ h3
             omega)
           exact ⟨hcon b (by simp [hst,Op.operands]),hcon c (by simp [hst,Op.operands])⟩
         refine W.late (s:=⟨tm,hp,b⟩) q n (tblD tb) hm (tblD_ok (h3 (by simp))) hn hks hlates (h4 tb (find_of_nodup hnd)) (fun i t h' hh j o hj ho hne=> ?_) hlast (opsC_sound hX h1 fun s' b' h=>hq _ _ _ h)
         have ho':(ops.toList.take q)[j]? =some o:=by rw [Zas,if_pos hj];simpa using ho
         have hfj:=List.all_eq_true.1 hfr j (List.mem_range.2 (Zab.1 ho').1)
         rw [ho'] at hfj
         simp only [Zam,Bool.or_eq_true,Bool.not_eq_true'] at hfj
         have hsimA:=xLates_sim hlates hev [] (Sim.refl _ _) (t,h') (Zbb hh)
         have hsim:=xLates_sim (xLates_take i hlates) (fun i' o t hh e1 e2=>by
           rw [Zas] at e1 e2
           split at e1<;>try (cases e1;done)
           split at e2<;>try (cases e2;done)
           exact hev i' o t hh e1 e2) [] (Sim.refl _ _) (t,h') (Zbb (i:=i) (by rw [Zas,if_pos (by omega)];exact hh))
         simp only [List.nil_append] at hsim
         refine xp_sim (hsim.1.sub (storeFps_sub fun o' ho'=> ?_)) ?_ hfj.1
         · obtain ⟨i',hi'⟩:=Zak.1 ho'
           rw [Zas] at hi'
           split at hi'<;>try (cases hi';done)
           rename_i hlt
           refine List.mem_filter.2 ⟨Zbb hi', ?_⟩
           rw [Zas] at hi'
           split at hi'<;>try (cases hi';done)
           rw [List.getElem?_drop] at hi'
           have:=hne i' o' hlt (by simpa using hi')
           simpa using this
         · rcases hfj.2 with h5|h5
           · exact .inr (hsimA.2 h5)
           · exact .inl h5
       · exact h1.elim
     · exact h1.elim
   · exact h1.elim
 · exact h.elim
theorem drawC0_sound {id:Nat} (hm:P.follows .mixedOrders=true) (hX:X.Ok) {K:List AV→List Blk→Ev.β→Prop} {Q:Exit→St Ev.β→Prop} (h:drawC0 P X ops tm hp b K) (hq:∀tm' hp' b',K tm' hp' b'→Q .normal ⟨tm',hp',b'⟩):
   W Ev (.region id ops true) ⟨tm,hp,b⟩ Q:=by
 unfold drawC0 at h
 split at h
 · rename_i k hk
   exact preRegC_sound hm hX (findK_spec hk) h hq
 · split at h
   · rename_i n hn
     exact lateRegC_sound hm hX (findN_spec hn) h hq
   · split at h
     · rename_i k hk
       exact preRegC_sound hm hX (findK_spec hk) h hq
     · split at h
       · rename_i n hn
         exact lateRegC_sound hm hX (findN_spec hn) h hq
       · split at h
         · rename_i k hk
           exact preRegC_sound hm hX (findK_spec hk) h hq
         · split at h
           · rename_i n hn
             exact lateRegC_sound hm hX (findN_spec hn) h hq
           · exact h.elim
theorem drawC_sound {id:Nat} (hm:P.follows .mixedOrders=true) (hX:X.Ok) {K:List AV→List Blk→Ev.β→Prop} {Q:Exit→St Ev.β→Prop} (h:drawC P X ops tm hp b K) (hq:∀tm' hp' b',K tm' hp' b'→Q .normal ⟨tm',hp',b'⟩):
   W Ev (.region id ops true) ⟨tm,hp,b⟩ Q:=by
 unfold drawC at h
 split at h
 · split at h
   · rename_i k hk
     exact preRegC_sound hm hX (findK_spec hk) h hq
   · exact h.elim
 · exact drawC0_sound hm hX h hq
theorem W.ofFrz {P:Program} {Ev:Env P} {c:Code} {b:Ev.β} {Q:Exit→St Ev.β→Prop} {tm tm1:List AV} {hp hp1:List Blk} (hf:FrzOk ⟨tm,hp, []⟩ ⟨tm1,hp1, []⟩) (h:W Ev c ⟨tm1,hp1,b⟩ Q):W Ev c ⟨tm,hp,b⟩ Q:=by
 intro lo r S X V w m B hv a ht
 obtain ⟨S',hg,hr⟩:=hf S X Ev.yl w m B hv a ht.rel
 have ht':=ht.step hg hr rfl
 refine wpIn_mono (h lo r S' X V w m B hv a ht') ?_
 rintro e a' w' ⟨s',S'',X',V',m',hv',hq,⟨hw,hm⟩,h3⟩
 exact ⟨s',S'',X',V',m',hv',hq,⟨(hg.went hr.slt).trans hw,hm⟩,h3⟩
theorem W.sealed {P:Program} {Ev:Env P} {c:Code} {b:Ev.β} {Q:Exit→St Ev.β→Prop} {tm:List AV} {hp:List Blk} {t:Nat} {K:List AV→Prop} (h:sealTs hp [t] tm K) (hK:∀tm1,K tm1→W Ev c ⟨tm1,frz hp (occ (tm.getD t .bad)),b⟩ Q):W Ev c ⟨tm,hp,b⟩ Q:=by
 obtain ⟨tm1,hf,h1⟩:=sealTs_sound (gs:=occ (tm.getD t .bad)) (tm0:=tm) h (by simp) (frzTm_refl _ _) (fun _ _=>rfl) fun t' ht' g hg=>by
   simp at ht';subst ht';exact hg
 exact W.ofFrz (frz_ok (s:=⟨tm,hp, []⟩) hf) (hK _ h1)
theorem regionC_sound {id:Nat} {d:Bool} (hm:P.follows .mixedOrders=true) (hX:X.Ok) {K:List AV→List Blk→Ev.β→Prop} {Q:Exit→St Ev.β→Prop} (h:regionC P X ops d tm hp b K) (hq:∀tm' hp' b',K tm' hp' b'→Q .normal ⟨tm',hp',b'⟩):
   W Ev (.region id ops d) ⟨tm,hp,b⟩ Q:=by
 unfold regionC at h
 cases d with
 | false=>
   simp only [Zcg,if_false] at h
   exact W.region (s:=⟨tm,hp,b⟩) (opsC_sound hX h fun s' b' h=>hq _ _ _ h)
 | true=>
   simp only [if_true] at h
   split at h
   · exact W.sealed h fun tm1 h1=>drawC_sound hm hX h1 hq
   · exact drawC_sound hm hX h hq
theorem stepR_scope {c:Code} {fr:Frame} {a:Act} {k:List Item} {cs:List Frame} {w:World}:step P (lone (fr.atR a (.code (.scope c)::k)) cs w)= .next (lone (fr.atR a (.code c:: .inScope c::k)) cs w):=
 step_lone_go (by simp [stepG,stepG.exec,Frame.atR])
theorem stepR_inScope {c:Code} {fr:Frame} {a:Act} {k:List Item} {cs:List Frame} {w:World}:step P (lone (fr.atR a (.inScope c::k)) cs w)= .next (lone (fr.atR a k) cs w):=
 step_lone_go (by simp [stepG,stepG.exec,Frame.atR])
def noGoto {α:Type} (Q:Exit→α→Prop):Exit→α→Prop
 | .goto _,_=>False
 |e,s=>Q e s
theorem wpIn_scope {F:Fence} {n:Nat} {c:Code} {Q:Exit→Act→World→Prop} {a:Act} {w:World} (h:c.wpIn F n P (Exit.noGoto Q) a w):(Code.scope c).wpIn F n P Q a w:=by
 intro b k cs hro hb hr
 have h0:(lone (b.atR a (.code (.scope c)::k)) cs w).fenced P F:=fenced_calm hb hr rfl
 obtain ⟨e,a₁,w₁,hq,harr⟩:=h b (.inScope c::k) cs hro hb hr
 cases e with
 |normal=>exact ⟨.normal,a₁,w₁,hq, .head h0 stepR_scope (StepsIn.trans harr (.one (fenced_calm hb hr rfl) stepR_inScope))⟩
 | exit id=>
   have hx:exitTo id (.inScope c::k)=exitTo id k:=by simp [exitTo]
   exact ⟨.exit id,a₁,w₁,hq,fun k' hk=> .head h0 stepR_scope (harr.1 k' (by rw [hx];exact hk)),
       fun hr' hk=>let ⟨k₁,h1,h2⟩:=harr.2 hr' (by rw [hx];exact hk);⟨k₁,h1, .head h0 stepR_scope h2⟩⟩
 |goto l=>exact hq.elim
 |ret=>exact ⟨_,a₁,w₁,hq, .of_steps (.one h0 stepR_scope) harr⟩
 |panic ch=>exact ⟨_,a₁,w₁,hq, .of_steps (.one h0 stepR_scope) harr⟩
 |outgrown=>exact ⟨_,a₁,w₁,hq, .of_steps (.one h0 stepR_scope) harr⟩
theorem W.scope {c:Code} {s:St Ev.β} {Q:Exit→St Ev.β→Prop} (h:W Ev c s (noGoto Q)):W Ev (.scope c) s Q:=by
 intro lo r S X V w m B hv a ht
 refine wpIn_scope (wpIn_mono (h lo r S X V w m B hv a ht) fun e a' w' ⟨s',S',X',V',m',hv',h1,h2,h3⟩=> ?_)
 cases e with
 |goto l=>exact h1.elim
 |normal=>exact ⟨s',S',X',V',m',hv',h1,h2,h3⟩
 |exit id=>exact ⟨s',S',X',V',m',hv',h1,h2,h3⟩
 |ret=>exact ⟨s',S',X',V',m',hv',h1,h2,h3⟩
 |panic ch=>exact ⟨s',S',X',V',m',hv',h1,h2,h3⟩
 |outgrown=>exact ⟨s',S',X',V',m',hv',h1,h2,h3⟩
def WR (Ev:Env P) (c:Code):Nat→St Ev.β→(Exit→St Ev.β→Prop)→Prop
 |0,_,_=>False
 |m+1,s,Q=>W Ev c s (thenW (fun s'=>WR Ev c m s' Q) Q)
theorem W.rounds {c:Code} {Q:Exit→St Ev.β→Prop} {m:Nat} {s:St Ev.β} (h:WR Ev c m s Q):W Ev (.loop c) s Q:=by
 intro lo r S X V w m0 B hv a ht
 have key:∀(n:Nat) (s:St Ev.β) (S0 X0 V0:Pr) (w0:World) (m1:List MB) (hv:List (List Value)) (a:Act),WR Ev c n s Q→(Went Ev.L S X V w S0 X0 V0 w0∧MStep m0 m1)→Tie Ev lo r S0 X0 V0 w0 m1 B hv s.rs s.b a→
     Code.roundsIn (Fn r) 0 P c (Beh Ev lo r S X V w m0 B Q) n a w0:=by
   intro n
   induction n with
   |zero=>intro s S0 X0 V0 w0 m1 hv a h;exact h.elim
   | succ n ih=>
     intro s S0 X0 V0 w0 m1 hv a h hm ht
     rw [roundsIn_succ]
     refine wpIn_mono (h lo r S0 X0 V0 w0 m1 B hv a ht) fun e a' w' ⟨s',S',X',V',m',hv',h1,h2,h3⟩=> ?_
     cases e with
     |normal=>exact ih s' S' X' V' w' m' hv' a' h1 ⟨hm.1.trans h2.1,hm.2.trans h2.2⟩ h3
     |exit id=>exact Beh.from hm ⟨s',S',X',V',m',hv',h1,h2,h3⟩
     |goto l=>exact Beh.from hm ⟨s',S',X',V',m',hv',h1,h2,h3⟩
     |ret=>exact Beh.from hm ⟨s',S',X',V',m',hv',h1,h2,h3⟩
     |panic ch=>exact Beh.from hm ⟨s',S',X',V',m',hv',h1,h2,h3⟩
     |outgrown=>exact Beh.from hm ⟨s',S',X',V',m',hv',h1,h2,h3⟩
 exact wpIn_loop_rounds m (key m s S X V w m0 hv a h ⟨Went.refl ht.rel.slt,MStep.refl m0⟩ ht)
theorem rounds_sound {c:Code} {n:Nat} (ih:∀ {tm:List AV} {hp:List Blk} {b:Ev.β} {K:Exit→List AV→List Blk→Ev.β→Prop} {Q:Exit→St Ev.β→Prop},wpc P X n c tm hp b K→(∀e tm hp b,K e tm hp b→Q e ⟨tm,hp,b⟩)→W Ev c ⟨tm,hp,b⟩ Q):
   ∀ {m:Nat} {tm:List AV} {hp:List Blk} {b:Ev.β} {K:Exit→List AV→List Blk→Ev.β→Prop} {Q:Exit→St Ev.β→Prop},rounds (wpc P X n c) m tm hp b K→(∀e tm hp b,K e tm hp b→Q e ⟨tm,hp,b⟩)→WR Ev c m ⟨tm,hp,b⟩ Q
 |0,tm,hp,b,K,Q,h,hq=>h.elim
 | m+1,tm,hp,b,K,Q,h,hq=>by
   simp only [rounds] at h
   refine ih h fun e tm' hp' b' hK=> ?_
   cases e with
   |normal=>exact rounds_sound ih (m:=m) hK hq
   |exit id=>exact hq _ _ _ _ hK
   |goto l=>exact hq _ _ _ _ hK
   |ret=>exact hq _ _ _ _ hK
   |panic ch=>exact hq _ _ _ _ hK
   |outgrown=>exact hq _ _ _ _ hK
theorem wpc_sound (hm:P.follows .mixedOrders=true) (hX:X.Ok):∀ {n:Nat} {c:Code} {tm:List AV} {hp:List Blk} {b:Ev.β} {K:Exit→List AV→List Blk→Ev.β→Prop} {Q:Exit→St Ev.β→Prop},
   wpc P X n c tm hp b K→(∀e tm hp b,K e tm hp b→Q e ⟨tm,hp,b⟩)→W Ev c ⟨tm,hp,b⟩ Q
 |0,c,tm,hp,b,K,Q,h,hq=>h.elim
 | n+1,c,tm,hp,b,K,Q,h,hq=>by
   cases c with
   |skip=>exact W.skip (hq _ _ _ _ h)
   |label l=>exact W.label (hq _ _ _ _ h)
   |exit id=>exact W.exit (hq _ _ _ _ h)
   |goto l=>exact W.goto (hq _ _ _ _ h)
   |ret=>exact W.ret (hq _ _ _ _ h)
   |region id ops d=>exact regionC_sound hm hX h fun _ _ _ h=>hq _ _ _ _ h
   | seq x y=>
     simp only [wpc] at h
     refine W.seq (wpc_sound hm hX h fun e tm' hp' b' hK=> ?_)
     cases e with
     |normal=>exact wpc_sound hm hX hK hq
     |exit id=>exact hq _ _ _ _ hK
     |goto l=>exact hq _ _ _ _ hK
     |ret=>exact hq _ _ _ _ hK
     |panic ch=>exact hq _ _ _ _ hK
     |outgrown=>exact hq _ _ _ _ hK
   | cond x c c'=>
     simp only [wpc] at h
     split at h
     · rename_i t hx
       have hs:=setB_self hx
       rcases h.elim with ⟨rfl,h⟩|⟨rfl,h⟩<;>rw [hs] at h
       · exact W.cond (t:=true) hx (wpc_sound hm hX h hq)
       · exact W.cond (t:=false) hx (wpc_sound hm hX h hq)
     · exact h.elim
   | block id c=>
     simp only [wpc] at h
     refine W.block (wpc_sound hm hX h fun e tm' hp' b' hK=> ?_)
     cases e with
     | exit id'=>
       simp only [blockK] at hK
       simp only [catchExit]
       split at hK
       · rename_i he;rw [if_pos he];exact hq _ _ _ _ hK
       · rename_i he;rw [if_neg he];exact hq _ _ _ _ hK
     |normal=>exact hq _ _ _ _ hK
     |goto l=>exact hq _ _ _ _ hK
     |ret=>exact hq _ _ _ _ hK
     |panic ch=>exact hq _ _ _ _ hK
     |outgrown=>exact hq _ _ _ _ hK
   | loop c=>
     simp only [wpc] at h
     split at h
     · exact W.rounds (rounds_sound (fun h hq=>wpc_sound hm hX h hq) h hq)
     · exact W.mono (hX.wl _ _ _ _ _ h) fun e s h=>hq _ _ _ _ h
   |rangeFunc f ps assign body=>exact W.mono (hX.wl _ _ _ _ _ h) fun e s h=>hq _ _ _ _ h
   | scope body=>
     simp only [wpc] at h
     refine W.scope (wpc_sound hm hX h fun e tm' hp' b' hK=> ?_)
     cases e with
     |goto l=>exact hK.elim
     |normal=>exact hq _ _ _ _ hK
     |exit id=>exact hq _ _ _ _ hK
     |ret=>exact hq _ _ _ _ hK
     |panic ch=>exact hq _ _ _ _ hK
     |outgrown=>exact hq _ _ _ _ hK
   |refuse why=>exact h.elim
theorem fnK_sound {fn:Func} {R:AV→Ev.β→Prop} {e:Exit} {tm:List AV} {hp:List Blk} {b:Ev.β} (h:fnK P fn R e tm hp b):FnPost P fn (fun y hp b=>∃z,SealR hp y z∧R z b) e ⟨tm,hp,b⟩:=by
 unfold fnK at h
 obtain ⟨he,h⟩:=h.elim'
 split at h
 · rename_i ys hys
   obtain ⟨z,hz,h⟩:=sealC_sound h
   refine ⟨?_,ys,hys,z,hz,h⟩
   cases e<;>simp at he ⊢
 · exact h.elim
def wlW (Ev:Env P):Code→List AV→List Blk→Ev.β→(Exit→List AV→List Blk→Ev.β→Prop)→Prop:=fun c tm hp b K=>W Ev c ⟨tm,hp,b⟩ fun e s=>K e s.tm s.hp s.b
def CallsOk (P:Program) (T:List (Nat×(List AV→(AV→Prop)→Prop))):Prop:=∀(k:Nat) f,T.lookup k=some f→∀args K,f args K→∃x,PCall P k args x∧K x
def SCallsOk (P:Program) (T:List (Nat×(List AV→List Blk→(AV→List Blk→Prop)→Prop))):Prop:=∀(k:Nat) f,T.lookup k=some f→∀args hp K,f args hp K→∃x hp',SCall P k args hp x hp'∧K x hp'
theorem CallsOk.nil:CallsOk P []:=fun _ _ h=>by cases h
theorem SCallsOk.nil:SCallsOk P []:=fun _ _ h=>by cases h
theorem CallsOk.cons {T:List (Nat×(List AV→(AV→Prop)→Prop))} {k:Nat} {f:List AV→(AV→Prop)→Prop} (h:∀args K,f args K→∃x,PCall P k args x∧K x) (hT:CallsOk P T):CallsOk P ((k,f)::T):=by
 intro k' f' hl
 rw [List.lookup_cons] at hl
 split at hl
 · rename_i he
   cases hl
   rw [eq_of_beq he];exact h
 · exact hT k' f' hl
theorem CX.Ok.of {Ev:Env P} {T:List (Nat×(List AV→(AV→Prop)→Prop))} {S:List (Nat×(List AV→List Blk→(AV→List Blk→Prop)→Prop))} {u:Bool} (hT:CallsOk P T) (hS:SCallsOk P S):CX.Ok Ev ⟨T,S,wlW Ev,Ev.Y,u⟩:=
 ⟨hT,hS,fun _ _ _ _ _ h=>h,rfl⟩
theorem PCall.ofWp {f n:Nat} {fn:Func} {c:Code} {args:List AV} {x:AV} {T:List (Nat×(List AV→(AV→Prop)→Prop))} {S:List (Nat×(List AV→List Blk→(AV→List Blk→Prop)→Prop))} {u:Bool} (hm:P.follows .mixedOrders=true)
   (hT:CallsOk P T) (hS:SCallsOk P S) (hf:P.funcs[f]? =some fn) (hb:fn.body=some c) (hn:(fn.name== "runtime.NumGoroutine")=false) (hargs:args.map Zcx=args)
   (h:∀(Ev:Env P) (b:Ev.β),wpc P ⟨T,S,wlW Ev,Ev.Y,u⟩ n c (startTm fn args) [] b (fnK P fn fun y _=>y=x)):PCall P f args x:=by
 refine PCall.ofWS hf hb hn hargs fun Ev b=>wpc_sound hm (CX.Ok.of hT hS) (h Ev b) fun e tm hp b hK=> ?_
 obtain ⟨h1,ys,h2,z,h3,rfl⟩:=fnK_sound hK
 exact ⟨h1,ys,h2,h3⟩
end
def i64 (x:Int):Dv:= .s (.int .i64 x)
def u64 (x:Int):Dv:= .s (.int .u64 x)
def u8 (x:Int):Dv:= .s (.int .u8 x)
def bo (x:Bool):Dv:= .s (.bool x)
noncomputable def code (fn:Func):Code:=fn.body.getD .skip
def firstOf:Code→Code
 | .seq x _=>x
 |c=>c
def restOf:Code→Code
 | .seq _ y=>y
 |c=>c
def inBlock:Code→Code
 | .block _ c=>c
 |c=>c
def inLoop:Code→Code
 | .loop c=>c
 |c=>c
def assignOf:Code→Code
 | .rangeFunc _ _ a _=>a
 |c=>c
def bodyOf:Code→Code
 | .rangeFunc _ _ _ b=>b
 |c=>c
def cidO:Code→Nat
 | .region id _ _=>id+1
 | .seq x y=>match cidO x with
   |0=>cidO y
   |n=>n
 | .block _ c=>cidO c
 | .loop c=>cidO c
 | .scope c=>cidO c
 | .cond _ x _=>cidO x
 | .rangeFunc _ _ a b=>match cidO a with
   |0=>cidO b
   |n=>n
 |_=>0
abbrev WLT (β:Type):=Code→List AV→List Blk→β→(Exit→List AV→List Blk→β→Prop)→Prop
def sub:List Nat→Code→Code
 | [],c=>c
 | n::p,c=>match n,c with
   |0, .seq x _=>sub p x
   |1, .seq _ y=>sub p y
   |2, .block _ c=>sub p c
   |3, .loop c=>sub p c
   |4, .cond _ x _=>sub p x
   |5, .cond _ _ y=>sub p y
   |6, .rangeFunc _ _ a _=>sub p a
   |7, .rangeFunc _ _ _ b=>sub p b
   |8, .scope c=>sub p c
   |_,_=> .skip
def nth (p:List Int) (i:Nat):Int:=p.getD i 0
def cells16 (p:List Int):List AV:=(List.range 16).map fun i=> .d (u8 (nth p i))
def LeA (x y:AV):Prop:=x=y∨y= .bad∨(isNilSlice x=true∧∃k,(y= .d (.sl k [])∨∃e,y= .own e k []))∨y=x.view
theorem LeA.rfl {x:AV}:LeA x x:= .inl (Eq.refl x)
theorem LeA.bad {x:AV}:LeA x .bad:= .inr (.inl (Eq.refl _))
theorem LeA.nilOwn {x:AV} {e k:Nat} (h:isNilSlice x=true):LeA x (.own e k []):= .inr (.inr (.inl ⟨h,k, .inr ⟨e,Eq.refl _⟩⟩))
theorem LeA.nilSl {x:AV} {k:Nat} (h:isNilSlice x=true):LeA x (.d (.sl k [])):= .inr (.inr (.inl ⟨h,k, .inl (Eq.refl _)⟩))
theorem LeA.view {x:AV}:LeA x x.view:= .inr (.inr (.inr (Eq.refl _)))
inductive LeL:List AV→List AV→Prop
 |nil:LeL [] []
 |cons {x y:AV} {xs ys:List AV} (h:LeA x y) (hs:LeL xs ys):LeL (x::xs) (y::ys)
theorem LeL.refl:∀(l:List AV),LeL l l
 | []=> .nil
 |_::l=> .cons .rfl (LeL.refl l)
theorem LeL.len {xs ys:List AV} (h:LeL xs ys):ys.length=xs.length:=by
 induction h with
 |nil=>rfl
 |cons _ _ ih=>simp [ih]
inductive LeH:List Blk→List Blk→Prop
 |nil:LeH [] []
 |cons {p q:List AV} {f g:Bool} {v:Nat} {ps qs:List Blk} (h:LeL p q) (hs:LeH ps qs):LeH (⟨p,f,g,v⟩::ps) (⟨q,f,g,v⟩::qs)
theorem LeH.refl:∀(l:List Blk),LeH l l
 | []=> .nil
 |⟨_,_,_,_⟩::l=> .cons (.refl _) (LeH.refl l)
theorem LeH.len {xs ys:List Blk} (h:LeH xs ys):ys.length=xs.length:=by
 induction h with
 |nil=>rfl
 |cons _ _ ih=>simp [ih]
section
variable {P:Program} {S S' X X' V V':Pr} {r:Option Nat} {lo:Nat} {yv:Option Nat} {w w':World} {m m':List MB} {A A' B C:List (AV×Value)} {hp hp':List Blk} {tm tm':List AV} {hv hv':List (List Value)} {a a':Act} {Ev:Env P} {s s':St Ev.β} {b:Ev.β} {Q:Exit→St Ev.β→Prop} {c:Code}
theorem LeA.rv {x y:AV} {v:Value} (h:LeA x y) (hr:RV S w m yv x v):RV S w m yv y v:=by
 rcases h with rfl|rfl|⟨h,k,h1⟩|rfl
 · exact hr
 · exact .bad
 · have hv:=isNilSlice_spec h hr
   subst hv
   rcases h1 with rfl|⟨e,rfl⟩
   · exact .d (.nil k)
   · exact .ownNil
 · exact hr.view
theorem LeA.own {x y:AV} {v:Value} (h:LeA x y) (hr:RV S w m yv x v):x=y∨ownB (y,v)=none:=by
 rcases h with rfl|rfl|⟨h,k,h1⟩|rfl
 · exact .inl (Eq.refl _)
 · exact .inr (Eq.refl _)
 · have hv:=isNilSlice_spec h hr
   subst hv
   rcases h1 with rfl|⟨e,rfl⟩
   · exact .inr (Eq.refl _)
   · exact .inr (Eq.refl _)
 · exact .inr (ownB_view _ _)
inductive LP:List (AV×Value)→List (AV×Value)→Prop
 |nil:LP [] []
 |cons {x y:AV} {v:Value} {A A':List (AV×Value)} (h:LeA x y) (hs:LP A A'):LP ((x,v)::A) ((y,v)::A')
theorem LP.refl:∀(l:List (AV×Value)),LP l l
 | []=> .nil
 |(_,_)::l=> .cons .rfl (LP.refl l)
theorem LP.append {A A' B B':List (AV×Value)} (h:LP A A') (h':LP B B'):LP (A++B) (A'++B'):=by
 induction h with
 |nil=>exact h'
 |cons h _ ih=>exact .cons h ih
theorem LeL.zip {xs ys:List AV} (h:LeL xs ys):∀(vs:List Value),LP (xs.zip vs) (ys.zip vs):=by
 induction h with
 |nil=>intro vs;exact .nil
 | cons h _ ih=>
   intro vs
   cases vs with
   |nil=>exact .nil
   |cons v vs=>exact .cons h (ih vs)
theorem LeH.pairs {ps qs:List Blk} (h:LeH ps qs):∀(hv:List (List Value)),LP (cellPairs ps hv) (cellPairs qs hv):=by
 induction h with
 |nil=>intro hv;exact .nil
 | cons h _ ih=>
   intro hv
   cases hv with
   |nil=>exact .nil
   | cons v hv=>
     simp only [cellPairs,List.zip_cons_cons,List.flatMap_cons]
     exact (h.zip v).append (ih hv)
theorem Rel.lp (h:LP A A'):∀ {C:List (AV×Value)},Rel S X yv w m (A++C) hp hv→Rel S X yv w m (A'++C) hp hv:=by
 induction h with
 |nil=>intro C h;exact h
 | @cons x y v A1 A2 h1 _ ih=>
   intro C h
   have h2:Rel S X yv w m (A1++((x,v)::C)) hp hv:=h.perm (by simpa using (List.perm_middle (a:=(x,v)) (l₁:=A1) (l₂:=C)).symm)
   have h3:=ih h2
   have h4:Rel S X yv w m ((x,v)::(A2++C)) hp hv:=h3.perm List.perm_middle
   have hr:RV S w m yv x v:=h4.rv _ (Zay ..)
   rcases h1.own hr with rfl|hn
   · exact h4
   · exact (h4.sub (List.sublist_cons_self _ _)).cons (h1.rv hr) hn
theorem LeH.get {ps qs:List Blk} (h:LeH ps qs):∀(g:Nat) (q:Blk),qs[g]? =some q→∃p,ps[g]? =some p∧q.fro=p.fro∧q.grow=p.grow∧q.ver=p.ver∧q.cells.length=p.cells.length:=by
 induction h with
 |nil=>intro g q hq;simp at hq
 | cons h _ ih=>
   intro g q hq
   cases g with
   |zero=>simp at hq;subst hq;exact ⟨_,rfl,rfl,rfl,rfl,h.len⟩
   |succ g=>simp at hq;simpa using ih g q hq
theorem Rel.leH (h:LeH hp hp') (hr:Rel S X yv w m A hp hv):Rel S X yv w m A hp' hv:=by
 refine ⟨hr.lt,hr.rv,hr.pw,hr.nm,hr.sp,hr.mnd,hr.ml.trans h.len.symm,hr.hl.trans h.len.symm,fun g blk p vs h1 h2 h3=> ?_,hr.gl⟩
 obtain ⟨blk0,e1,e2,e3,e4,e5⟩:=h.get g blk h1
 obtain ⟨a1,a2,a3,a4,a5,a6,a9,a10⟩:=hr.bl g blk0 p vs e1 h2 h3
 exact ⟨a1.trans e5.symm,a2.trans e3.symm,a3.trans e4.symm,a4,a5,a6,by rw [e2];exact a9,by rw [e2];exact a10⟩
theorem Tie.le {pv:List (Nat×Loc)} (h1:LeL tm tm') (h2:LeH hp hp') (ht:Tie Ev lo r S X V w m B hv ⟨tm,hp,pv⟩ b a):Tie Ev lo r S X V w m B hv ⟨tm',hp', []⟩ b a:=by
 refine ⟨⟨h1.len.trans ht.rel.1, ?_,by intro p hp;cases hp⟩,ht.sub,ht.env,ht.round,ht.marks,ht.base⟩
 refine Rel.leH h2 ?_
 have:=Rel.lp ((h1.zip a.tmps.toList).append ((LP.refl B).append (h2.pairs hv))) (C:= []) (by simpa using ht.rel.2.1)
 simpa using this
theorem W.cast (h1:LeL tm tm') (h2:LeH hp hp') (h:W Ev c ⟨tm',hp',b⟩ Q):W Ev c ⟨tm,hp,b⟩ Q:=
 fun lo r S X V w m B hv a ht=>h lo r S X V w m B hv a (ht.le h1 h2)
theorem W.castPost (h:W Ev c s fun e s'=>∃tm' hp',LeL s'.tm tm'∧LeH s'.hp hp'∧Q e ⟨tm',hp',s'.b⟩):W Ev c s Q:=by
 intro lo r S X V w m B hv a ht
 refine wpIn_mono (h lo r S X V w m B hv a ht) ?_
 rintro e a' w' ⟨s',S',X',V',m',hv',⟨tm',hp',h1,h2,hq⟩,h3,ht'⟩
 exact ⟨_,S',X',V',m',hv',hq,h3,ht'.le h1 h2⟩
def maskTm (keep:List Nat):Nat→List AV→List AV
 |_, []=> []
 |i,x::l=>(if keep.contains i then x else .bad)::maskTm keep (i+1) l
theorem maskTm_le (keep:List Nat):∀(l:List AV) (i:Nat),LeL l (maskTm keep i l)
 | [],_=> .nil
 |x::l,i=> .cons (by split;exact .rfl;exact .bad) (maskTm_le keep l (i+1))
def maskK {β:Type} (n:Nat) (keep:List Nat) (K:Exit→List AV→List Blk→β→Prop):Exit→List AV→List Blk→β→Prop:=fun e tm hp b=>BIf (lowHp n hp) (K e (maskTm keep 0 (lowTm n tm)) (hp.take n) b) False
theorem W.ofMask {X:CX Ev.β} {k:Nat} {keep:List Nat} {K:Exit→List AV→List Blk→Ev.β→Prop} (hm:P.follows .mixedOrders=true) (hX:X.Ok) (h:wpc P X k c tm hp b (maskK hp.length keep K)) (hq:∀e tm hp b,K e tm hp b→Q e ⟨tm,hp,b⟩):W Ev c ⟨tm,hp,b⟩ Q:=by
 refine W.castPost (W.scratch (wpc_sound hm hX h fun e tm' hp' b' hK=> ?_))
 obtain ⟨h1,h2⟩:=hK.elim'
 exact ⟨h1,_,_,maskTm_le keep _ 0,LeH.refl _,hq _ _ _ _ h2⟩
theorem WR.ofMask {X:CX Ev.β} {n k:Nat} (keep:List Nat) (hm:P.follows .mixedOrders=true) (hX:X.Ok) (h:wpc P X k c tm hp b (maskK hp.length keep (thenK (fun tm hp b=>WR Ev c n ⟨tm,hp,b⟩ Q) fun e tm hp b=>Q e ⟨tm,hp,b⟩))):WR Ev c (n+1) ⟨tm,hp,b⟩ Q:=
 W.ofMask hm hX h fun e tm hp b hK=>by cases e<;>exact hK
def maskT {β:Type} (keep:List Nat) (K:Exit→List AV→List Blk→β→Prop):Exit→List AV→List Blk→β→Prop:=fun e tm hp b=>K e (maskTm keep 0 tm) hp b
theorem WR.ofMaskT {X:CX Ev.β} {n k:Nat} (keep:List Nat) (hm:P.follows .mixedOrders=true) (hX:X.Ok) (h:wpc P X k c tm hp b (maskT keep (thenK (fun tm hp b=>WR Ev c n ⟨tm,hp,b⟩ Q) fun e tm hp b=>Q e ⟨tm,hp,b⟩))):WR Ev c (n+1) ⟨tm,hp,b⟩ Q:=
 W.castPost (wpc_sound hm hX h fun e tm hp b hK=>⟨maskTm keep 0 tm,hp,maskTm_le _ tm 0,LeH.refl _,by cases e<;>exact hK⟩)
def rangeC (Ev:Env P) (tm:List AV) (Q:Exit→St Ev.β→Prop) (K:List Blk→Ev.β→Prop):Exit→List Blk→Ev.β→Prop
 | .normal,hp,b=>K hp b
 | .ret,hp,b=>Q .ret ⟨tm,hp,b⟩
 | .exit id,hp,b=>Q (.exit id) ⟨tm,hp,b⟩
 | .goto t,hp,b=>Q (.goto t) ⟨tm,hp,b⟩
 |_,_,_=>False
def takeK {β:Type} (n:Nat) (K:Exit→List Blk→β→Prop):Exit→List AV→List Blk→β→Prop:=fun e _ hp b=>BIf (lowHp n hp) (K e (hp.take n) b) False
def wpcY {β:Type} (P:Program) (X:CX β) (k:Nat) (ps:Array Tmp) (assign body:Code) (tm:List AV) (args:List AV) (hp:List Blk) (b:β) (K:Exit→List AV→List Blk→β→Prop):Prop:=
 wpc P X k assign (setParams (tm.map Zcx) ps (args.map Zcx)) hp b fun e tm' hp' b'=>BIf (match e with| .normal=>true|_=>false) (wpc P X k body tm' hp' b' K) False
theorem YBody.ofWp {X:CX Ev.β} {k n:Nat} {ps:Array Tmp} {assign body:Code} {args:List AV} {Qy:Bool→List Blk×Ev.β×Option Exit→Prop} {K:Exit→List AV→List Blk→Ev.β→Prop} (hm:P.follows .mixedOrders=true) (hX:X.Ok) (hl:args.length=ps.size)
   (h:wpcY P X k ps assign body tm args hp b K) (hK:∀e tm' hp' b',K e tm' hp' b'→lowHp n hp'=true∧match e with
     | .normal=>Qy true (hp'.take n,b',none)
     | .ret=>Qy false (hp'.take n,b',some .ret)
     | .exit id=>Qy false (hp'.take n,b',some (.exit id))
     | .goto t=>Qy false (hp'.take n,b',some (.goto t))
     |_=>False):YBody Ev tm ps assign body n (hp,b,none) args Qy:=by
 refine ⟨rfl,hl,wpc_sound hm hX h fun e tm' hp' b' h1=> ?_⟩
 obtain ⟨he,h1⟩:=h1.elim'
 refine ⟨by cases e<;>simp at he ⊢,wpc_sound hm hX h1 fun e tm' hp' b' h2=>hK e tm' hp' b' h2⟩
theorem YList.step {X:CX Ev.β} {k n:Nat} {ps:Array Tmp} {assign body:Code} {x:List AV} {xs:List (List AV)} (hm:P.follows .mixedOrders=true) (hX:X.Ok) (hl:x.length=ps.size)
   (h:wpcY P X k ps assign body tm x hp b (takeK n (rangeC Ev tm Q fun hp' b'=>YList (YBody Ev tm ps assign body n) xs (hp',b',none) (rangeQ tm Q)))):YList (YBody Ev tm ps assign body n) (x::xs) (hp,b,none) (rangeQ tm Q):=by
 simp only [YList]
 refine YBody.ofWp (k:=k) hm hX hl h fun e tm' hp' b' h1=> ?_
 obtain ⟨h1,h2⟩:=h1.elim'
 refine ⟨h1, ?_⟩
 cases e with
 |normal=>simpa [rangeC] using h2
 |ret=>simpa [rangeQ,rangeC] using h2
 |exit id=>simpa [rangeQ,rangeC] using h2
 |goto t=>simpa [rangeQ,rangeC] using h2
 |panic ch=>exact h2.elim
 |outgrown=>exact h2.elim
theorem PCall.ofFn {f n:Nat} {fn:Func} {args:List AV} {x:AV} {T:List (Nat×(List AV→(AV→Prop)→Prop))} {U:List (Nat×(List AV→List Blk→(AV→List Blk→Prop)→Prop))} {u:Bool} (hm:P.follows .mixedOrders=true)
   (hT:CallsOk P T) (hS:SCallsOk P U) (hf:P.funcs[f]? =some fn) (hn:(fn.name== "runtime.NumGoroutine")=false) (hargs:args.map Zcx=args)
   (h:∀(Ev:Env P) (b:Ev.β),wpFn P ⟨T,U,wlW Ev,Ev.Y,u⟩ n fn args b (fun y _=>y=x)):PCall P f args x:=by
 cases hb:fn.body with
 |some c=>exact PCall.ofWp hm hT hS hf hb hn hargs fun Ev b=>by have:=h Ev b;unfold wpFn at this;rw [hb] at this;exact this
 | none=>
   have:=h (Env.none P none) ()
   unfold wpFn at this
   rw [hb] at this
   exact this.elim
inductive LeT:AV→AV→Prop
 |base {x y:AV} (h:LeA x y):LeT x y
 |tup {xs ys:List AV} (h:LeL xs ys):LeT (.tup xs) (.tup ys)
 |agg {xs ys:List AV} (h:LeL xs ys):LeT (.agg xs) (.agg ys)
theorem LeL.rvs {xs ys:List AV} (h:LeL xs ys):∀(vs:List Value),xs.length=vs.length→(∀(i:Nat) (c:AV) (v:Value),xs[i]? =some c→vs[i]? =some v→RV S w m yv c v)→∀(i:Nat) (c:AV) (v:Value),ys[i]? =some c→vs[i]? =some v→RV S w m yv c v:=by
 induction h with
 |nil=>intro vs _ _ i c v hc;simp at hc
 | cons h _ ih=>
   intro vs hl hr i c v hc hv
   cases vs with
   |nil=>simp at hl
   | cons v0 vs=>
     cases i with
     |zero=>simp at hc hv;subst hc;subst hv;exact h.rv (hr 0 _ _ rfl rfl)
     |succ i=>simp at hc hv;exact ih vs (by simpa using hl) (fun i c v h1 h2=>hr (i+1) c v (by simpa using h1) (by simpa using h2)) i c v hc hv
theorem LeT.rv {x y:AV} {v:Value} (h:LeT x y) (hr:RV S w m yv x v):RV S w m yv y v:=by
 cases h with
 |base h=>exact h.rv hr
 | tup h=>
   cases hr with
   |tup hl hr=>exact .tup (h.len.trans hl) fun i c v h1 h2=>h.rvs _ (by rw [Array.length_toList];exact hl) (fun i c v h1 h2=>hr i c v h1 (by simpa using h2)) i c v h1 (by simpa using h2)
 | agg h=>
   cases hr with
   |agg hl hr=>exact .agg (h.len.trans hl) fun i c v h1 h2=>h.rvs _ (by rw [Array.length_toList];exact hl) (fun i c v h1 h2=>hr i c v h1 (by simpa using h2)) i c v h1 (by simpa using h2)
theorem LeT.rfl {x:AV}:LeT x x:= .base .rfl
theorem PCall.ofWL {f:Nat} {fn:Func} {c:Code} {args:List AV} {x:AV} (hf:P.funcs[f]? =some fn) (hb:fn.body=some c) (hn:(fn.name== "runtime.NumGoroutine")=false) (hargs:args.map Zcx=args)
   (hW:∀(Ev:Env P) (b:Ev.β),W Ev c ⟨startTm fn args, [],b⟩ (FnPost P fn fun y hp _=>∃z,SealR hp y z∧LeT z x)):PCall P f args x:=by
 refine ⟨enter_ok hf hb hn,fun S w vs hl hvs hlt hgl=> ?_⟩
 have hrel:Rel S (fun b _=>b<w.heap.size) none w [] (args.zip vs++([]++cellPairs [] [])) [] []:=by
   have h0:Rel S (fun b _=>b<w.heap.size) none w [] [] [] []:=⟨fun b i h=>h.elim (hlt b i) id,by simp,List.Pairwise.nil,by simp,by simp,by simp,rfl,rfl,by simp,hgl⟩
   have:=h0.pushAll (args.zip vs) (fun p hp=>by
     obtain ⟨j,hj⟩:=Zak.1 hp
     rw [Zaq] at hj
     refine ⟨hvs j p.1 p.2 hj.1 hj.2, ?_⟩
     have hp1:p.1.view=p.1:=by
       have h1:(args.map Zcx)[j]? =some p.1.view:=by simp [hj.1]
       rw [hargs,hj.1] at h1;exact (Option.some.inj h1).symm
     obtain ⟨p1,p2⟩:=p
     simp only at hp1
     rw [←hp1];exact ownB_view _ _)
   simpa [cellPairs] using this
 refine calls_of_W (Ev:=Env.none P none) (V:=fun _ _=>False) (b:=(():Unit)) hf hb hl (hW (Env.none P _) (():Unit)) hrel (fun _ _ h=>h.elim) trivial (Nat.zero_le _) ?_
 intro y S' X' V' w' m' hv' hp' v b' hyz htr0 hxs hm hr _ hyv
 obtain ⟨z,hy,hz⟩:=hyz
 have htr:Tr (fun b i=>¬b<w.heap.size) (fun _=>False) S w S' w':=htr0.mono (fun b i h=>h.resolve_right id) (fun _ h=>h)
 refine ⟨v,withBlocks S' m',rfl,below_of_tr htr (fun b i hb hz=>hz hb) (fun _ h=>h),fun b i hs=> .inl (htr.up b i hs),fun b i hs=> ?_,(hz.rv (sealR_sound (B:= []) (T:=withBlocks S' m') (by simpa using hr) (fun _ _ h=> .inl h) hy (fun g _ p hp i hi=> .inr ⟨g,p,hp,rfl,hi⟩) hyv)).view⟩
 rcases hs with hs|⟨g,p,hg,rfl,hi⟩
 · rcases htr.new b i hs with h1|h1|h1
   · exact .inl h1
   · exact .inr ⟨Nat.le_of_not_lt h1,htr.lt b i hs⟩
   · exact .inr ⟨h1,htr.lt b i hs⟩
 · have hr':Rel S' X' none w' m' (([]:List (AV×Value))++cellPairs hp' hv') hp' hv':=hr
   obtain ⟨blk,us,cur,e,g1,g2,g3,g4,g5,g6,g7,g8,g9,g10,g11,g12⟩:=hr'.block hg
   have hlt':p.b<w'.heap.size:=(Zah.1 g8).1
   cases hfr:blk.fro with
   | true=>
     have hs:=g12 hfr i hi
     rcases htr.new _ _ hs with h1|h1|h1
     · exact .inl h1
     · exact .inr ⟨Nat.le_of_not_lt h1,hlt'⟩
     · exact .inr ⟨h1,hlt'⟩
   | false=>
     refine .inr ⟨Nat.le_of_not_lt fun hb=> ?_,hlt'⟩
     exact (g11 hfr i).2 (hxs _ _ hb)
theorem CX.Ok.ofWl {Ev:Env P} {T:List (Nat×(List AV→(AV→Prop)→Prop))} {U:List (Nat×(List AV→List Blk→(AV→List Blk→Prop)→Prop))} {u:Bool} {wl:WLT Ev.β} (hT:CallsOk P T) (hS:SCallsOk P U)
   (hwl:∀c tm hp b K,wl c tm hp b K→W Ev c ⟨tm,hp,b⟩ (fun e s=>K e s.tm s.hp s.b)):CX.Ok Ev ⟨T,U,wl,Ev.Y,u⟩:=⟨hT,hS,hwl,rfl⟩
theorem PCall.ofFnW {f n:Nat} {fn:Func} {args:List AV} {x:AV} {T:List (Nat×(List AV→(AV→Prop)→Prop))} {U:List (Nat×(List AV→List Blk→(AV→List Blk→Prop)→Prop))} {u:Bool} (wl:∀β:Type,WLT β) (hm:P.follows .mixedOrders=true)
   (hT:CallsOk P T) (hS:SCallsOk P U) (hwl:∀(Ev:Env P) c tm hp b K,wl Ev.β c tm hp b K→W Ev c ⟨tm,hp,b⟩ (fun e s=>K e s.tm s.hp s.b)) (hf:P.funcs[f]? =some fn) (hn:(fn.name== "runtime.NumGoroutine")=false) (hargs:args.map Zcx=args)
   (h:∀(Ev:Env P) (b:Ev.β),wpFn P ⟨T,U,wl Ev.β,Ev.Y,u⟩ n fn args b (fun y _=>y=x)):PCall P f args x:=by
 cases hb:fn.body with
 | some c=>
   refine PCall.ofWS hf hb hn hargs fun Ev b=> ?_
   have h1:=h Ev b
   unfold wpFn at h1
   rw [hb] at h1
   refine wpc_sound hm (CX.Ok.ofWl hT hS (hwl Ev)) h1 fun e tm hp b hK=> ?_
   obtain ⟨g1,ys,g2,z,g3,rfl⟩:=fnK_sound hK
   exact ⟨g1,ys,g2,g3⟩
 | none=>
   have:=h (Env.none P none) ()
   unfold wpFn at this
   rw [hb] at this
   exact this.elim
theorem PCall.ofFnL {f n:Nat} {fn:Func} {args:List AV} {x:AV} {T:List (Nat×(List AV→(AV→Prop)→Prop))} {U:List (Nat×(List AV→List Blk→(AV→List Blk→Prop)→Prop))} {u:Bool} (wl:∀β:Type,WLT β) (hm:P.follows .mixedOrders=true)
   (hT:CallsOk P T) (hS:SCallsOk P U) (hwl:∀(Ev:Env P) c tm hp b K,wl Ev.β c tm hp b K→W Ev c ⟨tm,hp,b⟩ (fun e s=>K e s.tm s.hp s.b)) (hf:P.funcs[f]? =some fn) (hn:(fn.name== "runtime.NumGoroutine")=false) (hargs:args.map Zcx=args)
   (h:∀(Ev:Env P) (b:Ev.β),wpFn P ⟨T,U,wl Ev.β,Ev.Y,u⟩ n fn args b (fun y _=>LeT y x)):PCall P f args x:=by
 cases hb:fn.body with
 | some c=>
   refine PCall.ofWL hf hb hn hargs fun Ev b=> ?_
   have h1:=h Ev b
   unfold wpFn at h1
   rw [hb] at h1
   refine wpc_sound hm (CX.Ok.ofWl hT hS (hwl Ev)) h1 fun e tm hp b hK=> ?_
   exact fnK_sound hK
 | none=>
   have:=h (Env.none P none) ()
   unfold wpFn at this
   rw [hb] at this
   exact this.elim
def fnKS {β:Type} (P:Program) (fn:Func) (R:AV→List Blk→β→Prop):Exit→List AV→List Blk→β→Prop:=fun e tm hp b=>
 BIf (match e with| .ret=>true| .normal=>true|_=>false) (match resAs P hp tm fn.results.toList with
   |some ys=>R (resV ys) hp b
   |none=>False) False
def wpFnS {β:Type} (P:Program) (X:CX β) (n:Nat) (fn:Func) (args:List AV) (b:β) (R:AV→List Blk→β→Prop):Prop:=
 match fn.body with
 |some c=>wpc P X n c (startTm fn args) [] b (fnKS P fn R)
 |none=>False
theorem fnKS_sound {fn:Func} {R:AV→List Blk→Ev.β→Prop} {e:Exit} {tm:List AV} {hp:List Blk} {b:Ev.β} (h:fnKS P fn R e tm hp b):FnPost P fn R e ⟨tm,hp,b⟩:=by
 unfold fnKS at h
 obtain ⟨he,h⟩:=h.elim'
 split at h
 · rename_i ys hys
   refine ⟨?_,ys,hys,h⟩
   cases e<;>simp at he ⊢
 · exact h.elim
theorem FCall.ofFnW {f n:Nat} {fn:Func} {args:List AV} {x:AV} {hp1:List Blk} {T:List (Nat×(List AV→(AV→Prop)→Prop))} {U:List (Nat×(List AV→List Blk→(AV→List Blk→Prop)→Prop))} {u:Bool} (wl:∀β:Type,WLT β) (hm:P.follows .mixedOrders=true)
   (hT:CallsOk P T) (hS:SCallsOk P U) (hwl:∀Ev:Env P,∀c tm hp b K,wl Ev.β c tm hp b K→W Ev c ⟨tm,hp,b⟩ (fun e s=>K e s.tm s.hp s.b)) (hf:P.funcs[f]? =some fn) (hn:(fn.name== "runtime.NumGoroutine")=false) (hargs:args.map Zcx=args) (hfro:hp1.all (fun b=> !b.fro)=true)
   (h:∀(Ev:Env P) (b:Ev.β),wpFnS P ⟨T,U,wl Ev.β,Ev.Y,u⟩ n fn args b fun y hp _=>y=x∧hp=hp1):FCall P f args x hp1:=by
 cases hb:fn.body with
 | none=>
   have:=h (Env.none P none) (():Unit)
   simp only [wpFnS,hb] at this
 | some c=>
   refine FCall.ofW hf hb hn hargs hfro fun Ev b=> ?_
   have h1:=h Ev b
   simp only [wpFnS,hb] at h1
   exact wpc_sound hm (CX.Ok.ofWl hT hS (hwl Ev)) h1 fun e tm hp b hK=>fnKS_sound hK
inductive LeX:AV→AV→Prop where
 |le {x y:AV} (h:LeT x y):LeX x y
 |full (k:Nat) (xs:List (List Dv)):LeX (.full k xs) (.d (.sl k xs))
theorem LeX.rv {S:Pr} {w:World} {m:List MB} {yv:Option Nat} {x y:AV} {v:Value} (h:LeX x y) (hr:RV S w m yv x v):RV S w m yv y v:=by
 cases h with
 |le h=>exact h.rv hr
 | full=>cases hr with
   |full h=>exact .d h
def wlNo (β:Type):WLT β:=fun _ _ _ _ _=>False
theorem wlNo_ok (Ev:Env P):∀c tm hp b K,wlNo Ev.β c tm hp b K→W Ev c ⟨tm,hp,b⟩ (fun e s=>K e s.tm s.hp s.b):=fun _ _ _ _ _ h=>h.elim
end
inductive Ty where
 |int (k:IntKind)
 |bool
 |str
 |sl (r:List Ty)
mutual
inductive HasTy:Ty→Dv→Prop
 |int (k:IntKind) (n:Int) (h:(Lit.int k n).wf=true):HasTy (.int k) (.s (.int k n))
 |bool (b:Bool):HasTy .bool (.s (.bool b))
 |str (s:ByteArray) (h:s.size≤maxLen):HasTy .str (.s (.string s))
 |sl (r:List Ty) (xs:List (List Dv)) (hl:xs.length≤maxLen) (h:∀row,row∈xs→HasTys r row):HasTy (.sl r) (.sl r.length xs)
inductive HasTys:List Ty→List Dv→Prop
 |nil:HasTys [] []
 |cons {t:Ty} {x:Dv} {ts:List Ty} {xs:List Dv} (h:HasTy t x) (hs:HasTys ts xs):HasTys (t::ts) (x::xs)
end
def flatFs (P:Program) (g:TypeId→Option (List Ty)):List Field→Nat→Option (List Ty)
 | [],_=>some []
 | f ::fs,off=>if f.offset=off then match g f.type with
     |some r=>if P.cellsOf f.type=r.length then (flatFs P g fs (off+r.length)).map (r++ ·) else none
     |none=>none
   else none
def flat (P:Program):Nat→TypeId→Option (List Ty)
 |0,_=>none
 | n+1,t=>match P.underlying t with
   |some .bool=>some [.bool]
   |some (.int k)=>some [.int k]
   |some .string=>some [.str]
   | some (.slice e)=>match flat P n e with
     |some r=>if P.cellsOf e=r.length then some [.sl r] else none
     |none=>none
   | some (.struct fs)=>match flatFs P (flat P n) fs.toList 0 with
     |some r=>if P.cellsOf t=r.length then some r else none
     |none=>none
   | some (.array k e)=>match flat P n e with
     |some r=>if P.cellsOf e=r.length∧P.cellsOf t=k*r.length then some (Zad k r).flatten else none
     |none=>none
   |_=>none
inductive Rw (S:Pr) (w:World):List Ty→List Dv→List Value→Prop
 |nil:Rw S w [] [] []
 |cons {t:Ty} {x:Dv} {v:Value} {ts:List Ty} {xs:List Dv} {vs:List Value} (h:HasTy t x) (hr:DR S w x v) (h1:v.oneCell'=true) (hs:Rw S w ts xs vs):Rw S w (t::ts) (x::xs) (v::vs)
section
variable {S:Pr} {w:World}
theorem Rw.tys {ts:List Ty} {xs:List Dv} {vs:List Value} (h:Rw S w ts xs vs):HasTys ts xs:=by
 induction h with
 |nil=>exact .nil
 |cons h _ _ _ ih=>exact .cons h ih
theorem Rw.len {ts:List Ty} {xs:List Dv} {vs:List Value} (h:Rw S w ts xs vs):xs.length=ts.length∧vs.length=ts.length:=by
 induction h with
 |nil=>exact ⟨rfl,rfl⟩
 |cons _ _ _ _ ih=>simp [ih.1,ih.2]
theorem Rw.append {ts ts':List Ty} {xs xs':List Dv} {vs vs':List Value} (h:Rw S w ts xs vs) (h':Rw S w ts' xs' vs'):Rw S w (ts++ts') (xs++xs') (vs++vs'):=by
 induction h with
 |nil=>exact h'
 |cons h hr h1 _ ih=>exact .cons h hr h1 ih
theorem Rw.at {ts:List Ty} {xs:List Dv} {vs:List Value} (h:Rw S w ts xs vs):∀(j:Nat) (c:Dv),xs[j]? =some c→∃v,vs[j]? =some v∧DR S w c v∧v.oneCell'=true:=by
 induction h with
 |nil=>intro j c h;simp at h
 | cons h hr h1 _ ih=>
   intro j c hc
   cases j with
   |zero=>simp at hc;subst hc;exact ⟨_,rfl,hr,h1⟩
   |succ j=>simpa using ih j c (by simpa using hc)
end
theorem pickRows {α:Type} {Q:Nat→α→Prop}:∀(n:Nat),(∀i,i<n→∃x,Q i x)→∃xs:List α,xs.length=n∧∀(i:Nat) (x:α),xs[i]? =some x→Q i x
 |0,_=>⟨[],rfl,fun i x h=>by simp at h⟩
 | n+1,h=>by
   obtain ⟨xs,h1,h2⟩:=pickRows n fun i hi=>h i (by omega)
   obtain ⟨x,hx⟩:=h n (by omega)
   refine ⟨xs++ [x],by simp [h1],fun i y hy=> ?_⟩
   rcases Nat.lt_or_ge i n with hi|hi
   · rw [List.getElem?_append_left (by omega)] at hy;exact h2 i y hy
   · rw [List.getElem?_append_right (by omega)] at hy
     cases hk:i - xs.length with
     | zero=>
       rw [hk] at hy;simp at hy;subst hy
       have:i=n:=by omega
       subst this;exact hx
     |succ k=>rw [hk] at hy;simp at hy
theorem cell_block {w:World} {a:Addr} {v:Value} (h:w.cell? a=some v):a.block<w.heap.size:=by
 unfold World.cell? at h
 cases hh:w.heap[a.block]? with
 |none=>rw [hh] at h;cases h
 |some o=>exact (Zah.1 hh).1
section
variable {H:Type} {enc:TypeId×Value→H} {P:Program} {w:World} {spare:Nat→Bool} {held:Bool}
theorem read_flatFs {g:TypeId→Option (List Ty)} {fuel:Nat} (ih:∀(t:TypeId) (cs:List Value) (x:DataW H×List MemPlace) (tys:List Ty),g t=some tys→DataW.trod enc P w 0 spare held fuel t cs=some x→∃row,Rw (fun b _=>b<w.heap.size) w tys row cs):
   ∀(fs:List Field) (off:Nat) (cs:List Value) (tys:List Ty),flatFs P g fs off=some tys→
   (∀f,f∈fs→∃x,DataW.trod enc P w 0 spare held fuel f.type ((cs.drop f.offset).take (P.cellsOf f.type))=some x)→cs.length=off+tys.length→
   ∃row,Rw (fun b _=>b<w.heap.size) w tys row (cs.drop off)
 | [],off,cs,tys,h,_,hl=>by
   rw [flatFs] at h;cases h
   rw [List.drop_eq_nil_of_le (by simp at hl;omega)]
   exact ⟨[], .nil⟩
 | f::fs,off,cs,tys,h,hf,hl=>by
   rw [flatFs] at h
   split at h<;>try (cases h;done)
   rename_i ho
   split at h<;>try (cases h;done)
   rename_i r hr
   split at h<;>try (cases h;done)
   rename_i hc
   simp only [Option.map_eq_some_iff] at h
   obtain ⟨tys',h1,rfl⟩:=h
   obtain ⟨x,hx⟩:=hf f (Zay ..)
   obtain ⟨row,h2⟩:=ih f.type _ _ r hr hx
   obtain ⟨row',h3⟩:=read_flatFs ih fs (off+r.length) cs tys' h1 (fun f hm=>hf f (Zaw _ hm)) (by simp at hl;omega)
   refine ⟨row++row', ?_⟩
   have e:cs.drop off=(cs.drop off).take r.length++cs.drop (off+r.length):=by
     rw [←List.drop_drop,List.take_append_drop]
   rw [e]
   rw [ho,hc] at h2
   exact h2.append h3
theorem read_flat:∀(n fuel:Nat) (t:TypeId) (cs:List Value) (x:DataW H×List MemPlace) (tys:List Ty),flat P n t=some tys→DataW.trod enc P w 0 spare held fuel t cs=some x→
   ∃row,Rw (fun b _=>b<w.heap.size) w tys row cs
 |0,_,_,_,_,_,h,_=>by simp [flat] at h
 | n+1,fuel,t,cs,x,tys,h,ht=>by
   rw [flat] at h
   split at h
   · rename_i hu
     cases h
     obtain ⟨b,rfl,rfl⟩:=DataW.trod_bool hu ht
     exact ⟨_, .cons (.bool b) (.s _) rfl .nil⟩
   · rename_i k hu
     cases h
     obtain ⟨m,rfl,rfl,hw⟩:=DataW.trod_int hu ht
     exact ⟨_, .cons (.int k m hw) (.s _) rfl .nil⟩
   · rename_i hu
     cases h
     obtain ⟨s,rfl,rfl,hw⟩:=DataW.trod_string hu ht
     exact ⟨_, .cons (.str s hw) (.s _) rfl .nil⟩
   · rename_i e hu
     split at h<;>try (cases h;done)
     rename_i r hr
     split at h<;>try (cases h;done)
     rename_i hc
     cases h
     rcases DataW.trod_slice hu ht with ⟨rfl,rfl⟩|⟨a,len,cap,elems,rest,m,rfl,rfl,rfl,_,hlc,hcm,hel,hes,_,_⟩
     · exact ⟨[.sl r.length []], .cons (.sl r [] (Nat.zero_le _) (fun row hr=>by cases hr)) (.nil _) rfl .nil⟩
     · have hrow:∀i,i<len→∃row,∃cs':List Value,(∀j,j<r.length→w.cell? ((a.add (i*r.length)).add j)=cs'[j]?)∧cs'.length=r.length∧Rw (fun b _=>b<w.heap.size) w r row cs':=by
         intro i hi
         have h1:=hes i hi
         have h2:∃y,elems[i]? =some y:=⟨elems[i]'(by omega),by simp⟩
         obtain ⟨y,hy⟩:=h2
         rw [hy,hc] at h1
         simp only [Option.bind_eq_some_iff] at h1
         obtain ⟨cs',h3,h4⟩:=h1
         obtain ⟨row,h5⟩:=read_flat n m e cs' y r hr h4
         have h6:=World.cells?_some h3
         exact ⟨row,cs',h6.2.2,h6.2.1,h5⟩
       obtain ⟨xs,hxl,hxs⟩:=pickRows len hrow
       refine ⟨[.sl r.length xs], .cons (.sl r xs (by omega) fun row hm=> ?_) ?_ rfl .nil⟩
       · obtain ⟨i,hi⟩:=Zak.1 hm
         obtain ⟨_,_,_,h⟩:=hxs i row hi
         exact h.tys
       · subst hxl
         have key:∀(i:Nat) (row:List Dv) (j:Nat) (c:Dv),xs[i]? =some row→row[j]? =some c→a.spot=none∧∃v,w.cell? ⟨a.block,a.off+(i*r.length+j),none⟩=some v∧DR (fun b _=>b<w.heap.size) w c v∧v.oneCell'=true:=by
           intro i row j c hi hj
           have hil:i<xs.length:=(Zab.1 hi).1
           obtain ⟨cs',g1,g2,g3⟩:=hxs i row hi
           obtain ⟨v,g4,g5,g6⟩:=g3.at j c hj
           have hjl:j<r.length:=by
             have:=(Zab.1 hj).1
             have:=g3.len.1;omega
           have g7:=g1 j hjl
           rw [g4] at g7
           have hsp:a.spot=none:=by
             cases hx0:xs[0]? with
             |none=>rw [List.getElem?_eq_none_iff] at hx0;omega
             | some row0=>
               obtain ⟨cs0,e1,e2,e3⟩:=hxs 0 row0 hx0
               have e4:=e1 0 (by omega)
               have e5:∃v0,cs0[0]? =some v0:=⟨cs0[0]'(by omega),by simp⟩
               obtain ⟨v0,e5⟩:=e5
               rw [e5] at e4
               have:=World.cell?_spot e4
               simpa [Addr.add] using this
           refine ⟨hsp,v, ?_,g5,g6⟩
           obtain ⟨ab,ao,ar⟩:=a
           simp only at hsp
           subst hsp
           rw [WideShapes.add_plain,WideShapes.add_plain] at g7
           rw [←g7,Nat.add_assoc]
         refine .sl r.length xs a cap (fun i j=>(w.cell? ⟨a.block,a.off+(i*r.length+j),none⟩).getD default) ?_ ?_ ?_ ?_ ?_ hlc ?_
         · intro i row hi
           obtain ⟨_,_,_,h⟩:=hxs i row hi
           exact h.len.1
         · intro i row j c hi hj
           obtain ⟨_,v,hv,_⟩:=key i row j c hi hj
           exact cell_block (a:=⟨a.block,a.off+(i*r.length+j),none⟩) hv
         · intro i row j c hi hj
           obtain ⟨_,v,hv,_⟩:=key i row j c hi hj
           rw [hv];rfl
         · intro i row j c hi hj
           obtain ⟨_,v,hv,h,_⟩:=key i row j c hi hj
           rw [hv];exact h
         · intro i row j c hi hj
           obtain ⟨_,v,hv,_,h⟩:=key i row j c hi hj
           rw [hv];exact h
         · cases hx:xs with
           |nil=>exact .inr (.inr rfl)
           | cons row0 xs0=>
             cases hrl:r with
             |nil=>exact .inr (.inl rfl)
             | cons r0 rs=>
               left
               have h0:xs[0]? =some row0:=by rw [hx];rfl
               obtain ⟨_,_,_,h⟩:=hxs 0 row0 h0
               have hl:=h.len.1
               have:∃c,row0[0]? =some c:=⟨row0[0]'(by rw [hl,hrl];simp),by simp⟩
               obtain ⟨c,hc'⟩:=this
               exact (key 0 row0 0 c h0 hc').1
   · rename_i fs hu
     split at h<;>try (cases h;done)
     rename_i r hr
     split at h<;>try (cases h;done)
     rename_i hc
     cases h
     obtain ⟨xs,m,rfl,rfl,hl,hxl,hf⟩:=DataW.trod_struct hu ht
     have:=read_flatFs (fun t cs x tys h1 h2=>read_flat n m t cs x tys h1 h2) fs.toList 0 cs tys hr (fun f hm=>by
       obtain ⟨i,hi⟩:=Zak.1 hm
       have h1:=hf i f (by simpa using hi)
       have hil:i<fs.size:=by
         have:=(Zab.1 hi).1
         simpa using this
       exact ⟨xs[i]'(by omega),by rw [h1];simp⟩) (by omega)
     simpa using this
   · rename_i k e hu
     split at h<;>try (cases h;done)
     rename_i r hr
     split at h<;>try (cases h;done)
     rename_i hc
     cases h
     obtain ⟨xs,m,rfl,rfl,hl,hxl,hf⟩:=DataW.trod_array hu ht
     have key:∀k',k'≤k→∃row,Rw (fun b _=>b<w.heap.size) w (Zad k' r).flatten row (cs.take (k'*r.length)):=by
       intro k'
       induction k' with
       |zero=>intro _;exact ⟨[],by simpa using Rw.nil⟩
       | succ k' ih=>
         intro hk
         obtain ⟨row,h1⟩:=ih (by omega)
         have h2:=hf k' (by omega)
         rw [hc.1] at h2
         have h3:xs[k']? =some (xs[k']'(by omega)):=by simp
         rw [h3] at h2
         obtain ⟨row2,h4⟩:=read_flat n m e _ _ r hr h2
         refine ⟨row++row2, ?_⟩
         have e1:(Zad (k'+1) r).flatten=(Zad k' r).flatten++r:=by
           rw [List.replicate_succ'];simp
         have e2:cs.take ((k'+1)*r.length)=cs.take (k'*r.length)++(cs.drop (k'*r.length)).take r.length:=by
           rw [Nat.succ_mul,List.take_add]
         rw [e1,e2]
         exact h1.append h4
     obtain ⟨row,h1⟩:=key k (Nat.le_refl _)
     refine ⟨row, ?_⟩
     rwa [List.take_of_length_le (by omega)] at h1
   · cases h
end
end Go.Proofs.YtibhflogmbfpcaaGreatDoor.Am
namespace Go.Proofs.YtibhflogmbfpcaaGreatDoor.Am
open Go Go.RowKit Go.WideShapes Go.ChangeShapes Tryz
open AV renaming bad → Zaz, d → Zae, ptr → Zbf, view → Zcx
open _root_.Array renaming getElem?_eq_some_iff → Zah
open BIf renaming of → Zar
open BitVec renaming ofInt → Zao
open Bool renaming and_eq_true → Zam, false_eq_true → Zcg
open Dv renaming sl → Zal
open Int renaming fdiv → Zcy, toNat → Zat
open Go.IntKind renaming i64 → Zax, u8 → Zcw, wrap → Zaa
open List renaming getElem?_eq_getElem → Zbk, getElem?_eq_some_iff → Zab, getElem?_take → Zas, getElem?_zip_eq_some → Zaq, length → Zac, mem_cons_of_mem → Zaw, mem_cons_self → Zay, mem_iff_getElem? → Zak, mem_of_getElem? → Zbb, replicate → Zad
open Nat renaming le_trans → Zbx
open Prod renaming fst → Zdq
open Go.Value renaming func → Zcj, slice → Zbn
open AV (bad)
set_option linter.unusedVariables false
section
variable {H:Type} {enc:TypeId×Value→H} {P:Program}
theorem trodAll_stays (hl:laidOutB P=true) {W W':World} {sp:Nat→Bool} (hb:Below W.heap.size W W'):∀ {ts:List TypeId} {vs:List Value} {ds:List (DataW H)} {ps:List MemPlace},
   (ts.all fun t=>P.readableRec t&&decide (t<P.types.size))=true→DataW.TrodAll enc P W 0 (fun _=>true) true ts vs ds ps→(∀x∈ps,x.block<W.heap.size)→(∀x∈ps,sp x.block=true)→
   DataW.TrodAll enc P W' 0 sp true ts vs ds ps
 | [], [], [],ps,_,h,_,_=>h
 | t::ts,v::vs,d::ds,ps,hr,h,hlt,hsp=>by
   obtain ⟨p,q,h1,h2,rfl⟩:=h
   simp only [List.all_cons,Zam,decide_eq_true_eq] at hr
   exact ⟨p,q,WideElems.Trod_stays hl hr.1.1 hr.1.2 h1 (fun x hx=>hb.same (hlt x (by simp [hx]))) (fun x hx=>hsp x (by simp [hx])),
     trodAll_stays hl hb hr.2 h2 (fun x hx=>hlt x (by simp [hx])) (fun x hx=>hsp x (by simp [hx])),rfl⟩
theorem trodAll_len {W:World} {b:Nat} {sp:Nat→Bool} {hd:Bool}:∀ {ts:List TypeId} {vs:List Value} {ds:List (DataW H)} {ps:List MemPlace},DataW.TrodAll enc P W b sp hd ts vs ds ps→ds.length=ts.length
 | [], [], [],_,_=>rfl
 | t::ts,v::vs,d::ds,_,h=>by
   obtain ⟨p,q,_,h2,_⟩:=h
   simp [trodAll_len h2]
theorem law_post {f:Func} {s:ChangeSpec} {apart fresh handsOn again:Bool} {W W':World} {args:Array Value} {ds gs:List (DataW H)} {before:List MemPlace} {tb:TypeId}
   (hl:laidOutB P=true) (hvars:s.vars= []) (hres:f.resultTypes=#[tb]) (htb:P.underlying tb=some .bool)
   (hread:(f.params.toList.all fun t=>P.readableRec t&&decide (t<P.types.size))=true)
   (hfn:∀ds:List (DataW H),ds.length=f.params.size→s.fn H ds= {results:= [.lit (.bool true)],args:=ds})
   (hW:DataW.Whole enc P f.params.toList s.vars apart W args.toList ds gs before) (hb:Below W.heap.size W W'):
   s.post enc P f apart fresh handsOn again W args (.bool true) W':=by
 have hlt:∀p∈before,p.block<W.heap.size:=fun p hp=>hW.lt p hp
 have hold:∀p∈before,(fun b=>decide (b<W.heap.size)) p.block=true:=fun p hp=>by simpa using hlt p hp
 have hW0:=hW
 obtain ⟨p,q,hA,hV,rfl,hz,hn⟩:=hW0
 rw [hvars] at hV
 obtain ⟨rfl,rfl⟩:=trodVars_none hV
 have hlen:ds.length=f.params.size:=by
   have:=trodAll_len hA
   simpa using this
 have hspec:=hfn ds hlen
 simp only [List.append_nil] at*
 have hargs:∀sp:Nat→Bool,(∀x∈p,sp x.block=true)→DataW.TrodAll enc P W' 0 sp true f.params.toList args.toList ds p:=
   fun sp hsp=>trodAll_stays hl hb hread hA hlt hsp
 have hr:∀(b:Nat) (sp:Nat→Bool) (hd:Bool),DataW.TrodAll enc P W' b sp hd f.resultTypes.toList ((Value.bool true).resultList f.resultTypes.size) [DataW.lit (.bool true)] []:=by
   intro b sp hd
   rw [hres]
   exact trodAll_cons_mk (shut_bool htb _) trodAll_mk0
 refine ⟨ds, [],p, [],p, [],by simpa using hW, ?_, ?_, ?_, ?_,fun _=> ?_⟩
 · simp only [List.append_nil,hspec];exact hr _ _ _
 · simp only [List.append_nil,hspec];exact hargs _ hold
 · simp only [List.append_nil,hspec,hvars];exact rfl
 · exact World.keptBut_mono (fun x hx=>⟨hx, .inr (.inl hx)⟩) (hb.frame (· ∈p))
 · refine ⟨ok_one hres rfl (okWide_bool_mk htb _), [DataW.lit (.bool true)]++ds, [],p,⟨p, [], ?_, ?_,by simp, ?_, ?_⟩,fun x hx _=>hx⟩
   · have:=trodAll_append (hargs (fun _=>true) (fun _ _=>rfl)) (hr 0 (fun _=>true) true)
     simpa using this
   · rw [hvars];rfl
   · intro b off hp
     rw [hb.frozen (hlt _ hp)]
     exact hz b off hp
   · intro ha;exact hn ha
inductive ArgsR (S:Pr) (w:World):List AV→List Value→Prop
 |nil:ArgsR S w [] []
 |cons {x:AV} {v:Value} {xs:List AV} {vs:List Value} (h:RV S w [] none x v) (hs:ArgsR S w xs vs):ArgsR S w (x::xs) (v::vs)
theorem ArgsR.at {S:Pr} {w:World} {xs:List AV} {vs:List Value} (h:ArgsR S w xs vs):xs.length=vs.length∧∀(i:Nat) (x:AV) (v:Value),xs[i]? =some x→vs[i]? =some v→RV S w [] none x v:=by
 induction h with
 |nil=>exact ⟨rfl,fun i x v h=>by simp at h⟩
 | cons h _ ih=>
   refine ⟨by simp [ih.1],fun i x v h1 h2=> ?_⟩
   cases i with
   |zero=>simp at h1 h2;subst h1;subst h2;exact h
   |succ i=>exact ih.2 i x v (by simpa using h1) (by simpa using h2)
abbrev AllOf (w:World):Pr:=fun b _=>b<w.heap.size
theorem law_calls {fid:Nat} {f:Func} {s:ChangeSpec} {apart fresh handsOn again:Bool} {W:World} {args:Array Value} {ds gs:List (DataW H)} {before:List MemPlace} {tb:TypeId}
   (hl:laidOutB P=true) (hvars:s.vars= []) (hres:f.resultTypes=#[tb]) (htb:P.underlying tb=some .bool)
   (hread:(f.params.toList.all fun t=>P.readableRec t&&decide (t<P.types.size))=true)
   (hfn:∀ds:List (DataW H),ds.length=f.params.size→s.fn H ds= {results:= [.lit (.bool true)],args:=ds})
   (hW:DataW.Whole enc P f.params.toList s.vars apart W args.toList ds gs before)
   (avs:List AV) (ha:ArgsR (AllOf W) W avs args.toList) (hp:PCall P fid avs (.d (.s (.bool true)))) (hgl:Glob (AllOf W) W):
   Calls P fid args W fun e W'=>∃v,e= .returned v∧s.post enc P f apart fresh handsOn again W args v W':=by
 obtain ⟨h1,h2⟩:=ha.at
 have:=callsIn_wide.1 (hp.2 (AllOf W) W args.toList h1 h2 (fun b i h=>h) hgl)
 refine Calls.mono this ?_
 rintro e W' ⟨v,S',rfl,hb,_,_,hr⟩
 refine ⟨v,rfl, ?_⟩
 have hv:v= .bool true:=by
   have:Zcx (.d (.s (.bool true)))= .d (.s (.bool true)):=rfl
   rw [this] at hr
   cases hr with
   |d h=>cases h;rfl
 subst hv
 exact law_post hl hvars hres htb hread hfn hW hb
theorem arg_slice {W:World} {b0 n:Nat} {r:Reach} {sp:Nat→Bool} {hd:Bool} {t e:TypeId} {v:Value} {d:DataW H} {ps:List MemPlace} {ty:Ty} (hu:P.underlying t=some (.slice e)) (hf:flat P n t=some [ty])
   (hval:Value.okWide P W r b0 t v) (h:DataW.Trod enc P W 0 sp hd t v d ps):∃x,HasTy ty x∧RV (AllOf W) W [] none (.d x) v:=by
 obtain ⟨fuel,h⟩:=h
 obtain ⟨a,len,cap,rfl⟩:=okWide_slice hu hval
 obtain ⟨row,hr⟩:=read_flat n fuel t _ _ _ hf h
 cases hr with
 |cons h hr h1 hs=>exact ⟨_,h, .d hr⟩
end
end Go.Proofs.YtibhflogmbfpcaaGreatDoor.Am
namespace Go.Proofs.YtibhflogmbfpcaaGreatDoor.Am
open Go Go.RowKit Go.Proofs Go.ChangeShapes Go.WideShapes Go.ChangeAt Tryz
open AV renaming bad → Zaz, d → Zae, ptr → Zbf, view → Zcx
open _root_.Array renaming getElem?_eq_some_iff → Zah
open BIf renaming of → Zar
open BitVec renaming ofInt → Zao
open Bool renaming and_eq_true → Zam, false_eq_true → Zcg
open Dv renaming sl → Zal
open Int renaming fdiv → Zcy, toNat → Zat
open Go.IntKind renaming i64 → Zax, u8 → Zcw, wrap → Zaa
open List renaming getElem?_eq_getElem → Zbk, getElem?_eq_some_iff → Zab, getElem?_take → Zas, getElem?_zip_eq_some → Zaq, length → Zac, mem_cons_of_mem → Zaw, mem_cons_self → Zay, mem_iff_getElem? → Zak, mem_of_getElem? → Zbb, replicate → Zad
open Nat renaming le_trans → Zbx
open Prod renaming fst → Zdq
open Go.Value renaming func → Zcj, slice → Zbn
open AV (bad)
set_option linter.unusedVariables false
def litsF {H:Type}:Nat→DataW H→Option (List Value)
 |0,_=>none
 |_+1, .lit (.int k m)=>some [.int k m]
 |_+1, .lit (.bool b)=>some [.bool b]
 |n+1, .agg ds=>ds.foldr (fun d acc=>match litsF n d,acc with|some a,some b=>some (a++b)|_,_=>none) (some [])
 |_,_=>none
def litsL {H:Type} (n:Nat) (ds:List (DataW H)):Option (List Value):=ds.foldr (fun d acc=>match litsF n d,acc with|some a,some b=>some (a++b)|_,_=>none) (some [])
theorem litsL_cons {H:Type} {n:Nat} {d:DataW H} {ds:List (DataW H)} {vs:List Value} (h:litsL n (d::ds)=some vs):∃a b,litsF n d=some a∧litsL n ds=some b∧vs=a++b:=by
 unfold litsL at h
 rw [List.foldr_cons] at h
 split at h
 · rename_i a b h1 h2;cases h;exact ⟨a,b,h1,h2,rfl⟩
 · cases h
section
variable {H:Type} {enc:TypeId×Value→H} {P:Program} {w:World} {spare:Nat→Bool} {held:Bool}
theorem lits_segs {k c:Nat}:∀(xs:List (DataW H×List MemPlace)) (cs:List Value) (vs:List Value),cs.length=xs.length*c→
   (∀(i:Nat) (y:DataW H×List MemPlace),xs[i]? =some y→∀ws,litsF k y.1=some ws→(cs.drop (i*c)).take c=ws)→litsL k (xs.map (·.1))=some vs→cs=vs
 | [],cs,vs,hl,_,h=>by
   have:cs= []:=List.length_eq_zero_iff.1 (by simpa using hl)
   subst this
   simp [litsL] at h;exact h.symm
 | y::ys,cs,vs,hl,hx,h=>by
   rw [List.map_cons] at h
   obtain ⟨a,b,h1,h2,rfl⟩:=litsL_cons h
   have h3:=hx 0 y rfl a h1
   rw [List.length_cons,Nat.add_mul,Nat.one_mul] at hl
   have h4:=lits_segs (c:=c) ys (cs.drop c) b (by simp;omega) (fun i y hy ws hw=>by
     have:=hx (i+1) y (by simpa using hy) ws hw
     rw [List.drop_drop]
     rw [←this];congr 2;rw [Nat.add_mul,Nat.one_mul];omega) h2
   rw [←List.take_append_drop c cs,←h4,←h3];simp
theorem lits_fields {k:Nat} {g:TypeId→Option (List Ty)} {fuel:Nat} (ih:∀(t:TypeId) (cs:List Value) (x:DataW H×List MemPlace) (tys:List Ty) (vs:List Value),g t=some tys→DataW.trod enc P w 0 spare held fuel t cs=some x→litsF k x.1=some vs→cs=vs):
   ∀(fs:List Field) (xs:List (DataW H×List MemPlace)) (off:Nat) (cs:List Value) (tys:List Ty) (vs:List Value),flatFs P g fs off=some tys→fs.length=xs.length→
   (∀(i:Nat) (f:Field),fs[i]? =some f→DataW.trod enc P w 0 spare held fuel f.type ((cs.drop f.offset).take (P.cellsOf f.type))=xs[i]?)→cs.length=off+tys.length→litsL k (xs.map (·.1))=some vs→cs.drop off=vs
 | [], [],off,cs,tys,vs,h,_,_,hl,hv=>by
   rw [flatFs] at h;cases h
   simp [litsL] at hv
   rw [hv,List.drop_eq_nil_of_le (by simp at hl;omega)]
 | [],_::_,_,_,_,_,_,hn,_,_,_=>by simp at hn
 |_::_, [],_,_,_,_,_,hn,_,_,_=>by simp at hn
 | f::fs,y::xs,off,cs,tys,vs,h,hn,hf,hl,hv=>by
   rw [flatFs] at h
   split at h<;>try (cases h;done)
   rename_i ho
   split at h<;>try (cases h;done)
   rename_i r hr
   split at h<;>try (cases h;done)
   rename_i hc
   simp only [Option.map_eq_some_iff] at h
   obtain ⟨tys',h1,rfl⟩:=h
   rw [List.map_cons] at hv
   obtain ⟨a,b,h2,h3,rfl⟩:=litsL_cons hv
   have h4:=hf 0 f rfl
   have h5:=ih f.type _ y r a hr (by simpa using h4) h2
   have h6:=lits_fields ih fs xs (off+r.length) cs tys' b h1 (by simpa using hn) (fun i f hi=>by simpa using hf (i+1) f (by simpa using hi)) (by simp at hl;omega) h3
   rw [ho,hc] at h5
   rw [←h5,←h6,←List.drop_drop,List.take_append_drop]
theorem lits_flat:∀(n fuel k:Nat) (t:TypeId) (cs:List Value) (x:DataW H×List MemPlace) (tys:List Ty) (vs:List Value),flat P n t=some tys→DataW.trod enc P w 0 spare held fuel t cs=some x→litsF k x.1=some vs→cs=vs
 |0,_,_,_,_,_,_,_,h,_,_=>by simp [flat] at h
 |n+1,fuel,0,t,cs,x,tys,vs,h,ht,hv=>by simp [litsF] at hv
 | n+1,fuel,k+1,t,cs,x,tys,vs,h,ht,hv=>by
   rw [flat] at h
   split at h
   · rename_i hu
     obtain ⟨b,rfl,rfl⟩:=DataW.trod_bool hu ht
     simp [litsF] at hv;exact hv
   · rename_i kk hu
     obtain ⟨m,rfl,rfl,hw⟩:=DataW.trod_int hu ht
     simp [litsF] at hv;exact hv
   · rename_i hu
     obtain ⟨s,rfl,rfl,hw⟩:=DataW.trod_string hu ht
     simp [litsF] at hv
   · rename_i e hu
     rcases DataW.trod_slice hu ht with ⟨rfl,rfl⟩|⟨a,len,cap,elems,rest,m,rfl,rfl,rfl,_⟩
     · simp [litsF] at hv
     · simp [litsF] at hv
   · rename_i fs hu
     split at h<;>try (cases h;done)
     rename_i r hr
     split at h<;>try (cases h;done)
     rename_i hc
     cases h
     obtain ⟨xs,m,rfl,rfl,hl,hxl,hf⟩:=DataW.trod_struct hu ht
     have hv:litsL k (xs.map (·.1))=some vs:=hv
     have:=lits_fields (k:=k) (fun t cs x tys vs h1 h2 h3=>lits_flat n m k t cs x tys vs h1 h2 h3) fs.toList xs 0 cs tys vs hr (by simp [hxl]) (fun i f hi=>hf i f (by simpa using hi)) (by rw [hl,hc];omega) hv
     simpa using this
   · rename_i kk e hu
     split at h<;>try (cases h;done)
     rename_i r hr
     split at h<;>try (cases h;done)
     rename_i hc
     cases h
     obtain ⟨xs,m,rfl,rfl,hl,hxl,hf⟩:=DataW.trod_array hu ht
     have hv:litsL k (xs.map (·.1))=some vs:=hv
     refine lits_segs (k:=k) (c:=P.cellsOf e) xs cs vs (by rw [hl,hc.2,hxl,hc.1]) (fun i y hy ws hw=> ?_) hv
     have hi:i<kk:=by rw [←hxl];exact (Zab.1 hy).1
     have h1:=hf i hi
     rw [hy] at h1
     exact lits_flat n m k e _ y r ws hr h1 hw
   · cases h
end
def VarAt (P:Program) (W:World) (g:Nat) (vs:List Value):Prop:=∀(j:Nat) (v:Value),vs[j]? =some v→W.cell? ⟨g,j,none⟩=some v
theorem var_at {P:Program} {W:World} {n:String} {g t:Nat} {cs:Array Value} {d:DataW Unit} {p:List MemPlace} {fuel nn k:Nat} {tys:List Ty} {vs:List Value} (hg:P.globalNamed n=some g) (hv:W.var? P n=some cs)
   (ht:DataW.trod (fun _=>()) P W 0 (fun _=>true) false fuel t cs.toList=some (d,p)) (hf:flat P nn t=some tys) (hl:litsF k d=some vs):VarAt P W g vs:=by
 have:=lits_flat nn fuel k t cs.toList (d,p) tys vs hf ht hl
 intro j v hj
 rw [World.var?_cell hg hv j,←hj,←this];simp
theorem glob_of {W:World} (h:∀g,laidTable g≠ []→∀(j:Nat) (v:Value),(laidTable g)[j]? =some v→W.cell? ⟨g,j,none⟩=some v∧v.oneCell'=true):Glob (AllOf W) W:=by
 intro g j v hv
 have h1:laidTable g≠ []:=fun he=>by rw [he] at hv;simp at hv
 obtain ⟨h2,h3⟩:=h g h1 j v hv
 exact ⟨cell_block (a:=⟨g,j,none⟩) h2,h2,h3⟩
end Go.Proofs.YtibhflogmbfpcaaGreatDoor.Am
namespace Go.Proofs.YtibhflogmbfpcaaGreatDoor.Am
open Go Go.RowKit Tryz
open AV renaming bad → Zaz, d → Zae, ptr → Zbf, view → Zcx
open _root_.Array renaming getElem?_eq_some_iff → Zah
open BIf renaming of → Zar
open BitVec renaming ofInt → Zao
open Bool renaming and_eq_true → Zam, false_eq_true → Zcg
open Dv renaming sl → Zal
open Int renaming fdiv → Zcy, toNat → Zat
open Go.IntKind renaming i64 → Zax, u8 → Zcw, wrap → Zaa
open List renaming getElem?_eq_getElem → Zbk, getElem?_eq_some_iff → Zab, getElem?_take → Zas, getElem?_zip_eq_some → Zaq, length → Zac, mem_cons_of_mem → Zaw, mem_cons_self → Zay, mem_iff_getElem? → Zak, mem_of_getElem? → Zbb, replicate → Zad
open Nat renaming le_trans → Zbx
open Prod renaming fst → Zdq
open Go.Value renaming func → Zcj, slice → Zbn
open AV (bad)
set_option linter.unusedVariables false
set_option linter.unusedSimpArgs false
def ICallB (P:Program) (f:Nat) (args:List AV) (blk:Blk) (Sp:SpT):Prop:=
 (∀(ar:Array Value) (w:World),(callFunc f ar).run P w= .ok (.enter f ar) w)∧
 ∀ (Ev:Env P) (b:Ev.β) (Q:Ev.β→Prop),Sp Ev.Y b Q→∀(S X V:Pr) (w:World) (m:List MB) (hv:List (List Value)) (vs:List Value),args.length=vs.length→
   Rel S X Ev.yl w m (args.zip vs++([]++cellPairs [blk] hv)) [blk] hv→(∀b i,V b i→X b i)→Ev.E b S V w→Ev.N≤w.heap.size→
   CallsIn Fence.wide 0 P f vs.toArray w fun e w'=>∃v b' S' V',e= .returned v∧Q b'∧Ev.E b' S' V' w'
def Beh0 {P:Program} (Ev:Env P) (lo:Nat) (r:Option Nat) (S X V:Pr) (w:World) (Q:Exit→St Ev.β→Prop) (e:Exit) (a':Act) (w':World):Prop:=
 ∃s' S' X' V' m' hv',Q e s'∧Went Ev.L S X V w S' X' V' w'∧Tie Ev lo r S' X' V' w' m' [] hv' s'.rs s'.b a'
def W0 {P:Program} (Ev:Env P) (c:Code) (s:St Ev.β) (Q:Exit→St Ev.β→Prop):Prop:=
 ∀ (lo:Nat) (r:Option Nat) (S X V:Pr) (w:World) (m:List MB) (hv:List (List Value)) (a:Act),Tie Ev lo r S X V w m [] hv s.rs s.b a→
   c.wpIn (Fn r) 0 P (Beh0 Ev lo r S X V w Q) a w
section
variable {P:Program} {S S' X X' V V':Pr} {L:Nat→Prop} {r:Option Nat} {lo:Nat} {w w' w'':World} {m m' m'':List MB} {B:List (AV×Value)} {hp hp':List Blk} {hv hv':List (List Value)} {a a':Act} {Ev:Env P} {s:St Ev.β} {Q:Exit→St Ev.β→Prop} {c c':Code}
theorem Beh0.from {e:Exit} (hm:Went Ev.L S X V w S' X' V' w') (h:Beh0 Ev lo r S' X' V' w' Q e a w''):Beh0 Ev lo r S X V w Q e a w'':=by
 obtain ⟨s',S',X',V',m'',hv',h1,h2,h3⟩:=h
 exact ⟨s',S',X',V',m'',hv',h1,hm.trans h2,h3⟩
theorem W0.of (h:W Ev c s Q):W0 Ev c s Q:=fun lo r S X V w m hv a ht=>
 wpIn_mono (h lo r S X V w m [] hv a ht) fun e a' w' ⟨s',S',X',V',m',hv',h1,h2,h3⟩=>⟨s',S',X',V',m',hv',h1,h2.1,h3⟩
theorem W0.seq (h:W0 Ev c s (thenW (fun s'=>W0 Ev c' s' Q) Q)):W0 Ev (.seq c c') s Q:=by
 intro lo r S X V w m hv a ht
 refine wpIn_seq (wpIn_mono (h lo r S X V w m hv a ht) fun e a' w' ⟨s',S',X',V',m',hv',h1,h2,h3⟩=> ?_)
 cases e with
 |normal=>exact wpIn_mono (h1 lo r S' X' V' w' m' hv' a' h3) fun e a'' w'' hb=>hb.from h2
 |exit id=>exact ⟨s',S',X',V',m',hv',h1,h2,h3⟩
 |goto l=>exact ⟨s',S',X',V',m',hv',h1,h2,h3⟩
 |ret=>exact ⟨s',S',X',V',m',hv',h1,h2,h3⟩
 |panic ch=>exact ⟨s',S',X',V',m',hv',h1,h2,h3⟩
 |outgrown=>exact ⟨s',S',X',V',m',hv',h1,h2,h3⟩
theorem W0.block {id:Nat} (h:W0 Ev c s (catchExit id Q)):W0 Ev (.block id c) s Q:=by
 intro lo r S X V w m hv a ht
 refine wpIn_block (wpIn_mono (h lo r S X V w m hv a ht) fun e a' w' ⟨s',S',X',V',m',hv',h1,h2,h3⟩=> ?_)
 cases e with
 | exit id'=>
   simp only [Exit.inBlock,catchExit] at h1 ⊢
   split at h1
   · rename_i hid;rw [if_pos hid];exact ⟨s',S',X',V',m',hv',h1,h2,h3⟩
   · rename_i hid;rw [if_neg hid];exact ⟨s',S',X',V',m',hv',h1,h2,h3⟩
 |normal=>exact ⟨s',S',X',V',m',hv',h1,h2,h3⟩
 |goto l=>exact ⟨s',S',X',V',m',hv',h1,h2,h3⟩
 |ret=>exact ⟨s',S',X',V',m',hv',h1,h2,h3⟩
 |panic ch=>exact ⟨s',S',X',V',m',hv',h1,h2,h3⟩
 |outgrown=>exact ⟨s',S',X',V',m',hv',h1,h2,h3⟩
theorem W0.range {g:Operand} {ps:Array Tmp} {assign body:Code} {k:Nat} {hp0:List Blk} {blk:Blk} {Sp:SpT} (hs:s.hp=hp0++ [blk]) (hfro:blk.fro=false) (hgrow:blk.grow=false) (hlow:lowHp hp0.length s.hp=true)
   (hcl:closeds blk.cells=true) (hvw:blk.cells.map Zcx=blk.cells) (hg:evalA s.tm g= .fn (.func k) [] [.ptr hp0.length 0])
   (hI:ICallB P k [.yl, .ptr 0 0] blk Sp) (h:Sp (YBody Ev (lowTm hp0.length s.tm) ps assign body hp0.length) (hp0,s.b,none) (rangeQ (lowTm hp0.length s.tm) Q)):W0 Ev (.rangeFunc g ps assign body) s Q:=by
 intro lo r S X V w m hv a ht
 refine wpIn_rangeFunc fun fn _=> ?_
 obtain ⟨l,bs,w1,D,e1,e2,e3,e4,e5,e6⟩:=enter_loop (P:=P) fn a.tmps ps assign body ht.round
 
 have hfv:=evalA_sound ht.rel g
 rw [hg] at hfv
 generalize hfe:a.eval g=fv at hfv
 cases hfv with
 | fn hne hl1 hl2 h1 h2=>
   rename_i fs cs
   have hfs:fs=#[]:=by simpa using hl1.symm
   subst hfs
   obtain ⟨cv,rfl⟩:∃cv,cs=#[cv]:=by
     have:cs.size=1:=by simpa using hl2.symm
     refine ⟨cs[0],Array.ext (by simp [this]) fun i hi hi'=> ?_⟩
     have:i=0:=by omega
     subst this;rfl
   have hcv:=h2 0 _ cv rfl rfl
   generalize hcve:cv=cv0 at hcv
   cases hcv with
   |ptr hm=>
   rename_i pb plen pver
   subst hcve
   have hgs:=Gs.below ht.rel.2.1 e3 (S':=S) ⟨fun _ _ h=>h,fun _ _ h=> .inl h⟩
   have hlt1:∀b i,S b i→b<w1.heap.size:=fun b i hs=>Nat.lt_of_lt_of_le (ht.rel.slt b i hs) e3.size
   have htr:=hgs.tr hlt1
   have hrel1:Rel S X Ev.yl w1 m (s.tm.zip a.tmps.toList++cellPairs s.hp hv) s.hp hv:=by
     simpa using ht.rel.2.1.below e3 (fun _ _ h=>h) (fun _ _ h=> .inl h)
   have hrelL:Rel S X Ev.yl w1 m ((lowTm hp0.length s.tm).zip a.tmps.toList++cellPairs s.hp hv) s.hp hv:=Rel.lowered hp0.length hrel1
   have hnT:∀p∈(lowTm hp0.length s.tm).zip a.tmps.toList,RV S w1 (m.take hp0.length) Ev.yl p.1 p.2:=by
     intro p hp
     refine (hrelL.rv p (List.mem_append_left _ hp)).low ?_
     have:=(List.of_mem_zip hp).1
     simp only [lowTm,List.mem_map] at this
     obtain ⟨x,_,h3⟩:=this
     rw [←h3]
     split
     · assumption
     · rfl
   have hrelT:=hrelL.trunc hnT hlow
   have hp0t:s.hp.take hp0.length=hp0:=by rw [hs];simp
   rw [hp0t] at hrelT
   have hsl:s.hp.length=hp0.length+1:=by rw [hs];simp
   have hgb:s.hp[hp0.length]? =some blk:=by rw [hs];simp
   have hvn:hp0.length<hv.length:=by rw [hrel1.hl,hsl];omega
   obtain ⟨a1,a2,a3,a4,a5,a6,a9,a10⟩:=hrel1.bl hp0.length blk ⟨pb,plen,false,pver⟩ hv[hp0.length] hgb hm (by simp [hvn])
   have hpbl:pb<w1.heap.size:=by
     obtain ⟨cur,e,h3,_⟩:=a6
     exact (Zah.1 h3).1
   have hSn:∀i,¬S pb i∧¬X pb i:=a9 hfro
   have hl1w:l<w1.heap.size:=(Zah.1 e2).1
   obtain ⟨bs0,m1,m2,m3⟩:=ht.marks
   have hbs0:∀b∈bs0,b<w.heap.size:=fun b hb=>(Zah.1 (m3 b hb).2).1
   have hr0:∀l0,r=some l0→l0<w.heap.size:=fun l0 hl0=>by
     obtain ⟨rc,h3⟩:=ht.round l0 hl0
     exact (Zah.1 h3).1
   have hm0:(m.take hp0.length).length≤hp0.length:=by simp;omega
   have hbsN:∀b∈bs++bs0,b<w1.heap.size:=fun b hb=>(List.mem_append.1 hb).elim (fun h=>(e6 b h).2.1) (fun h=>Nat.lt_of_lt_of_le (hbs0 b h) e3.size)
   have html:(lowTm hp0.length s.tm).length=a.tmps.size:=by simpa [lowTm] using ht.rel.1
   let Er:=rangeEnv Ev r S X V w (m.take hp0.length) (lowTm hp0.length s.tm) a [] hp0.length (bs++bs0) l {state:= .ready,pending:=none,fn,tmps:=a.tmps,params:=ps,assign,body,defers:=D} w1.heap.size html rfl
     (Zbx ht.base.1 ht.base.2) e4 hm0 hl1w hbsN (fun l0 hl0=>Nat.lt_of_lt_of_le (hr0 l0 hl0) e3.size)
   have hrelB:Rel S (fun b _=>b<w1.heap.size∧b≠pb) (some l) w1 [⟨pb,plen,false,pver⟩] (([AV.yl,Zbf 0 0]).zip [Zcj (.yield l) #[] #[],Value.pointer (some ⟨pb,0,none⟩)]++([]++cellPairs [blk] [hv[hp0.length]])) [blk] [hv[hp0.length]]:=by
     have hcp:∀p∈cellPairs [blk] [hv[hp0.length]],RV S w1 [⟨pb,plen,false,pver⟩] (some l) p.1 p.2∧ownB p=none:=by
       intro p hp
       simp only [cellPairs,List.zip_cons_cons,List.zip_nil_right,List.flatMap_cons,List.flatMap_nil,List.append_nil] at hp
       have hpm:p∈cellPairs s.hp hv:=by
         simp only [cellPairs,List.mem_flatMap]
         refine ⟨(blk,hv[hp0.length]),Zak.2 ⟨hp0.length, ?_⟩,hp⟩
         rw [Zaq];exact ⟨hgb,by simp [hvn]⟩
       have hc1:=(List.of_mem_zip hp).1
       obtain ⟨j,hj⟩:=Zak.1 hc1
       refine ⟨((hrel1.rv p (List.mem_append_right _ hpm)).closed (closeds_get hcl j _ hj)).opened, ?_⟩
       have h3:(blk.cells.map Zcx)[j]? =some p.1.view:=by simp [hj]
       rw [hvw,hj] at h3
       obtain ⟨p1,p2⟩:=p
       simp only [Option.some.injEq] at h3
       rw [h3];exact ownB_view _ _
     have h0:Rel S (fun b _=>b<w1.heap.size∧b≠pb) (some l) w1 [⟨pb,plen,false,pver⟩] [] [blk] [hv[hp0.length]]:=by
       refine ⟨fun b i h=>h.elim (hlt1 b i) (fun h=>h.1),by simp,List.Pairwise.nil,by simp,by simp,by simp,rfl,rfl,fun g blk' p vs q1 q2 q3=> ?_,hrel1.gl⟩
       cases g with
       |succ g=>simp at q1
       | zero=>
         simp only [List.getElem?_cons_zero,Option.some.injEq] at q1 q2 q3
         subst q1 q2 q3
         exact ⟨a1,a2,a3,a4,a5,a6,fun _ i=>⟨(hSn i).1,fun h=>h.2 rfl⟩,fun hf=>by rw [hfro] at hf;cases hf⟩
     have h3:=h0.pushAll _ hcp
     have h4:=h3.pushAll [(AV.yl,Zcj (.yield l) #[] #[]),(Zbf 0 0,Value.pointer (some ⟨pb,0,none⟩))] (by
       intro p hp
       simp only [List.mem_cons,List.not_mem_nil,or_false] at hp
       rcases hp with rfl|rfl
       · exact ⟨.yl rfl,rfl⟩
       · exact ⟨.ptr (len:=plen) (ver:=pver) rfl,rfl⟩)
     simpa using h4
   have hE:Er.E (hp0,s.b,none) S (fun b _=>b<w1.heap.size∧b≠pb) w1:=by
     refine ⟨X,V,m.take hp0.length,hv.take hp0.length,rfl,by simpa using hrelT,ht.sub,Ev.stable ht.env (htr.mono (fun b i hx hv=>hx (ht.sub b i hv)) (fun _ h=>h)),MStep.refl _,ht.round.tr htr,fun b hb=> ?_,fun c hc i=> ?_,fun b i hv=> ?_,fun b i h=>h.1,fun b i hx=>⟨hrel1.lt b i (.inr hx),fun he=>(hSn i).2 (he▸hx)⟩,e2,hgs.went hlt1⟩
     · rcases List.mem_append.1 hb with h3|h3
       · exact (e6 b h3).2.2
       · rw [e3.block b (hbs0 b h3)];exact (m3 b h3).2
     · have hc':Owned hp0 (m.take hp0.length) ((lowTm hp0.length s.tm).zip a.tmps.toList++cellPairs hp0 (hv.take hp0.length)) c:=by simpa using hc
       refine ⟨hrelT.ownedLt hc', ?_⟩
       rintro rfl
       rcases hc' with ⟨g,blk',p,q1,q2,q3,q4⟩|⟨p,q1,q2⟩
       · have hgl:g<hp0.length:=(Zab.1 q1).1
         have q5:m[g]? =some p:=by rw [Zas,if_pos hgl] at q2;exact q2
         have hnd:=hrel1.mnd
         have q6:(m.map (·.b))[g]? =some c:=by simp [q5,q4]
         have q7:(m.map (·.b))[hp0.length]? =some c:=by simp [hm]
         have:=(List.getElem?_inj (by simp;exact (Zab.1 q5).1) hnd).1 (q6.trans q7.symm)
         omega
       · have q3:p∈(lowTm hp0.length s.tm).zip a.tmps.toList++cellPairs s.hp hv:=by
           rcases List.mem_append.1 q1 with q3|q3
           · exact List.mem_append_left _ q3
           · refine List.mem_append_right _ ?_
             simp only [cellPairs,List.mem_flatMap] at q3 ⊢
             obtain ⟨q,q4,q5⟩:=q3
             refine ⟨q, ?_,q5⟩
             have q6:hp0.zip (hv.take hp0.length)=(s.hp.zip hv).take hp0.length:=by
               have q7:(s.hp.zip hv).take hp0.length=(s.hp.take hp0.length).zip (hv.take hp0.length):=by simp [List.zip,List.take_zipWith]
               rw [q7,hp0t]
             rw [q6] at q4
             exact List.mem_of_mem_take q4
         exact hrelL.nm p q3 c q2 _ (Zbb hm) rfl
     · have:=ht.sub b i hv
       exact ⟨hrel1.lt b i (.inr this),fun he=>(hSn i).2 (he▸this)⟩
   have hcalls:=hI.2 Er (hp0,s.b,none) (rangeQ (lowTm hp0.length s.tm) Q) h S _ (fun b _=>b<w1.heap.size∧b≠pb) w1 _ _ [Zcj (.yield l) #[] #[],Value.pointer (some ⟨pb,0,none⟩)] rfl hrelB (fun _ _ h=>h) hE (Nat.le_refl _)
   refine ⟨l,bs.map fun b=> {target:= .collected b,args:=#[]},w1, {target:= .fn (.func k) #[Value.pointer (some ⟨pb,0,none⟩)],args:=#[]++#[Zcj (.yield l) #[] #[]]},w1,k,#[]++#[Zcj (.yield l) #[] #[]]++#[Value.pointer (some ⟨pb,0,none⟩)],w1,e1, ?_,fun _ _=>trivial, ?_,fun hd=>(by cases hd), ?_⟩
   · have hm:Array.map a.eval #[Operand.const (Zcj (Fn.yield l) #[] #[])]=#[a.eval (Operand.const (Zcj (Fn.yield l) #[] #[]))]:=by simp
     simp only [resolve,hfe,Deferred.ofValue,hm];rfl
   · simp only [invoke];exact hI.1 _ _
   · refine (CallsIn.mono hcalls ?_:CallsIn Fence.wide 0 P k _ w1 _)
     rintro e w3 ⟨v,⟨hpE,bE,stE⟩,S',V',rfl,hQ,hE'⟩
     obtain ⟨Xc,Vc,mC,hvC,g0,g1,g2,g3,g4,g5,g6,g7,g8,g9,gXV,g10,g11⟩:=hE'
     simp only at g0 g1 g3 g10
     refine ⟨_,_,run_endLoop g10 (by cases stE<;>simp), ?_⟩
     have hlN:Ev.N≤l:=Zbx (Zbx ht.base.1 ht.base.2) e4
     have hbeh:∀e,Q e ⟨lowTm hp0.length s.tm,hpE,bE⟩→Beh0 Ev lo r S X V w Q e {a with defers:=(bs.map fun b=> {target:= .collected b,args:=#[]})++a.defers}
         (w3.putObj l (.loop {state:= .exhausted,pending:=stE.map codeOf,fn,tmps:=a.tmps,params:=ps,assign,body,defers:=D})):=by
       intro e hQe
       refine ⟨⟨lowTm hp0.length s.tm,hpE,bE⟩,S',Xc,Vc,mC,hvC,hQe,g11.putObj e4 g10,⟨⟨html, ?_,by intro p hp;cases hp⟩,g2,Ev.stableO _ g3 hlN g10 rfl,fun l0 hl0=> ?_, ?_,ht.base.1, ?_⟩⟩
       · simpa using g1.putObj (o':= .loop {state:= .exhausted,pending:=stE.map codeOf,fn,tmps:=a.tmps,params:=ps,assign,body,defers:=D}) g10 rfl
       · obtain ⟨rc,h3⟩:=g5 l0 hl0
         exact ⟨rc,putObj_other h3 (by have:=hr0 l0 hl0;omega)⟩
       · refine ⟨bs++bs0,by simp [m1], ?_,fun b hb=>⟨?_,putObj_other (g6 b hb) ?_⟩⟩
         · rw [List.nodup_append]
           refine ⟨e5,m2,fun x hx y hy hxy=> ?_⟩
           have:=(e6 x hx).1;have:=hbs0 y hy;omega
         · rcases List.mem_append.1 hb with h3|h3
           · exact Zbx ht.base.2 (e6 b h3).1
           · exact (m3 b h3).1
         · rintro rfl
           have:=g6 _ hb
           rw [g10] at this;cases this
       · simpa using Zbx ht.base.2 g11.tr.size
     cases stE with
     |none=>exact hbeh .normal hQ
     | some e=>
       cases e with
       |exit id=>exact wpIn_exit (hbeh (.exit id) hQ)
       |goto t=>exact wpIn_goto (hbeh (.goto t) hQ)
       |ret=>exact wpIn_ret (hbeh .ret hQ)
       |normal=>exact wpIn_ret (hbeh .ret hQ)
       |panic ch=>exact wpIn_ret (hbeh .ret hQ)
       |outgrown=>exact wpIn_ret (hbeh .ret hQ)
theorem ICallB.ofW {f:Nat} {fn:Func} {args:List AV} {blk:Blk} {Sp:SpT} (hf:P.funcs[f]? =some fn) (hb:fn.body=some c) (hn:(fn.name== "runtime.NumGoroutine")=false)
   (hW:∀(Ev:Env P) (b:Ev.β) (Q:Ev.β→Prop),Sp Ev.Y b Q→W Ev c ⟨startTm fn args, [blk],b⟩ (FnPost P fn fun _ _ b'=>Q b')):ICallB P f args blk Sp:=by
 refine ⟨enter_ok hf hb hn,fun Ev b Q hSp S X V w m hv vs hl hrel hV hE hN=> ?_⟩
 refine calls_of_W (Ev:=Ev) (V:=V) (B:= []) hf hb hl (hW Ev b Q hSp) hrel hV hE hN ?_
 intro y S' X' V' w' m' hv' hp' v b' hq _ _ _ _ hE' _
 exact ⟨v,b',S',V',rfl,hq,hE'⟩
theorem calls_of_W0 {f:Nat} {fn:Func} {c:Code} {args:List AV} {vs:List Value} {b:Ev.β} {R:AV→List Blk→Ev.β→Prop} {RR:Ending→World→Prop} (hf:P.funcs[f]? =some fn) (hb:fn.body=some c) (hl:args.length=vs.length)
   (hW:W0 Ev c ⟨startTm fn args,hp,b⟩ (FnPost P fn R)) (hr:Rel S X Ev.yl w m (args.zip vs++([]++cellPairs hp hv)) hp hv) (hV:∀b i,V b i→X b i) (hE:Ev.E b S V w) (hN:Ev.N≤w.heap.size)
   (hR:∀ {x S' X' V' w' m' hv' hp' v b'},R x hp' b'→Tr (fun b i=>¬X b i∨V b i) Ev.L S w S' w'→(∀b i,X b i→X' b i)→Rel S' X' Ev.yl w' m' ([]++cellPairs hp' hv') hp' hv'→Ev.E b' S' V' w'→RV S' w' m' Ev.yl x v→RR (.returned v) w'):
   CallsIn Fence.wide 0 P f vs.toArray w RR:=by
 refine callsIn_of_wp_marks (F:=Fn none) hf hb trivial ?_
 obtain ⟨h1,h2⟩:=start_rel (fn:=fn) rfl hl hr
 refine wpIn_mono (hW w.heap.size none S X V w m hv _ ⟨⟨h1,h2,by intro p hp;cases hp⟩,hV,hE,(fun l hl=>by cases hl),⟨[],rfl,List.nodup_nil,by simp⟩,hN,Nat.le_refl _⟩) fun e a' w' ⟨s',S',X',V',m',hv',hq,hm,ht⟩=> ?_
 obtain ⟨he,ys,hys,hRy⟩:=hq
 have hleave:LeavesInM (Fn none) 0 P fn a'.tmps RR a'.defers .returning w':=by
   refine leaves_of (lo:=w.heap.size) (K:=fun w'=>RelS S' X' Ev.yl w' m' [] hv' s'.rs a'∧Ev.E s'.b S' V' w'∧Tr (fun b i=>¬X b i∨V b i) Ev.L S w S' w') (fun w' d ⟨k1,k2,k3⟩ hd hdef=> ?_) (fun w' ⟨k1,k2,k3⟩=> ?_) ht.marks ⟨ht.rel,ht.env,hm.tr⟩
   · exact ⟨⟨k1.1,k1.2.1.putObj hdef rfl,k1.2.2⟩,Ev.stableO _ k2 (Zbx hN hd) hdef rfl,k3.putObj hd hdef⟩
   · obtain ⟨v,h3,h4⟩:=results_sound (P:=P) (fn:=fn) k1 hys
     exact ⟨v,h3,hR hRy k3 hm.xs (k1.2.1.sub (List.sublist_append_right _ _)) k2 h4⟩
 rcases he with rfl|rfl
 · exact hleave
 · exact hleave
theorem PCall.ofW0 {x0:Dv} {f:Nat} {fn:Func} {c:Code} {args:List AV} {x:AV} (hf:P.funcs[f]? =some fn) (hb:fn.body=some c) (hn:(fn.name== "runtime.NumGoroutine")=false) (hargs:args.map Zcx=args)
   (hW:∀(Ev:Env P) (b:Ev.β),W0 Ev c ⟨startTm fn args, [],b⟩ (FnPost P fn fun y hp _=>y= .d x0∧x= .d x0)):PCall P f args x:=by
 refine ⟨enter_ok hf hb hn,fun S w vs hl hvs hlt hgl=> ?_⟩
 have hrel:Rel S (fun b _=>b<w.heap.size) none w [] (args.zip vs++([]++cellPairs [] [])) [] []:=by
   have h0:Rel S (fun b _=>b<w.heap.size) none w [] [] [] []:=⟨fun b i h=>h.elim (hlt b i) id,by simp,List.Pairwise.nil,by simp,by simp,by simp,rfl,rfl,by simp,hgl⟩
   have:=h0.pushAll (args.zip vs) (fun p hp=>by
     obtain ⟨j,hj⟩:=Zak.1 hp
     rw [Zaq] at hj
     refine ⟨hvs j p.1 p.2 hj.1 hj.2, ?_⟩
     have hp1:p.1.view=p.1:=by
       have h1:(args.map Zcx)[j]? =some p.1.view:=by simp [hj.1]
       rw [hargs,hj.1] at h1;exact (Option.some.inj h1).symm
     obtain ⟨p1,p2⟩:=p
     simp only at hp1
     rw [←hp1];exact ownB_view _ _)
   simpa [cellPairs] using this
 refine calls_of_W0 (Ev:=Env.none P none) (V:=fun _ _=>False) (b:=(():Unit)) hf hb hl (hW (Env.none P _) (():Unit)) hrel (fun _ _ h=>h.elim) trivial (Nat.zero_le _) ?_
 intro y S' X' V' w' m' hv' hp' v b' hy htr0 hxs hr _ hyv
 obtain ⟨rfl,rfl⟩:=hy
 have htr:Tr (fun b i=>¬b<w.heap.size) (fun _=>False) S w S' w':=htr0.mono (fun b i h=>h.resolve_right id) (fun _ h=>h)
 refine ⟨v,S',rfl,below_of_tr htr (fun b i hb hz=>hz hb) (fun _ h=>h),fun b i hs=>htr.up b i hs,fun b i hs=> ?_, ?_⟩
 · rcases htr.new b i hs with h1|h1|h1
   · exact .inl h1
   · exact .inr ⟨Nat.le_of_not_lt h1,htr.lt b i hs⟩
   · exact .inr ⟨h1,htr.lt b i hs⟩
 · cases hyv with
   |d h=>exact .d h
end
inductive LeV:AV→AV→Prop
 |rfl {x:AV}:LeV x x
 |bad {x:AV}:LeV x .bad
 |nil {x:AV} {k:Nat} (h:isNilSlice x=true):LeV x (.d (.sl k []))
 |full {k:Nat} {xs:List (List Dv)}:LeV (.full k xs) (.d (.sl k xs))
 |agg {xs ys:List AV} (hl:xs.length=ys.length) (h:∀(i:Nat) (x y:AV),xs[i]? =some x→ys[i]? =some y→LeV x y):LeV (.agg xs) (.agg ys)
 |tup {xs ys:List AV} (hl:xs.length=ys.length) (h:∀(i:Nat) (x y:AV),xs[i]? =some x→ys[i]? =some y→LeV x y):LeV (.tup xs) (.tup ys)
inductive LeVs:List AV→List AV→Prop
 |nil:LeVs [] []
 |cons {x y:AV} {xs ys:List AV} (h:LeV x y) (hs:LeVs xs ys):LeVs (x::xs) (y::ys)
theorem LeVs.len {xs ys:List AV} (h:LeVs xs ys):xs.length=ys.length:=by
 induction h with
 |nil=>rfl
 |cons _ _ ih=>simp [ih]
theorem LeVs.at {xs ys:List AV} (h:LeVs xs ys):∀(i:Nat) (x y:AV),xs[i]? =some x→ys[i]? =some y→LeV x y:=by
 induction h with
 |nil=>intro i x y h;simp at h
 | cons h _ ih=>
   intro i x y h1 h2
   cases i with
   |zero=>simp at h1 h2;subst h1;subst h2;exact h
   |succ i=>exact ih i x y (by simpa using h1) (by simpa using h2)
theorem LeVs.refl:∀xs:List AV,LeVs xs xs
 | []=> .nil
 |_::xs=> .cons .rfl (LeVs.refl xs)
theorem LeV.aggs {xs ys:List AV} (h:LeVs xs ys):LeV (.agg xs) (.agg ys):= .agg h.len h.at
theorem LeV.tups {xs ys:List AV} (h:LeVs xs ys):LeV (.tup xs) (.tup ys):= .tup h.len h.at
theorem LeV.rv {S:Pr} {w:World} {m:List MB} {yv:Option Nat} {x y:AV} (h:LeV x y):∀ {v:Value},RV S w m yv x v→RV S w m yv y v:=by
 induction h with
 |rfl=>exact fun h=>h
 |bad=>exact fun _=> .bad
 |nil h=>exact fun hr=>(LeA.nilSl h).rv hr
 |full=>exact fun hr=>(LeX.full _ _).rv hr
 | agg hl h ih=>
   intro v hr
   cases hr with
   | agg hl' hr=>
     refine .agg (hl.symm.trans hl') fun i c v h1 h2=> ?_
     have hi:=(Zab.1 h1).1
     exact ih i _ c (Zbk (by omega)) h1 (hr i _ v (Zbk (by omega)) h2)
 | tup hl h ih=>
   intro v hr
   cases hr with
   | tup hl' hr=>
     refine .tup (hl.symm.trans hl') fun i c v h1 h2=> ?_
     have hi:=(Zab.1 h1).1
     exact ih i _ c (Zbk (by omega)) h1 (hr i _ v (Zbk (by omega)) h2)
section
variable {P:Program}
theorem PCall.leArgsV {f:Nat} {args args':List AV} {x:AV} (h:LeVs args args') (hp:PCall P f args' x):PCall P f args x:=by
 refine ⟨hp.1,fun S w vs hl hvs hlt hgl=>hp.2 S w vs (h.len▸hl) (fun i y v h1 h2=> ?_) hlt hgl⟩
 have hi:=(Zab.1 h1).1
 have hi':i<args.length:=h.len▸hi
 exact (h.at i _ y (Zbk hi') h1).rv (hvs i _ v (Zbk hi') h2)
theorem PCall.ofWV {f:Nat} {fn:Func} {c:Code} {args:List AV} {x:AV} (hf:P.funcs[f]? =some fn) (hb:fn.body=some c) (hn:(fn.name== "runtime.NumGoroutine")=false) (hargs:args.map Zcx=args)
   (hW:∀(Ev:Env P) (b:Ev.β),W Ev c ⟨startTm fn args, [],b⟩ (FnPost P fn fun y hp _=>∃z,SealR hp y z∧LeV z x)):PCall P f args x:=by
 refine ⟨enter_ok hf hb hn,fun S w vs hl hvs hlt hgl=> ?_⟩
 have hrel:Rel S (fun b _=>b<w.heap.size) none w [] (args.zip vs++([]++cellPairs [] [])) [] []:=by
   have h0:Rel S (fun b _=>b<w.heap.size) none w [] [] [] []:=⟨fun b i h=>h.elim (hlt b i) id,by simp,List.Pairwise.nil,by simp,by simp,by simp,rfl,rfl,by simp,hgl⟩
   have:=h0.pushAll (args.zip vs) (fun p hp=>by
     obtain ⟨j,hj⟩:=Zak.1 hp
     rw [Zaq] at hj
     refine ⟨hvs j p.1 p.2 hj.1 hj.2, ?_⟩
     have hp1:p.1.view=p.1:=by
       have h1:(args.map Zcx)[j]? =some p.1.view:=by simp [hj.1]
       rw [hargs,hj.1] at h1;exact (Option.some.inj h1).symm
     obtain ⟨p1,p2⟩:=p
     simp only at hp1
     rw [←hp1];exact ownB_view _ _)
   simpa [cellPairs] using this
 refine calls_of_W (Ev:=Env.none P none) (V:=fun _ _=>False) (b:=(():Unit)) hf hb hl (hW (Env.none P _) (():Unit)) hrel (fun _ _ h=>h.elim) trivial (Nat.zero_le _) ?_
 intro y S' X' V' w' m' hv' hp' v b' hyz htr0 hxs hm hr _ hyv
 obtain ⟨z,hy,hz⟩:=hyz
 have htr:Tr (fun b i=>¬b<w.heap.size) (fun _=>False) S w S' w':=htr0.mono (fun b i h=>h.resolve_right id) (fun _ h=>h)
 refine ⟨v,withBlocks S' m',rfl,below_of_tr htr (fun b i hb hz=>hz hb) (fun _ h=>h),fun b i hs=> .inl (htr.up b i hs),fun b i hs=> ?_,(hz.rv (sealR_sound (B:= []) (T:=withBlocks S' m') (by simpa using hr) (fun _ _ h=> .inl h) hy (fun g _ p hp i hi=> .inr ⟨g,p,hp,rfl,hi⟩) hyv)).view⟩
 rcases hs with hs|⟨g,p,hg,rfl,hi⟩
 · rcases htr.new b i hs with h1|h1|h1
   · exact .inl h1
   · exact .inr ⟨Nat.le_of_not_lt h1,htr.lt b i hs⟩
   · exact .inr ⟨h1,htr.lt b i hs⟩
 · have hr':Rel S' X' none w' m' (([]:List (AV×Value))++cellPairs hp' hv') hp' hv':=hr
   obtain ⟨blk,us,cur,e,g1,g2,g3,g4,g5,g6,g7,g8,g9,g10,g11,g12⟩:=hr'.block hg
   have hlt':p.b<w'.heap.size:=(Zah.1 g8).1
   cases hfr:blk.fro with
   | true=>
     have hs:=g12 hfr i hi
     rcases htr.new _ _ hs with h1|h1|h1
     · exact .inl h1
     · exact .inr ⟨Nat.le_of_not_lt h1,hlt'⟩
     · exact .inr ⟨h1,hlt'⟩
   | false=>
     refine .inr ⟨Nat.le_of_not_lt fun hb=> ?_,hlt'⟩
     exact (g11 hfr i).2 (hxs _ _ hb)
theorem PCall.ofFnV {f n:Nat} {fn:Func} {args:List AV} {x:AV} {T:List (Nat×(List AV→(AV→Prop)→Prop))} {U:List (Nat×(List AV→List Blk→(AV→List Blk→Prop)→Prop))} {u:Bool} (wl:∀β:Type,WLT β) (hm:P.follows .mixedOrders=true)
   (hT:CallsOk P T) (hS:SCallsOk P U) (hwl:∀(Ev:Env P) c tm hp b K,wl Ev.β c tm hp b K→W Ev c ⟨tm,hp,b⟩ (fun e s=>K e s.tm s.hp s.b)) (hf:P.funcs[f]? =some fn) (hn:(fn.name== "runtime.NumGoroutine")=false) (hargs:args.map Zcx=args)
   (h:∀(Ev:Env P) (b:Ev.β),wpFn P ⟨T,U,wl Ev.β,Ev.Y,u⟩ n fn args b (fun y _=>LeV y x)):PCall P f args x:=by
 cases hb:fn.body with
 | some c=>
   refine PCall.ofWV hf hb hn hargs fun Ev b=> ?_
   have h1:=h Ev b
   unfold wpFn at h1
   rw [hb] at h1
   refine wpc_sound hm (CX.Ok.ofWl hT hS (hwl Ev)) h1 fun e tm hp b hK=> ?_
   obtain ⟨g1,ys,g2,z,g3,g4⟩:=fnK_sound hK
   exact ⟨g1,ys,g2,z,g3,g4⟩
 | none=>
   have:=h (Env.none P none) ()
   unfold wpFn at this
   rw [hb] at this
   exact this.elim
end
def ptrsFrom (a n:Nat):List AV:=(List.range' a n).map fun i=>Zbf i 0
theorem ptrsFrom_get {a n i:Nat}:(ptrsFrom a n)[i]? =if i<n then some (.ptr (a+i) 0) else none:=by
 unfold ptrsFrom
 rw [List.getElem?_map]
 by_cases h:i<n
 · rw [if_pos h,List.getElem?_range' h];simp
 · rw [if_neg h,List.getElem?_eq_none (by simp;omega)];rfl
def ICallBs (P:Program) (f:Nat) (args:List AV) (bs:List Blk) (Sp:SpT):Prop:=
 (∀(ar:Array Value) (w:World),(callFunc f ar).run P w= .ok (.enter f ar) w)∧
 ∀ (Ev:Env P) (b:Ev.β) (Q:Ev.β→Prop),Sp Ev.Y b Q→∀(S X V:Pr) (w:World) (m:List MB) (hv:List (List Value)) (vs:List Value),args.length=vs.length→
   Rel S X Ev.yl w m (args.zip vs++([]++cellPairs bs hv)) bs hv→(∀b i,V b i→X b i)→Ev.E b S V w→Ev.N≤w.heap.size→
   CallsIn Fence.wide 0 P f vs.toArray w fun e w'=>∃v b' S' V',e= .returned v∧Q b'∧Ev.E b' S' V' w'
section
variable {P:Program} {S S' X X' V V':Pr} {r:Option Nat} {lo:Nat} {w w':World} {m m':List MB} {B:List (AV×Value)} {hp hp':List Blk} {hv hv':List (List Value)} {a:Act} {Ev:Env P} {s:St Ev.β} {Q:Exit→St Ev.β→Prop} {c:Code}
set_option maxHeartbeats 1000000 in
theorem W0.ranges {g:Operand} {ps:Array Tmp} {assign body:Code} {k:Nat} {hp0:List Blk} {lent:List Blk} {Sp:SpT} (hs:s.hp=hp0++lent) (hfro:∀q∈lent,q.fro=false) (hlow:lowHp hp0.length s.hp=true)
   (hcl:∀q∈lent,closeds q.cells=true∧q.cells.map Zcx=q.cells) (hg:evalA s.tm g= .fn (.func k) [] (ptrsFrom hp0.length lent.length))
   (hI:ICallBs P k (.yl::ptrsFrom 0 lent.length) lent Sp) (h:Sp (YBody Ev (lowTm hp0.length s.tm) ps assign body hp0.length) (hp0,s.b,none) (rangeQ (lowTm hp0.length s.tm) Q)):W0 Ev (.rangeFunc g ps assign body) s Q:=by
 intro lo r S X V w m hv a ht
 refine wpIn_rangeFunc fun fn _=> ?_
 obtain ⟨l,bs,w1,D,e1,e2,e3,e4,e5,e6⟩:=enter_loop (P:=P) fn a.tmps ps assign body ht.round
 have hfv:=evalA_sound ht.rel g
 rw [hg] at hfv
 generalize hfe:a.eval g=fv at hfv
 cases hfv with
 | fn hne hl1 hl2 h1 h2=>
   rename_i fs cs
   have hfs:fs=#[]:=by simpa using hl1.symm
   subst hfs
   have hcsz:cs.size=lent.length:=by rw [←hl2];simp [ptrsFrom]
   have hgs:=Gs.below ht.rel.2.1 e3 (S':=S) ⟨fun _ _ h=>h,fun _ _ h=> .inl h⟩
   have hlt1:∀b i,S b i→b<w1.heap.size:=fun b i hs=>Nat.lt_of_lt_of_le (ht.rel.slt b i hs) e3.size
   have htr:=hgs.tr hlt1
   have hrel1:Rel S X Ev.yl w1 m (s.tm.zip a.tmps.toList++cellPairs s.hp hv) s.hp hv:=by
     simpa using ht.rel.2.1.below e3 (fun _ _ h=>h) (fun _ _ h=> .inl h)
   have hsl:s.hp.length=hp0.length+lent.length:=by rw [hs];simp
   have hml:m.length=hp0.length+lent.length:=by rw [hrel1.ml,hsl]
   have hvl:hv.length=hp0.length+lent.length:=by rw [hrel1.hl,hsl]
   
   have hcap:∀i,i<lent.length→∃q:MB,(m.drop hp0.length)[i]? =some q∧q.grow=false∧cs[i]? =some (.pointer (some ⟨q.b,0,none⟩)):=by
     intro i hi
     have hci:i<cs.size:=by omega
     have hr:=h2 i (.ptr (hp0.length+i) 0) cs[i] (by rw [ptrsFrom_get,if_pos hi]) (by simp [hci])
     generalize hcv:cs[i]=cv at hr
     cases hr with
     | ptr hm=>
       rename_i pb plen pver
       refine ⟨_,by rw [List.getElem?_drop];exact hm,rfl, ?_⟩
       rw [Array.getElem?_eq_getElem hci,hcv]
   have hmBl:(m.drop hp0.length).length=lent.length:=by simp;omega
   have hcs:cs.toList=(m.drop hp0.length).map fun q=> .pointer (some ⟨q.b,0,none⟩):=by
     refine List.ext_getElem? fun i=> ?_
     by_cases hi:i<lent.length
     · obtain ⟨q,q1,_,q2⟩:=hcap i hi
       rw [List.getElem?_map,q1,Array.getElem?_toList,q2];rfl
     · rw [List.getElem?_eq_none (by simp;omega),List.getElem?_eq_none (by simp;omega)]
   have hrelL:Rel S X Ev.yl w1 m ((lowTm hp0.length s.tm).zip a.tmps.toList++cellPairs s.hp hv) s.hp hv:=Rel.lowered hp0.length hrel1
   have hnT:∀p∈(lowTm hp0.length s.tm).zip a.tmps.toList,RV S w1 (m.take hp0.length) Ev.yl p.1 p.2:=by
     intro p hp
     refine (hrelL.rv p (List.mem_append_left _ hp)).low ?_
     have:=(List.of_mem_zip hp).1
     simp only [lowTm,List.mem_map] at this
     obtain ⟨x,_,h3⟩:=this
     rw [←h3]
     split
     · assumption
     · rfl
   have hrelT:=hrelL.trunc hnT hlow
   have hp0t:s.hp.take hp0.length=hp0:=by rw [hs];simp
   rw [hp0t] at hrelT
   
   have hgb:∀i,(s.hp)[hp0.length+i]? =lent[i]? :=fun i=>by rw [hs,List.getElem?_append_right (by omega)];congr 1;omega
   have hblk:∀(i:Nat) (blk:Blk) (q:MB) (vs:List Value),lent[i]? =some blk→(m.drop hp0.length)[i]? =some q→(hv.drop hp0.length)[i]? =some vs→
       s.hp[hp0.length+i]? =some blk∧m[hp0.length+i]? =some q∧hv[hp0.length+i]? =some vs:=fun i blk q vs q1 q2 q3=>
     ⟨by rw [hgb];exact q1,by rw [List.getElem?_drop] at q2;exact q2,by rw [List.getElem?_drop] at q3;exact q3⟩
   have hSn:∀q∈m.drop hp0.length,q.b<w1.heap.size∧∀i,¬S q.b i∧¬X q.b i:=by
     intro q hq
     obtain ⟨i,hi⟩:=Zak.1 hq
     have hil:i<lent.length:=by rw [←hmBl];exact (Zab.1 hi).1
     have hvil:i<(hv.drop hp0.length).length:=by simp;omega
     obtain ⟨k1,k2,k3⟩:=hblk i lent[i] q (hv.drop hp0.length)[i] (by simp [hil]) hi (Zbk hvil)
     obtain ⟨a1,a2,a3,a4,a5,a6,a9,a10⟩:=hrel1.bl _ _ _ _ k1 k2 k3
     refine ⟨?_,a9 (hfro _ (List.getElem_mem hil))⟩
     obtain ⟨cur,e,h3,_⟩:=a6
     exact (Zah.1 h3).1
   have hl1w:l<w1.heap.size:=(Zah.1 e2).1
   obtain ⟨bs0,m1,m2,m3⟩:=ht.marks
   have hbs0:∀b∈bs0,b<w.heap.size:=fun b hb=>(Zah.1 (m3 b hb).2).1
   have hr0:∀l0,r=some l0→l0<w.heap.size:=fun l0 hl0=>by
     obtain ⟨rc,h3⟩:=ht.round l0 hl0
     exact (Zah.1 h3).1
   have hm0:(m.take hp0.length).length≤hp0.length:=by simp;omega
   have hbsN:∀b∈bs++bs0,b<w1.heap.size:=fun b hb=>(List.mem_append.1 hb).elim (fun h=>(e6 b h).2.1) (fun h=>Nat.lt_of_lt_of_le (hbs0 b h) e3.size)
   have html:(lowTm hp0.length s.tm).length=a.tmps.size:=by simpa [lowTm] using ht.rel.1
   let Er:=rangeEnv Ev r S X V w (m.take hp0.length) (lowTm hp0.length s.tm) a [] hp0.length (bs++bs0) l {state:= .ready,pending:=none,fn,tmps:=a.tmps,params:=ps,assign,body,defers:=D} w1.heap.size html rfl
     (Zbx ht.base.1 ht.base.2) e4 hm0 hl1w hbsN (fun l0 hl0=>Nat.lt_of_lt_of_le (hr0 l0 hl0) e3.size)
   have hrelB:Rel S (fun b _=>b<w1.heap.size∧¬∃q∈m.drop hp0.length,q.b=b) (some l) w1 (m.drop hp0.length) ((AV.yl::ptrsFrom 0 lent.length).zip (Zcj (.yield l) #[] #[]::cs.toList)++([]++cellPairs lent (hv.drop hp0.length))) lent (hv.drop hp0.length):=by
     have hcp:∀p∈cellPairs lent (hv.drop hp0.length),RV S w1 (m.drop hp0.length) (some l) p.1 p.2∧ownB p=none:=by
       intro p hp
       simp only [cellPairs,List.mem_flatMap] at hp
       obtain ⟨⟨blk,vs⟩,hq,hp⟩:=hp
       obtain ⟨i,hi⟩:=Zak.1 hq
       rw [Zaq] at hi
       have hpm:p∈cellPairs s.hp hv:=by
         simp only [cellPairs,List.mem_flatMap]
         refine ⟨(blk,vs),Zak.2 ⟨hp0.length+i, ?_⟩,hp⟩
         rw [Zaq]
         exact ⟨by rw [hgb];exact hi.1,by have:=hi.2;rw [List.getElem?_drop] at this;exact this⟩
       have hc1:=(List.of_mem_zip hp).1
       obtain ⟨j,hj⟩:=Zak.1 hc1
       obtain ⟨hcl1,hvw⟩:=hcl blk (Zbb hi.1)
       refine ⟨((hrel1.rv p (List.mem_append_right _ hpm)).closed (closeds_get hcl1 j _ hj)).opened, ?_⟩
       have h3:(blk.cells.map Zcx)[j]? =some p.1.view:=by simp only at hj;simp [hj]
       rw [hvw] at h3
       simp only at hj
       rw [hj] at h3
       obtain ⟨p1,p2⟩:=p
       simp only [Option.some.injEq] at h3
       rw [h3];exact ownB_view _ _
     have h0:Rel S (fun b _=>b<w1.heap.size∧¬∃q∈m.drop hp0.length,q.b=b) (some l) w1 (m.drop hp0.length) [] lent (hv.drop hp0.length):=by
       refine ⟨fun b i h=>h.elim (hlt1 b i) (fun h=>h.1),by simp,List.Pairwise.nil,by simp,by simp, ?_,hmBl,by simp;omega,fun g blk' p vs q1 q2 q3=> ?_,hrel1.gl⟩
       · have:=hrel1.mnd
         rw [←List.take_append_drop hp0.length m,List.map_append] at this
         exact (List.nodup_append.1 this).2.1
       · obtain ⟨k1,k2,k3⟩:=hblk g blk' p vs q1 q2 q3
         obtain ⟨a1,a2,a3,a4,a5,a6,a9,a10⟩:=hrel1.bl _ _ _ _ k1 k2 k3
         have hpm:p∈m.drop hp0.length:=Zbb q2
         exact ⟨a1,a2,a3,a4,a5,a6,fun _ i=>⟨((hSn p hpm).2 i).1,fun h=>h.2 ⟨p,hpm,rfl⟩⟩,fun hf=>by rw [hfro _ (Zbb q1)] at hf;cases hf⟩
     have h3:=h0.pushAll _ hcp
     have h4:=h3.pushAll ((AV.yl::ptrsFrom 0 lent.length).zip (Zcj (.yield l) #[] #[]::cs.toList)) (by
       intro p hp
       rw [List.zip_cons_cons] at hp
       rcases List.mem_cons.1 hp with rfl|hp
       · exact ⟨.yl rfl,rfl⟩
       · obtain ⟨i,hi⟩:=Zak.1 hp
         rw [Zaq,ptrsFrom_get] at hi
         obtain ⟨hi1,hi2⟩:=hi
         split at hi1
         · rename_i hil
           obtain ⟨q,q1,qg,q2⟩:=hcap i hil
           rw [Array.getElem?_toList,q2] at hi2
           obtain ⟨p1,p2⟩:=p
           simp only [Option.some.injEq] at hi1 hi2
           subst hi1;subst hi2
           obtain ⟨qb,ql,qgr,qv⟩:=q
           simp only at qg;subst qg
           refine ⟨.ptr (len:=ql) (ver:=qv) (by rw [Nat.zero_add];exact q1),rfl⟩
         · cases hi1)
     simpa using h4
   have hE:Er.E (hp0,s.b,none) S (fun b _=>b<w1.heap.size∧¬∃q∈m.drop hp0.length,q.b=b) w1:=by
     refine ⟨X,V,m.take hp0.length,hv.take hp0.length,rfl,by simpa using hrelT,ht.sub,Ev.stable ht.env (htr.mono (fun b i hx hv=>hx (ht.sub b i hv)) (fun _ h=>h)),MStep.refl _,ht.round.tr htr,fun b hb=> ?_,fun c hc i=> ?_,fun b i hv=> ?_,fun b i h=>h.1,fun b i hx=>⟨hrel1.lt b i (.inr hx), ?_⟩,e2,hgs.went hlt1⟩
     · rcases List.mem_append.1 hb with h3|h3
       · exact (e6 b h3).2.2
       · rw [e3.block b (hbs0 b h3)];exact (m3 b h3).2
     · have hc':Owned hp0 (m.take hp0.length) ((lowTm hp0.length s.tm).zip a.tmps.toList++cellPairs hp0 (hv.take hp0.length)) c:=by simpa using hc
       refine ⟨hrelT.ownedLt hc', ?_⟩
       rintro ⟨q,hq,rfl⟩
       obtain ⟨i,hi⟩:=Zak.1 hq
       have hmi:m[hp0.length+i]? =some q:=by rw [List.getElem?_drop] at hi;exact hi
       rcases hc' with ⟨g,blk',p,q1,q2,q3,q4⟩|⟨p,q1,q2⟩
       · have hgl:g<hp0.length:=(Zab.1 q1).1
         have q5:m[g]? =some p:=by rw [Zas,if_pos hgl] at q2;exact q2
         have hnd:=hrel1.mnd
         have q6:(m.map (·.b))[g]? =some q.b:=by simp [q5,q4]
         have q7:(m.map (·.b))[hp0.length+i]? =some q.b:=by simp [hmi]
         have:=(List.getElem?_inj (by simp;exact (Zab.1 q5).1) hnd).1 (q6.trans q7.symm)
         omega
       · have q3:p∈(lowTm hp0.length s.tm).zip a.tmps.toList++cellPairs s.hp hv:=by
           rcases List.mem_append.1 q1 with q3|q3
           · exact List.mem_append_left _ q3
           · refine List.mem_append_right _ ?_
             simp only [cellPairs,List.mem_flatMap] at q3 ⊢
             obtain ⟨q,q4,q5⟩:=q3
             refine ⟨q, ?_,q5⟩
             have q6:hp0.zip (hv.take hp0.length)=(s.hp.zip hv).take hp0.length:=by
               have q7:(s.hp.zip hv).take hp0.length=(s.hp.take hp0.length).zip (hv.take hp0.length):=by simp [List.zip,List.take_zipWith]
               rw [q7,hp0t]
             rw [q6] at q4
             exact List.mem_of_mem_take q4
         exact hrelL.nm p q3 q.b q2 q (Zbb hmi) rfl
     · have:=ht.sub b i hv
       exact ⟨hrel1.lt b i (.inr this),fun ⟨q,hq,he⟩=>((hSn q hq).2 i).2 (he▸this)⟩
     · exact fun ⟨q,hq,he⟩=>((hSn q hq).2 i).2 (he▸hx)
   have hcalls:=hI.2 Er (hp0,s.b,none) (rangeQ (lowTm hp0.length s.tm) Q) h S _ (fun b _=>b<w1.heap.size∧¬∃q∈m.drop hp0.length,q.b=b) w1 _ _ (Zcj (.yield l) #[] #[]::cs.toList) (by simp [ptrsFrom,hcsz]) hrelB (fun _ _ h=>h) hE (Nat.le_refl _)
   refine ⟨l,bs.map fun b=> {target:= .collected b,args:=#[]},w1, {target:= .fn (.func k) cs,args:=#[]++#[Zcj (.yield l) #[] #[]]},w1,k,#[]++#[Zcj (.yield l) #[] #[]]++cs,w1,e1, ?_,fun _ _=>trivial, ?_,fun hd=>(by cases hd), ?_⟩
   · have hm:Array.map a.eval #[Operand.const (Zcj (Fn.yield l) #[] #[])]=#[a.eval (Operand.const (Zcj (Fn.yield l) #[] #[]))]:=by simp
     simp only [resolve,hfe,Deferred.ofValue,hm];rfl
   · simp only [invoke];exact hI.1 _ _
   · have hargs:(#[]++#[Zcj (.yield l) #[] #[]]++cs:Array Value)=(Zcj (.yield l) #[] #[]::cs.toList).toArray:=by
       apply Array.ext';simp
     rw [hargs]
     refine (CallsIn.mono hcalls ?_:CallsIn Fence.wide 0 P k _ w1 _)
     rintro e w3 ⟨v,⟨hpE,bE,stE⟩,S',V',rfl,hQ,hE'⟩
     obtain ⟨Xc,Vc,mC,hvC,g0,g1,g2,g3,g4,g5,g6,g7,g8,g9,gXV,g10,g11⟩:=hE'
     simp only at g0 g1 g3 g10
     refine ⟨_,_,run_endLoop g10 (by cases stE<;>simp), ?_⟩
     have hlN:Ev.N≤l:=Zbx (Zbx ht.base.1 ht.base.2) e4
     have hbeh:∀e,Q e ⟨lowTm hp0.length s.tm,hpE,bE⟩→Beh0 Ev lo r S X V w Q e {a with defers:=(bs.map fun b=> {target:= .collected b,args:=#[]})++a.defers}
         (w3.putObj l (.loop {state:= .exhausted,pending:=stE.map codeOf,fn,tmps:=a.tmps,params:=ps,assign,body,defers:=D})):=by
       intro e hQe
       refine ⟨⟨lowTm hp0.length s.tm,hpE,bE⟩,S',Xc,Vc,mC,hvC,hQe,g11.putObj e4 g10,⟨⟨html, ?_,by intro p hp;cases hp⟩,g2,Ev.stableO _ g3 hlN g10 rfl,fun l0 hl0=> ?_, ?_,ht.base.1, ?_⟩⟩
       · simpa using g1.putObj (o':= .loop {state:= .exhausted,pending:=stE.map codeOf,fn,tmps:=a.tmps,params:=ps,assign,body,defers:=D}) g10 rfl
       · obtain ⟨rc,h3⟩:=g5 l0 hl0
         exact ⟨rc,putObj_other h3 (by have:=hr0 l0 hl0;omega)⟩
       · refine ⟨bs++bs0,by simp [m1], ?_,fun b hb=>⟨?_,putObj_other (g6 b hb) ?_⟩⟩
         · rw [List.nodup_append]
           refine ⟨e5,m2,fun x hx y hy hxy=> ?_⟩
           have:=(e6 x hx).1;have:=hbs0 y hy;omega
         · rcases List.mem_append.1 hb with h3|h3
           · exact Zbx ht.base.2 (e6 b h3).1
           · exact (m3 b h3).1
         · rintro rfl
           have:=g6 _ hb
           rw [g10] at this;cases this
       · simpa using Zbx ht.base.2 g11.tr.size
     cases stE with
     |none=>exact hbeh .normal hQ
     | some e=>
       cases e with
       |exit id=>exact wpIn_exit (hbeh (.exit id) hQ)
       |goto t=>exact wpIn_goto (hbeh (.goto t) hQ)
       |ret=>exact wpIn_ret (hbeh .ret hQ)
       |normal=>exact wpIn_ret (hbeh .ret hQ)
       |panic ch=>exact wpIn_ret (hbeh .ret hQ)
       |outgrown=>exact wpIn_ret (hbeh .ret hQ)
theorem ICallBs.ofW {f:Nat} {fn:Func} {args:List AV} {lent:List Blk} {Sp:SpT} (hf:P.funcs[f]? =some fn) (hb:fn.body=some c) (hn:(fn.name== "runtime.NumGoroutine")=false)
   (hW:∀(Ev:Env P) (b:Ev.β) (Q:Ev.β→Prop),Sp Ev.Y b Q→W Ev c ⟨startTm fn args,lent,b⟩ (FnPost P fn fun _ _ b'=>Q b')):ICallBs P f args lent Sp:=by
 refine ⟨enter_ok hf hb hn,fun Ev b Q hSp S X V w m hv vs hl hrel hV hE hN=> ?_⟩
 refine calls_of_W (Ev:=Ev) (V:=V) (B:= []) hf hb hl (hW Ev b Q hSp) hrel hV hE hN ?_
 intro y S' X' V' w' m' hv' hp' v b' hq _ _ _ _ hE' _
 exact ⟨v,b',S',V',rfl,hq,hE'⟩
end
end Go.Proofs.YtibhflogmbfpcaaGreatDoor.Am
namespace Go.Proofs.YtibhflogmbfpcaaGreatDoor.Am
open Go Go.RowKit Go.Proofs Tryz
open AV renaming bad → Zaz, d → Zae, ptr → Zbf, view → Zcx
open _root_.Array renaming getElem?_eq_some_iff → Zah
open BIf renaming of → Zar
open BitVec renaming ofInt → Zao
open Bool renaming and_eq_true → Zam, false_eq_true → Zcg
open Dv renaming sl → Zal
open Int renaming fdiv → Zcy, toNat → Zat
open Go.IntKind renaming i64 → Zax, u8 → Zcw, wrap → Zaa
open List renaming getElem?_eq_getElem → Zbk, getElem?_eq_some_iff → Zab, getElem?_take → Zas, getElem?_zip_eq_some → Zaq, length → Zac, mem_cons_of_mem → Zaw, mem_cons_self → Zay, mem_iff_getElem? → Zak, mem_of_getElem? → Zbb, replicate → Zad
open Nat renaming le_trans → Zbx
open Prod renaming fst → Zdq
open Go.Value renaming func → Zcj, slice → Zbn
open AV (bad)
set_option linter.unusedVariables false
def bytesR (b:List Int):List (List Dv):=b.map fun x=> [u8 x]
def intsR (p:List Int):List (List Dv):=p.map fun x=> [i64 x]
def digR (p:List Int):List (List Dv):=p.map fun x=> [u64 x]
theorem bytesR_take (p:List Int) (n:Nat):(bytesR p).take n=bytesR (p.take n):=by simp [bytesR]
theorem bytesR_drop (p:List Int) (n:Nat):(bytesR p).drop n=bytesR (p.drop n):=by simp [bytesR]
theorem bytesR_len (p:List Int):(bytesR p).length=p.length:=by simp [bytesR]
theorem intsR_len (p:List Int):(intsR p).length=p.length:=by simp [intsR]
theorem digR_len (p:List Int):(digR p).length=p.length:=by simp [digR]
theorem bytesR_app (p q:List Int):bytesR (p++q)=bytesR p++bytesR q:=by simp [bytesR]
theorem digs_app (p:List Int) (x:Int):digR p++ [[u64 x]]=digR (p++ [x]):=by simp [digR]
theorem bytes_at {p:List Int} {k:Nat} (h:k<p.length):(bytesR p)[k]? =some [u8 (nth p k)]:=by simp [bytesR,nth,h]
theorem digs_at {p:List Int} {k:Nat} (h:k<p.length):(digR p)[k]? =some [u64 (nth p k)]:=by simp [digR,nth,h]
theorem wrap_u8 {x:Int} (h0:0≤x) (h1:x<256):Zaa .u8 x=x:=by
 simp only [Zaa];simp [IntKind.signed,IntKind.bits];omega
theorem wrap_i64 {x:Int} (h0: -9223372036854775808≤x) (h1:x<9223372036854775808):Zaa .i64 x=x:=by
 simp only [Zaa];simp [IntKind.signed,IntKind.bits];omega
theorem wrap_u64 {x:Int} (h0:0≤x) (h1:x<18446744073709551616):Zaa .u64 x=x:=by
 simp only [Zaa];simp [IntKind.signed,IntKind.bits];omega
theorem wrap_u64_range (x:Int):0≤Zaa .u64 x∧Zaa .u64 x<18446744073709551616:=by
 simp only [Zaa];simp [IntKind.signed,IntKind.bits];omega
theorem wrap_succ {n k:Nat} (h:k<n) (hn:n≤9223372036854775807):Zaa .i64 ((k:Int)+1)=((k+1:Nat):Int):=by
 rw [wrap_i64 (by omega) (by omega)];simp
theorem drop_cons {α:Type} {l rest:List α} {r:α} {k:Nat} (hd:l.drop k=r::rest):k<l.length∧l[k]? =some r∧l.drop (k+1)=rest:=by
 refine ⟨?_, ?_, ?_⟩
 · rcases Nat.lt_or_ge k l.length with h|h
   · exact h
   · rw [List.drop_eq_nil_of_le h] at hd;cases hd
 · have:=congrArg (fun x=>x[0]?) hd
   simpa using this
 · have:=congrArg List.tail hd
   simpa using this
theorem drop_nil {α:Type} {l:List α} {k:Nat} (hd:l.drop k= []):l.length≤k:=List.drop_eq_nil_iff.1 hd
theorem LeL.at {x y:AV} (pre post:List AV) (h:LeA x y):LeL (pre++x::post) (pre++y::post):=by
 induction pre with
 |nil=>exact .cons h (LeL.refl _)
 |cons a pre ih=>exact .cons .rfl ih
theorem YList.mono {P:Program} {Ev:Env P} {Q Q':Ev.β→Prop} (hq:∀b,Q b→Q' b):∀(l:List (List AV)) (b:Ev.β),YList Ev.Y l b Q→YList Ev.Y l b Q'
 | [],b,h=>hq b h
 | x::l,b,h=>Ev.Ymono h fun c b' h=>by
   cases c with
   |true=>exact YList.mono hq l b' h
   |false=>exact hq b' h
theorem bytes_of {x:Dv} (h:HasTy (.sl [.int .u8]) x):∃p:List Int,x= .sl 1 (bytesR p)∧p.length≤maxLen∧∀a∈p,0≤a∧a<256:=by
 cases h with
 | sl _ xs hl h=>
   have key:∀(xs:List (List Dv)),(∀row∈xs,HasTys [.int .u8] row)→∃p:List Int,xs=bytesR p∧∀a∈p,0≤a∧a<256:=by
     intro xs
     induction xs with
     |nil=>exact fun _=>⟨[],rfl,fun a h=>by cases h⟩
     | cons row xs ih=>
       intro h
       obtain ⟨p,rfl,hp⟩:=ih fun r hr=>h r (Zaw _ hr)
       have h0:=h row (Zay ..)
       cases h0 with
       | cons h1 h2=>cases h2 with
         | nil=>cases h1 with
           | int _ n hw=>
             refine ⟨n::p,rfl,fun a ha=> ?_⟩
             rcases List.mem_cons.1 ha with rfl|ha
             · simp [Lit.wf,IntKind.min,IntKind.max,IntKind.signed,IntKind.bits] at hw;omega
             · exact hp a ha
   obtain ⟨p,rfl,hp⟩:=key xs h
   exact ⟨p,rfl,by simpa [bytesR] using hl,hp⟩
end Go.Proofs.YtibhflogmbfpcaaGreatDoor.Am
namespace Go.Proofs.YtibhflogmbfpcaaGreatDoor.Am
open Go Go.RowKit Tryz
open AV renaming bad → Zaz, d → Zae, ptr → Zbf, view → Zcx
open _root_.Array renaming getElem?_eq_some_iff → Zah
open BIf renaming of → Zar
open BitVec renaming ofInt → Zao
open Bool renaming and_eq_true → Zam, false_eq_true → Zcg
open Dv renaming sl → Zal
open Int renaming fdiv → Zcy, toNat → Zat
open Go.IntKind renaming i64 → Zax, u8 → Zcw, wrap → Zaa
open List renaming getElem?_eq_getElem → Zbk, getElem?_eq_some_iff → Zab, getElem?_take → Zas, getElem?_zip_eq_some → Zaq, length → Zac, mem_cons_of_mem → Zaw, mem_cons_self → Zay, mem_iff_getElem? → Zak, mem_of_getElem? → Zbb, replicate → Zad
open Nat renaming le_trans → Zbx
open Prod renaming fst → Zdq
open Go.Value renaming func → Zcj, slice → Zbn
open AV (bad)
set_option linter.unusedVariables false
inductive LeF:AV→AV→Prop
 |v {x y:AV} (h:LeV x y):LeF x y
 |nilFull {x:AV} {k:Nat} (h:isNilSlice x=true):LeF x (.full k [])
theorem LeF.rfl {x:AV}:LeF x x:= .v .rfl
section
variable {P:Program} {S S' T V:Pr} {yv:Option Nat} {w w':World} {m m':List MB} {hp hp' hp1:List Blk} {hv':List (List Value)}
theorem LeF.rv {x y:AV} {v:Value} (h:LeF x y) (hr:RV S w m yv x v):RV S w m yv y v:=by
 cases h with
 |v h=>exact h.rv hr
 | nilFull h=>
   have:=isNilSlice_spec h hr
   subst this
   exact RV.full (xs:= []) (.nil _)
theorem FCall.ofWF {f:Nat} {fn:Func} {c:Code} {args:List AV} {x:AV} (hf:P.funcs[f]? =some fn) (hb:fn.body=some c) (hn:(fn.name== "runtime.NumGoroutine")=false) (hargs:args.map Zcx=args) (hfro:hp1.all (fun b=> !b.fro)=true)
   (hW:∀(Ev:Env P) (b:Ev.β),W Ev c ⟨startTm fn args, [],b⟩ (FnPost P fn fun y hp _=>LeF y x∧hp=hp1)):FCall P f args x hp1:=by
 refine ⟨enter_ok hf hb hn,fun S w vs hl hvs hlt hgl=> ?_⟩
 have hrel:Rel S (fun b _=>b<w.heap.size) none w [] (args.zip vs++([]++cellPairs [] [])) [] []:=by
   have h0:Rel S (fun b _=>b<w.heap.size) none w [] [] [] []:=⟨fun b i h=>h.elim (hlt b i) id,by simp,List.Pairwise.nil,by simp,by simp,by simp,rfl,rfl,by simp,hgl⟩
   have:=h0.pushAll (args.zip vs) (fun p hp=>by
     obtain ⟨j,hj⟩:=Zak.1 hp
     rw [Zaq] at hj
     refine ⟨hvs j p.1 p.2 hj.1 hj.2, ?_⟩
     have hp1:p.1.view=p.1:=by
       have h1:(args.map Zcx)[j]? =some p.1.view:=by simp [hj.1]
       rw [hargs,hj.1] at h1;exact (Option.some.inj h1).symm
     obtain ⟨p1,p2⟩:=p
     simp only at hp1
     rw [←hp1];exact ownB_view _ _)
   simpa [cellPairs] using this
 refine calls_of_W (Ev:=Env.none P none) (V:=fun _ _=>False) (b:=(():Unit)) hf hb hl (hW (Env.none P _) (():Unit)) hrel (fun _ _ h=>h.elim) trivial (Nat.zero_le _) ?_
 intro y S' X' V' w' m' hv' hp' v b' hy htr0 hxs hm hr _ hyv
 obtain ⟨hle,rfl⟩:=hy
 have htr:Tr (fun b i=>¬b<w.heap.size) (fun _=>False) S w S' w':=htr0.mono (fun b i h=>h.resolve_right id) (fun _ h=>h)
 have hr':Rel S' X' none w' m' (cellPairs hp' hv') hp' hv':=by
   have h0:=hr
   simp only [List.nil_append] at h0
   exact h0
 refine ⟨v,S',m',hv',rfl,below_of_tr htr (fun b i hb hz=>hz hb) (fun _ h=>h),htr.up,fun b i hs=> ?_,fun p hp=> ?_,(hr'.lessX hxs).cons (hle.rv hyv).view (ownB_view _ _)⟩
 · rcases htr.new b i hs with h1|h1|h1
   · exact .inl h1
   · exact .inr ⟨Nat.le_of_not_lt h1,htr.lt b i hs⟩
   · exact .inr ⟨h1,htr.lt b i hs⟩
 · obtain ⟨g,hg⟩:=Zak.1 hp
   have hr2:Rel S' X' none w' m' (([]:List (AV×Value))++cellPairs hp' hv') hp' hv':=hr'
   obtain ⟨blk,us,cur,e,g1,g2,g3,g4,g5,g6,g7,g8,g9,g10,g11,g12⟩:=hr2.block hg
   have hfr:blk.fro=false:=by
     have:=List.all_eq_true.1 hfro blk (Zbb g1)
     simpa using this
   exact Nat.le_of_not_lt fun hb=>(g11 hfr 0).2 (hxs _ _ hb)
theorem FCall.ofFnF {f n:Nat} {fn:Func} {args:List AV} {x:AV} {hp1:List Blk} {T:List (Nat×(List AV→(AV→Prop)→Prop))} {U:List (Nat×(List AV→List Blk→(AV→List Blk→Prop)→Prop))} {u:Bool} (wl:∀β:Type,WLT β) (hm:P.follows .mixedOrders=true)
   (hT:CallsOk P T) (hS:SCallsOk P U) (hwl:∀Ev:Env P,∀c tm hp b K,wl Ev.β c tm hp b K→W Ev c ⟨tm,hp,b⟩ (fun e s=>K e s.tm s.hp s.b)) (hf:P.funcs[f]? =some fn) (hn:(fn.name== "runtime.NumGoroutine")=false) (hargs:args.map Zcx=args) (hfro:hp1.all (fun b=> !b.fro)=true)
   (h:∀(Ev:Env P) (b:Ev.β),wpFnS P ⟨T,U,wl Ev.β,Ev.Y,u⟩ n fn args b fun y hp _=>LeF y x∧hp=hp1):FCall P f args x hp1:=by
 cases hb:fn.body with
 | none=>
   have:=h (Env.none P none) (():Unit)
   simp only [wpFnS,hb] at this
 | some c=>
   refine FCall.ofWF hf hb hn hargs hfro fun Ev b=> ?_
   have h1:=h Ev b
   simp only [wpFnS,hb] at h1
   exact wpc_sound hm (CX.Ok.ofWl hT hS (hwl Ev)) h1 fun e tm hp b hK=>fnKS_sound hK
theorem SCallsOk.cons {P:Program} {k:Nat} {f:List AV→List Blk→(AV→List Blk→Prop)→Prop} {T:List (Nat×(List AV→List Blk→(AV→List Blk→Prop)→Prop))} (h:∀args hp K,f args hp K→∃x hp',SCall P k args hp x hp'∧K x hp') (hT:SCallsOk P T):SCallsOk P ((k,f)::T):=by
 intro j g hj
 simp only [List.lookup] at hj
 split at hj
 · rename_i he
   have:j=k:=by simpa using he
   subst this
   cases hj;exact h
 · exact hT j g hj
end
def blkG (cs:List AV) (v:Nat):Blk:=⟨cs,false,true,v⟩
def cellV (x:AV):Blk:=⟨[x],false,false,0⟩
def nilV:AV:= .d (.s (.slice none 0 0))
theorem flatA_bytes:∀q:List Int,flatA (bytesR q)=q.map fun x=>Zae (u8 x)
 | []=>rfl
 | a::q=>by
   rw [show bytesR (a::q)= [u8 a]::bytesR q from rfl]
   have ih:=flatA_bytes q
   simp only [flatA,List.flatten_cons,List.map_append] at ih ⊢
   rw [ih];rfl
theorem flatA_app (xs ys:List (List Dv)):flatA (xs++ys)=flatA xs++flatA ys:=by simp [flatA]
def CloneF (P:Program) (f k:Nat):Prop:=∀xs:List (List Dv),xs.length≤1000000→FCall P f [.d (.sl k xs)] (if xs.isEmpty then .full k [] else .gref 0 0 xs.length k) (if xs.isEmpty then [] else [blkG (flatA xs) 0])
def sClone (k:Nat) (args:List AV) (hp:List Blk) (K:AV→List Blk→Prop):Prop:=∃(xs:List (List Dv)),args= [.d (.sl k xs)]∧xs.length≤1000000∧BIf xs.isEmpty (K (.full k []) hp) (K (.gref hp.length 0 xs.length k) (hp++ [blkG (flatA xs) 0]))
theorem CloneF.toS {P:Program} {f k:Nat} (h:CloneF P f k):∀args hp K,sClone k args hp K→∃x hp',SCall P f args hp x hp'∧K x hp':=by
 rintro _ hp K ⟨xs,rfl,hl,hK⟩
 have h1:=(h xs hl).toS rfl hp
 cases he:xs.isEmpty with
 | true=>
   rw [he] at h1 hK
   exact ⟨_,_,h1,by simpa [shift,shiftH,BIf] using hK⟩
 | false=>
   rw [he] at h1 hK
   exact ⟨_,_,h1,by simpa [shift,shiftH,shiftB,blkG,shifts_flatA,BIf] using hK⟩
theorem LeH.at {p q:List AV} {f g:Bool} {v:Nat} (pre post:List Blk) (h:LeL p q):LeH (pre++⟨p,f,g,v⟩::post) (pre++⟨q,f,g,v⟩::post):=by
 induction pre with
 |nil=>exact .cons h (LeH.refl _)
 |cons a pre ih=>obtain ⟨c,x,y,z⟩:=a;exact .cons (LeL.refl _) ih
theorem four {α:Type} {l:List α} {x:α} (h:l[3]? =some x):∃a b c J,l= [a,b,c,x]++J:=by
 match l,h with
 |a::b::c::d::J,h=>simp at h;subst h;exact ⟨a,b,c,J,rfl⟩
theorem WR.scan {P:Program} {Ev:Env P} {X:CX Ev.β} {lp:Code} {b:Ev.β} {Q:Exit→St Ev.β→Prop} {k:Nat} (keep:List Nat) (hm:P.follows .mixedOrders=true) (hX:X.Ok) (n:Nat) (test:Nat→Bool) (tmOf tmR:Nat→List AV) (hp:List Blk) (id:Nat)
   (hr:∀i,i<n→∀K:Exit→List AV→List Blk→Ev.β→Prop,(test i=true→K .ret (tmR i) hp b)→(test i=false→K .normal (tmOf (i+1)) hp b)→wpc P X k lp (tmOf i) hp b (maskT keep K))
   (he:∀K:Exit→List AV→List Blk→Ev.β→Prop,K (.exit id) (tmOf n) hp b→wpc P X k lp (tmOf n) hp b (maskT keep K))
   (h1:(List.range n).any test=false→Q (.exit id) ⟨tmOf n,hp,b⟩) (h2:(List.range n).any test=true→∀i,Q .ret ⟨tmR i,hp,b⟩):WR Ev lp (n+1) ⟨tmOf 0,hp,b⟩ Q:=by
 have key:∀(m i:Nat),i+m=n→(∀j,j<i→test j=false)→WR Ev lp (m+1) ⟨tmOf i,hp,b⟩ Q:=by
   intro m
   induction m with
   | zero=>
     intro i hi hj
     have:i=n:=by omega
     subst this
     refine WR.ofMaskT keep hm hX (he _ (h1 ?_))
     rw [List.any_eq_false]
     intro j hj'
     rw [List.mem_range] at hj'
     rw [hj j hj'];simp
   | succ m ih=>
     intro i hi hj
     refine WR.ofMaskT keep hm hX (hr i (by omega) _ (fun ht=>h2 ?_ i) fun hf=>ih (i+1) (by omega) fun j hj'=> ?_)
     · rw [List.any_eq_true]
       exact ⟨i,List.mem_range.2 (by omega),ht⟩
     · by_cases h:j=i
       · rw [h];exact hf
       · exact hj j (by omega)
 exact key n 0 (by omega) fun j hj=>by omega
theorem any_ne {a b:List Int} (hl:a.length=b.length):(List.range a.length).any (fun i=>nth a i !=nth b i)= !decide (a=b):=by
 cases h:decide (a=b) with
 | true=>
   have:=of_decide_eq_true h
   subst this
   rw [List.any_eq_false.2]
   · rfl
   · intro i _;simp
 | false=>
   have hne:=of_decide_eq_false h
   rw [List.any_eq_true.2]
   · rfl
   · apply Classical.byContradiction
     intro hc
     apply hne
     apply List.ext_getElem hl
     intro i h1 h2
     apply Classical.byContradiction
     intro hne2
     refine hc ⟨i,List.mem_range.2 h1, ?_⟩
     simp [nth,h1,h2,hne2]
def nthL {α:Type} (p:List (List α)) (i:Nat):List α:=p.getD i []
def lessC (c:List AV→(AV→Prop)→Prop) (args:List AV) (K:AV→Prop):Prop:=∃args':List AV,LeVs args args'∧c args' K
theorem lessC_ok {P:Program} {f:Nat} {c:List AV→(AV→Prop)→Prop} (h:∀args K,c args K→∃x,PCall P f args x∧K x):∀args K,lessC c args K→∃x,PCall P f args x∧K x:=by
 rintro args K ⟨args',hl,hc⟩
 obtain ⟨x,hp,hK⟩:=h args' K hc
 exact ⟨x,hp.leArgsV hl,hK⟩
def plain1:AV→Bool
 | .d (.s _)=>true
 |_=>false
def plainA:AV→Bool
 | .d (.s _)=>true
 | .tup cs=>cs.all plain1
 |_=>false
section
variable {P:Program} {S S' X:Pr} {yv yv':Option Nat} {w w':World} {m m':List MB} {B:List (AV×Value)} {hp:List Blk} {hv:List (List Value)}
theorem RV.plain1 {x:AV} {v:Value} (hx:plain1 x=true) (h:RV S w m yv x v):RV S' w' m' yv' x v:=by
 cases h with
 | d h=>cases h with
   |s v=>exact .d (.s v)
   |sl=>cases hx
   |nil=>cases hx
   |pt=>cases hx
 |_=>cases hx
theorem RV.plain {x:AV} {v:Value} (hx:plainA x=true) (h:RV S w m yv x v):RV S' w' m' yv' x v:=by
 cases h with
 | d h=>cases h with
   |s v=>exact .d (.s v)
   |sl=>cases hx
   |nil=>cases hx
   |pt=>cases hx
 | tup hl h=>
   rename_i cs vs
   simp only [plainA,List.all_eq_true] at hx
   exact .tup hl fun i c v h1 h2=>(h i c v h1 h2).plain1 (hx c (Zbb h1))
 |_=>cases hx
theorem ownB_plain {x:AV} {v:Value} (hx:plainA x=true):ownB (x,v)=none:=by
 cases x<;>first|rfl|cases hx
theorem view_plain {x:AV} (hx:plainA x=true):x.view=x:=by
 cases x<;>first|rfl|cases hx
theorem PCall.borrow {f:Nat} {args args':List AV} {r:AV} (h:PCall P f args' r) (hr:plainA r=true) (hl':args.length=args'.length)
   (hs:∀(i:Nat) (c y:AV),args[i]? =some c→args'[i]? =some y→SealR hp c y):SCall P f args hp r hp:=by
 refine ⟨h.1,fun S X yv w m B hv vs hl hrel=> ?_⟩
 have hr0:Rel S X yv w m (B++cellPairs hp hv) hp hv:=hrel.sub (List.sublist_append_right _ _)
 have hargs:∀(i:Nat) (x:AV) (v:Value),args'[i]? =some x→vs[i]? =some v→RV (withBlocks S m) w [] none x v:=by
   intro i x v h1 h2
   have hi:i<args.length:=by rw [hl'];exact (Zab.1 h1).1
   have h3:args[i]? =some args[i]:=by simp [hi]
   have hm:(args[i],v)∈args.zip vs:=Zak.2 ⟨i,by rw [Zaq];exact ⟨h3,h2⟩⟩
   exact sealR_sound (B:=B) hr0 (fun _ _ h=> .inl h) (hs i _ _ h3 h1) (fun g _ p hp i hi=> .inr ⟨g,p,hp,rfl,hi⟩) (hrel.rv _ (List.mem_append_left _ hm))
 have hlt:∀b i,withBlocks S m b i→b<w.heap.size:=by
   rintro b i (hb|⟨g,p,hg,rfl,hi⟩)
   · exact hrel.lt b i (.inl hb)
   · exact hrel.mLt p (Zbb hg)
 have hgl:Glob (withBlocks S m) w:=fun g j v hv=>by
   obtain ⟨h1,h2,h3⟩:=hrel.gl g j v hv
   exact ⟨.inl h1,h2,h3⟩
 refine CallsIn.mono (h.2 (withBlocks S m) w vs (by rw [←hl',hl]) hargs hlt hgl) ?_
 rintro e w' ⟨v,S',rfl,hb,h1,h2,h3⟩
 refine ⟨v,S,m,hv,rfl,Gs.below hrel hb ⟨fun _ _ h=>h,fun _ _ h=> .inl h⟩, ?_⟩
 rw [view_plain hr] at h3 ⊢
 exact (hr0.below hb (fun _ _ h=>h) (fun _ _ h=> .inl h)).cons (h3.plain hr) (ownB_plain hr)
end
theorem SCall.ofWp {P:Program} {f n:Nat} {fn:Func} {c:Code} {args:List AV} {x:AV} {hp hp':List Blk} {T:List (Nat×(List AV→(AV→Prop)→Prop))} {U:List (Nat×(List AV→List Blk→(AV→List Blk→Prop)→Prop))} {u:Bool} (hm:P.follows .mixedOrders=true)
   (hT:CallsOk P T) (hS:SCallsOk P U) (hf:P.funcs[f]? =some fn) (hb:fn.body=some c) (hn:(fn.name== "runtime.NumGoroutine")=false)
   (h:∀(Ev:Env P) (b:Ev.β),wpc P ⟨T,U,wlW Ev,Ev.Y,u⟩ n c (startTm fn args) hp b (fnKS P fn fun y hp1 _=>y=x∧hp1=hp')):SCall P f args hp x hp':=
 SCall.ofW hf hb hn fun Ev b=>wpc_sound hm (CX.Ok.of hT hS) (h Ev b) fun e tm hp b hK=>fnKS_sound hK
def lendC (c:List AV→(AV→Prop)→Prop) (args:List AV) (hp:List Blk) (K:AV→List Blk→Prop):Prop:=
 sealCs hp args fun args'=>c args' fun x=>BIf (plainA x) (K x hp) False
theorem lendC_ok {P:Program} {f:Nat} {c:List AV→(AV→Prop)→Prop} (hc:∀args K,c args K→∃x,PCall P f args x∧K x):
   ∀args hp K,lendC c args hp K→∃x hp',SCall P f args hp x hp'∧K x hp':=by
 intro args hp K h
 obtain ⟨ys,hl,hs,h1⟩:=sealCs_sound h
 obtain ⟨x,hx,h2⟩:=hc _ _ h1
 obtain ⟨hpl,hK⟩:=h2.elim'
 exact ⟨x,hp,hx.borrow hpl hl hs,hK⟩
theorem WR.steps {P:Program} {Ev:Env P} {c:Code} {Q:Exit→St Ev.β→Prop} {X:CX Ev.β} {k:Nat} (keep:List Nat) (hm:P.follows .mixedOrders=true) (hX:X.Ok) {e:Exit} (he:e≠ .normal) (b:Ev.β) (tm:Nat→List AV) (hp:Nat→List Blk):
   ∀ (n i:Nat),(∀j,i≤j→j<i+n→∀K:Exit→List AV→List Blk→Ev.β→Prop,K .normal (tm (j+1)) (hp (j+1)) b→wpc P X k c (tm j) (hp j) b (maskT keep K))→
     (∀K:Exit→List AV→List Blk→Ev.β→Prop,K e (tm (i+n)) (hp (i+n)) b→wpc P X k c (tm (i+n)) (hp (i+n)) b (maskT keep K))→Q e ⟨tm (i+n),hp (i+n),b⟩→WR Ev c (n+1) ⟨tm i,hp i,b⟩ Q
 |0,i,_,h2,hQ=>WR.ofMaskT keep hm hX (h2 _ (by cases e<;>first|exact absurd rfl he|exact hQ))
 | n+1,i,h1,h2,hQ=>by
   refine WR.ofMaskT keep hm hX (h1 i (Nat.le_refl _) (by omega) _ ?_)
   have e1:i+(n+1)=i+1+n:=by omega
   rw [e1] at h1 h2 hQ
   exact WR.steps keep hm hX he b tm hp n (i+1) (fun j hj hj'=>h1 j (by omega) hj') h2 hQ
theorem WR.stepsM {P:Program} {Ev:Env P} {c:Code} {Q:Exit→St Ev.β→Prop} {X:CX Ev.β} {k m:Nat} (keep:List Nat) (hm:P.follows .mixedOrders=true) (hX:X.Ok) {e:Exit} (he:e≠ .normal) (b:Ev.β) (tm:Nat→List AV) (hp:Nat→List Blk) (hl:∀j,(hp j).length=m):
   ∀ (n i:Nat),(∀j,i≤j→j<i+n→∀K:Exit→List AV→List Blk→Ev.β→Prop,K .normal (tm (j+1)) (hp (j+1)) b→wpc P X k c (tm j) (hp j) b (maskK m keep K))→
     (∀K:Exit→List AV→List Blk→Ev.β→Prop,K e (tm (i+n)) (hp (i+n)) b→wpc P X k c (tm (i+n)) (hp (i+n)) b (maskK m keep K))→Q e ⟨tm (i+n),hp (i+n),b⟩→WR Ev c (n+1) ⟨tm i,hp i,b⟩ Q
 |0,i,_,h2,hQ=>WR.ofMask keep hm hX (by rw [hl];exact h2 _ (by cases e<;>first|exact absurd rfl he|exact hQ))
 | n+1,i,h1,h2,hQ=>by
   have key:∀K:Exit→List AV→List Blk→Ev.β→Prop,K .normal (tm (i+1)) (hp (i+1)) b→wpc P X k c (tm i) (hp i) b (maskK (hp i).length keep K):=by rw [hl];exact h1 i (Nat.le_refl _) (by omega)
   refine WR.ofMask keep hm hX (key _ ?_)
   have e1:i+(n+1)=i+1+n:=by omega
   rw [e1] at h1 h2 hQ
   exact WR.stepsM keep hm hX he b tm hp hl n (i+1) (fun j hj hj'=>h1 j (by omega) hj') h2 hQ
def SemV (x y:AV):Prop:=∀(S:Pr) (w:World) (m:List MB) (yv:Option Nat) (v:Value),RV S w m yv x v→RV S w m yv y v
theorem SemV.rfl {x:AV}:SemV x x:=fun _ _ _ _ _ h=>h
inductive SemVs:List AV→List AV→Prop
 |nil:SemVs [] []
 |cons {x y:AV} {xs ys:List AV} (h:SemV x y) (hs:SemVs xs ys):SemVs (x::xs) (y::ys)
theorem SemVs.len {xs ys:List AV} (h:SemVs xs ys):xs.length=ys.length:=by
 induction h with
 |nil=>rfl
 |cons _ _ ih=>simp [ih]
theorem SemVs.at {xs ys:List AV} (h:SemVs xs ys):∀(i:Nat) (x y:AV),xs[i]? =some x→ys[i]? =some y→SemV x y:=by
 induction h with
 |nil=>intro i x y h;simp at h
 | cons h _ ih=>
   intro i x y h1 h2
   cases i with
   |zero=>simp at h1 h2;subst h1;subst h2;exact h
   |succ i=>exact ih i x y (by simpa using h1) (by simpa using h2)
theorem PCall.semArgs {P:Program} {f:Nat} {args args':List AV} {x:AV} (h:SemVs args args') (hp:PCall P f args' x):PCall P f args x:=by
 refine ⟨hp.1,fun S w vs hl hvs hlt hgl=>hp.2 S w vs (h.len▸hl) (fun i y v h1 h2=> ?_) hlt hgl⟩
 have hi:=(Zab.1 h1).1
 have hi':i<args.length:=h.len▸hi
 exact h.at i _ y (Zbk hi') h1 _ _ _ _ _ (hvs i _ v (Zbk hi') h2)
def semC (c:List AV→(AV→Prop)→Prop) (args:List AV) (K:AV→Prop):Prop:=∃args':List AV,SemVs args args'∧c args' K
theorem semC_ok {P:Program} {f:Nat} {c:List AV→(AV→Prop)→Prop} (hc:∀args K,c args K→∃x,PCall P f args x∧K x):∀args K,semC c args K→∃x,PCall P f args x∧K x:=by
 rintro args K ⟨args',hl,h⟩
 obtain ⟨x,hx,h2⟩:=hc _ _ h
 exact ⟨x,hx.semArgs hl,h2⟩
inductive CellLe:Dv→Dv→Prop
 |rfl {c:Dv}:CellLe c c
 |nil {k:Nat}:CellLe (.s (.slice none 0 0)) (.sl k [])
inductive CellLes:List Dv→List Dv→Prop
 |nil:CellLes [] []
 |cons {x y:Dv} {xs ys:List Dv} (h:CellLe x y) (hs:CellLes xs ys):CellLes (x::xs) (y::ys)
inductive RowLes:List (List Dv)→List (List Dv)→Prop
 |nil:RowLes [] []
 |cons {x y:List Dv} {xs ys:List (List Dv)} (h:CellLes x y) (hs:RowLes xs ys):RowLes (x::xs) (y::ys)
theorem CellLe.dr {S:Pr} {w:World} {c d:Dv} {v:Value} (h:CellLe c d) (hr:DR S w c v):DR S w d v:=by
 cases h with
 |rfl=>exact hr
 | nil=>cases hr with
   |s=>exact .nil _
theorem CellLes.len {xs ys:List Dv} (h:CellLes xs ys):xs.length=ys.length:=by
 induction h with
 |nil=>rfl
 |cons _ _ ih=>simp [ih]
theorem CellLes.at {xs ys:List Dv} (h:CellLes xs ys):∀(i:Nat) (y:Dv),ys[i]? =some y→∃x,xs[i]? =some x∧CellLe x y:=by
 induction h with
 |nil=>intro i y h;simp at h
 | cons h _ ih=>
   intro i y h1
   cases i with
   |zero=>simp at h1;subst h1;exact ⟨_,by simp,h⟩
   |succ i=>simpa using ih i y (by simpa using h1)
theorem RowLes.len {xs ys:List (List Dv)} (h:RowLes xs ys):xs.length=ys.length:=by
 induction h with
 |nil=>rfl
 |cons _ _ ih=>simp [ih]
theorem RowLes.at {xs ys:List (List Dv)} (h:RowLes xs ys):∀(i:Nat) (y:List Dv),ys[i]? =some y→∃x,xs[i]? =some x∧CellLes x y:=by
 induction h with
 |nil=>intro i y h;simp at h
 | cons h _ ih=>
   intro i y h1
   cases i with
   |zero=>simp at h1;subst h1;exact ⟨_,by simp,h⟩
   |succ i=>simpa using ih i y (by simpa using h1)
theorem RowLes.dr {S:Pr} {w:World} {k:Nat} {xs ys:List (List Dv)} {v:Value} (h:RowLes xs ys) (hr:DR S w (.sl k xs) v):DR S w (.sl k ys) v:=by
 have hlen:=h.len
 have two:∀(i:Nat) (row:List Dv) (j:Nat) (c:Dv),ys[i]? =some row→row[j]? =some c→∃row' c',xs[i]? =some row'∧row'[j]? =some c'∧CellLe c' c:=by
   intro i row j c h1 h2
   obtain ⟨row',g1,g2⟩:=h.at i row h1
   obtain ⟨c',g3,g4⟩:=g2.at j c h2
   exact ⟨row',c',g1,g3,g4⟩
 cases hr with
 | sl _ _ a cap vals hk hs hc hr h1 hcap hsp=>
   rw [hlen]
   refine .sl k ys a cap vals (fun i row g=> ?_) (fun i row j c g g'=> ?_) (fun i row j c g g'=> ?_) (fun i row j c g g'=> ?_) (fun i row j c g g'=> ?_) (hlen▸hcap) ?_
   · obtain ⟨row',g1,g2⟩:=h.at i row g
     rw [←g2.len];exact hk i row' g1
   · obtain ⟨r',c',g1,g2,g3⟩:=two i row j c g g';exact hs i r' j c' g1 g2
   · obtain ⟨r',c',g1,g2,g3⟩:=two i row j c g g';exact hc i r' j c' g1 g2
   · obtain ⟨r',c',g1,g2,g3⟩:=two i row j c g g';exact g3.dr (hr i r' j c' g1 g2)
   · obtain ⟨r',c',g1,g2,g3⟩:=two i row j c g g';exact h1 i r' j c' g1 g2
   · rcases hsp with h'|h'|h'
     · exact .inl h'
     · exact .inr (.inl h')
     · subst h';exact .inr (.inr (List.length_eq_zero_iff.1 (by rw [←hlen];rfl)))
 | nil=>
   have:ys= []:=List.length_eq_zero_iff.1 (by rw [←hlen];rfl)
   subst this;exact .nil k
theorem SemV.rows {k:Nat} {xs ys:List (List Dv)} (h:RowLes xs ys):SemV (.full k xs) (.d (.sl k ys)):=by
 intro S w m yv v hr
 cases hr with
 |full hd=>exact .d (h.dr hd)
end Go.Proofs.YtibhflogmbfpcaaGreatDoor.Am
namespace Go.Proofs.YtibhflogmbfpcaaGreatDoor.Am
open Go Go.RowKit Go.Proofs Tryz
open AV renaming bad → Zaz, d → Zae, ptr → Zbf, view → Zcx
open _root_.Array renaming getElem?_eq_some_iff → Zah
open BIf renaming of → Zar
open BitVec renaming ofInt → Zao
open Bool renaming and_eq_true → Zam, false_eq_true → Zcg
open Dv renaming sl → Zal
open Int renaming fdiv → Zcy, toNat → Zat
open Go.IntKind renaming i64 → Zax, u8 → Zcw, wrap → Zaa
open List renaming getElem?_eq_getElem → Zbk, getElem?_eq_some_iff → Zab, getElem?_take → Zas, getElem?_zip_eq_some → Zaq, length → Zac, mem_cons_of_mem → Zaw, mem_cons_self → Zay, mem_iff_getElem? → Zak, mem_of_getElem? → Zbb, replicate → Zad
open Nat renaming le_trans → Zbx
open Prod renaming fst → Zdq
open Go.Value renaming func → Zcj, slice → Zbn
open AV (bad)
theorem mixed:Tryz.prog.follows .mixedOrders=true:=by kernel_rfl
set_option linter.unusedVariables false
set_option maxRecDepth 20000
def rowA (m:Int) (b:List Int):AV:= .agg [.d (i64 m), .d (.sl 1 (bytesR b))]
def eqA (m:Int) (p:List Int):AV:= .agg (.d (i64 m)::cells16 p)
def pad (b:List Int):List Int:=(b++Zad 16 0).take 16
def fine (m:Int) (b:List Int):Bool:=decide (m≥1)&&(decide (m<65536)&&((b.length:Int)==16))
def xor8 (a b:Int):Int:=Zaa Zcw ↑((Zao 8 a ^^^ Zao 8 b).toNat)
def xorL (p q:List Int):List Int:=(List.range 16).map fun i=>xor8 (nth p i) (nth q i)
def strOfOps:List Oper→Option ByteArray
 | []=>none
 | o::l=>match o.op with
   | .index _ (.const (.string s)) _=>some s
   |_=>strOfOps l
def strOf:Code→Option ByteArray
 | .region _ ops _=>strOfOps ops.toList
 | .seq x y=>match strOf x with
   |some s=>some s
   |none=>strOf y
 |_=>none
noncomputable def strTab:ByteArray:=((Tryz.f205.body.bind strOf)).getD ByteArray.empty
section
variable {β:Type} (wl:WLT β) (y:YieldT β) (b:β) (R:AV→β→Prop)
theorem f28_nf (m:Int) (xs:List (List Dv)):wpFn prog ⟨[], [],wl,y,true⟩ 100 f90 [.agg [.d (i64 m), .d (.sl 1 xs)]] b R=(
 ∃x0 x1 x2 x3 x4 x5 x6 x7 x8 x9 x10 x11 x12 x13 x14 x15,
 List.map (fun r16=>Zae (List.headD r16 (Dv.s (Value.tuple {toList:= []})))) (List.take (16:Nat) xs)++
       List.drop (min (16:Nat) (Zac xs))
         [Zae (u8 (0:Int)),Zae (u8 (0:Int)),Zae (u8 (0:Int)),Zae (u8 (0:Int)),Zae (u8 (0:Int)),Zae (u8 (0:Int)),Zae (u8 (0:Int)),
           Zae (u8 (0:Int)),Zae (u8 (0:Int)),Zae (u8 (0:Int)),Zae (u8 (0:Int)),Zae (u8 (0:Int)),Zae (u8 (0:Int)),Zae (u8 (0:Int)),
           Zae (u8 (0:Int)),Zae (u8 (0:Int))]=
     [Zae (u8 x0),Zae (u8 x1),Zae (u8 x2),Zae (u8 x3),Zae (u8 x4),Zae (u8 x5),Zae (u8 x6),Zae (u8 x7),Zae (u8 x8),Zae (u8 x9),
       Zae (u8 x10),Zae (u8 x11),Zae (u8 x12),Zae (u8 x13),Zae (u8 x14),Zae (u8 x15)]∧
   BIf (decide (m≥(1:Int)))
     (BIf (decide (m<(65536:Int)))
       (R
         (AV.tup
           [AV.agg
               [Zae (i64 m),Zae (u8 x0),Zae (u8 x1),Zae (u8 x2),Zae (u8 x3),Zae (u8 x4),Zae (u8 x5),Zae (u8 x6),Zae (u8 x7),Zae (u8 x8),
                 Zae (u8 x9),Zae (u8 x10),Zae (u8 x11),Zae (u8 x12),Zae (u8 x13),Zae (u8 x14),Zae (u8 x15)],
             Zae (bo (↑(Zac xs)==(16:Int)))])
         b)
       (R
         (AV.tup
           [AV.agg
               [Zae (i64 m),Zae (u8 x0),Zae (u8 x1),Zae (u8 x2),Zae (u8 x3),Zae (u8 x4),Zae (u8 x5),Zae (u8 x6),Zae (u8 x7),Zae (u8 x8),
                 Zae (u8 x9),Zae (u8 x10),Zae (u8 x11),Zae (u8 x12),Zae (u8 x13),Zae (u8 x14),Zae (u8 x15)],
             Zae (bo false)])
         b))
     (R
       (AV.tup
         [AV.agg
             [Zae (i64 m),Zae (u8 x0),Zae (u8 x1),Zae (u8 x2),Zae (u8 x3),Zae (u8 x4),Zae (u8 x5),Zae (u8 x6),Zae (u8 x7),Zae (u8 x8),
               Zae (u8 x9),Zae (u8 x10),Zae (u8 x11),Zae (u8 x12),Zae (u8 x13),Zae (u8 x14),Zae (u8 x15)],
           Zae (bo false)])
       b)):=by kernel_rfl
theorem f33_nf' (p q:List Int):wpFn prog ⟨[], [],wl,y,true⟩ 100 f96 [.agg (cells16 p), .agg (cells16 q)] b R=R (.agg (cells16 (xorL p q))) b:=by kernel_rfl
theorem f31_nf (m:Int) (p:List Int):wpFn prog ⟨[], [],wl,y,true⟩ 100 f94 [eqA m p] b R=R (.agg [.d (i64 m), .d (.sl 1 (bytesR ((List.range 16).map (nth p))))]) b:=by kernel_rfl
theorem f30_nf (xs:List (List Dv)):wpFn prog ⟨[], [],wl,y,true⟩ 100 f93 [.d (.sl 2 xs)] b R=R (.fn (.func 151) [] [.rptr [.sl 2 xs]]) b:=by kernel_rfl
theorem f41_nf (x:Int):wpFn prog ⟨[], [],wl,y,true⟩ 100 f205 [.d (u64 x)] b R=(
 BIf (decide (x≥(4294967296:Int)))
 (BIf (decide (Zcy x (4294967296:Int)≥(65536:Int)))
   (BIf (decide (Zcy (Zcy x (4294967296:Int)) (65536:Int)≥(256:Int)))
     (BIf (decide ((0:Int)≤Zaa Zcw (Zcy (Zcy (Zcy x (4294967296:Int)) (65536:Int)) (256:Int))))
       (∃c0,
         strTab[Zat (Zaa Zcw (Zcy (Zcy (Zcy x (4294967296:Int)) (65536:Int)) (256:Int)))]? =some c0∧
           R (Zae (i64 (Zaa Zax ((56:Int)+Zaa Zax ↑(UInt8.toNat c0))))) b)
       False)
     (BIf (decide ((0:Int)≤Zaa Zcw (Zcy (Zcy x (4294967296:Int)) (65536:Int))))
       (∃c7,
         strTab[Zat (Zaa Zcw (Zcy (Zcy x (4294967296:Int)) (65536:Int)))]? =some c7∧
           R (Zae (i64 (Zaa Zax ((48:Int)+Zaa Zax ↑(UInt8.toNat c7))))) b)
       False))
   (BIf (decide (Zcy x (4294967296:Int)≥(256:Int)))
     (BIf (decide ((0:Int)≤Zaa Zcw (Zcy (Zcy x (4294967296:Int)) (256:Int))))
       (∃c14,
         strTab[Zat (Zaa Zcw (Zcy (Zcy x (4294967296:Int)) (256:Int)))]? =some c14∧
           R (Zae (i64 (Zaa Zax ((40:Int)+Zaa Zax ↑(UInt8.toNat c14))))) b)
       False)
     (BIf (decide ((0:Int)≤Zaa Zcw (Zcy x (4294967296:Int))))
       (∃c21,
         strTab[Zat (Zaa Zcw (Zcy x (4294967296:Int)))]? =some c21∧
           R (Zae (i64 (Zaa Zax ((32:Int)+Zaa Zax ↑(UInt8.toNat c21))))) b)
       False)))
 (BIf (decide (x≥(65536:Int)))
   (BIf (decide (Zcy x (65536:Int)≥(256:Int)))
     (BIf (decide ((0:Int)≤Zaa Zcw (Zcy (Zcy x (65536:Int)) (256:Int))))
       (∃c28,
         strTab[Zat (Zaa Zcw (Zcy (Zcy x (65536:Int)) (256:Int)))]? =some c28∧
           R (Zae (i64 (Zaa Zax ((24:Int)+Zaa Zax ↑(UInt8.toNat c28))))) b)
       False)
     (BIf (decide ((0:Int)≤Zaa Zcw (Zcy x (65536:Int))))
       (∃c35,
         strTab[Zat (Zaa Zcw (Zcy x (65536:Int)))]? =some c35∧
           R (Zae (i64 (Zaa Zax ((16:Int)+Zaa Zax ↑(UInt8.toNat c35))))) b)
       False))
   (BIf (decide (x≥(256:Int)))
     (BIf (decide ((0:Int)≤Zaa Zcw (Zcy x (256:Int))))
       (∃c42,
         strTab[Zat (Zaa Zcw (Zcy x (256:Int)))]? =some c42∧
           R (Zae (i64 (Zaa Zax ((8:Int)+Zaa Zax ↑(UInt8.toNat c42))))) b)
       False)
     (BIf (decide ((0:Int)≤Zaa Zcw x))
       (∃c49,
         strTab[Zat (Zaa Zcw x)]? =some c49∧
           R (Zae (i64 (Zaa Zax ((0:Int)+Zaa Zax ↑(UInt8.toNat c49))))) b)
       False)))):=by kernel_rfl
end
def nbits (n:Nat):Nat:=if n=0 then 0 else n.log2+1
def lead (m:Int):Int:=(2 ^ m.toNat.log2:Nat)
theorem strTab_all:(List.range 256).map (fun i=>strTab[i]?)=(List.range 256).map (fun i=>some (UInt8.ofNat (nbits i))):=by kernel_rfl
theorem strTab_at {i:Nat} (h:i<256):strTab[i]? =some (UInt8.ofNat (nbits i)):=by
 have:=congrArg (fun l=>l[i]?) strTab_all
 simpa [h] using this
theorem log2_eq {n k:Nat} (h1:2 ^ k≤n) (h2:n<2 ^ (k+1)):n.log2=k:=by
 have h0:n≠0:=by have:=Nat.two_pow_pos k;omega
 have a:=(Nat.le_log2 h0).2 h1
 have b:=(Nat.log2_lt h0).2 h2
 omega
theorem log2_bounds {n:Nat} (h:n≠0):2 ^ n.log2≤n∧n<2 ^ (n.log2+1):=⟨(Nat.le_log2 h).1 (Nat.le_refl _),(Nat.log2_lt h).1 (Nat.lt_succ_self _)⟩
theorem nbits_small {n:Nat} (h:n<256):nbits n≤8:=by
 unfold nbits
 split
 · omega
 · rename_i h0
   have:n.log2<8:=(Nat.log2_lt h0).2 h
   omega
theorem nbits_div {n:Nat} (h:256≤n):nbits n=8+nbits (n / 256):=by
 have h0:n / 256≠0:=by omega
 obtain ⟨h1,h2⟩:=log2_bounds h0
 have:n.log2=(n / 256).log2+8:=by
   refine log2_eq ?_ ?_
   · rw [Nat.pow_add];omega
   · rw [show (n / 256).log2+8+1=((n / 256).log2+1)+8 by omega,Nat.pow_add];omega
 unfold nbits
 rw [if_neg (by omega),if_neg h0];omega
theorem pc41 (x:Int) (h0:0≤x) (h1:x<65536):PCall prog 205 [.d (u64 x)] (.d (i64 (nbits x.toNat))):=by
 refine PCall.ofFn (n:=100) (u:=true) mixed CallsOk.nil SCallsOk.nil func205 (by rfl) (by rfl) fun Ev b=> ?_
 rw [f41_nf]
 refine BIf.f (by simp;omega) (BIf.f (by simp;omega) (Zar (fun h=> ?_) fun h=> ?_))
 · have h:256≤x:=by simpa using h
   have e:Zcy x 256=x / 256:=by rw [Int.fdiv_eq_ediv_of_nonneg _ (by omega)]
   rw [e,wrap_u8 (by omega) (by omega)]
   refine BIf.t (by simp;omega) ⟨_,strTab_at (by omega), ?_⟩
   have e2:(x / 256).toNat=x.toNat / 256:=by omega
   have h3:=nbits_small (n:=x.toNat / 256) (by omega)
   have h4:nbits x.toNat=8+nbits (x.toNat / 256):=nbits_div (by omega)
   rw [e2]
   have e3:(((UInt8.ofNat (nbits (x.toNat / 256))).toNat:Nat):Int)=nbits (x.toNat / 256):=by
     simp;omega
   rw [e3,wrap_i64 (x:=(nbits (x.toNat / 256):Int)) (by omega) (by omega),wrap_i64 (by omega) (by omega),h4]
   simp
 · have h:x<256:=by simpa using h
   rw [wrap_u8 (by omega) (by omega)]
   refine BIf.t (by simp;omega) ⟨_,strTab_at (by omega), ?_⟩
   have h3:=nbits_small (n:=x.toNat) (by omega)
   have e3:(((UInt8.ofNat (nbits x.toNat)).toNat:Nat):Int)=nbits x.toNat:=by
     simp;omega
   rw [e3,wrap_i64 (x:=(nbits x.toNat:Int)) (by omega) (by omega),wrap_i64 (by omega) (by omega)]
   simp
def c41 (args:List AV) (K:AV→Prop):Prop:=∃x:Int,args= [.d (u64 x)]∧(0≤x∧x<65536)∧K (.d (i64 (nbits x.toNat)))
theorem c41_ok:∀args K,c41 args K→∃x,PCall prog 205 args x∧K x:=by
 rintro _ K ⟨x,rfl,⟨h0,h1⟩,h⟩;exact ⟨_,pc41 x h0 h1,h⟩
theorem f39_nf {β:Type} (wl:WLT β) (y:YieldT β) (b:β) (R:AV→β→Prop) (x:Int):wpFn prog ⟨[(205,c41)], [],wl,y,true⟩ 100 f152 [.d (u64 x)] b R=
   (∃x':Int, [Zae (u64 x)]= [Zae (u64 x')]∧(0≤x'∧x'<65536)∧R (.d (i64 (nbits x'.toNat))) b):=by kernel_rfl
theorem pc39 (x:Int) (h0:0≤x) (h1:x<65536):PCall prog 152 [.d (u64 x)] (.d (i64 (nbits x.toNat))):=by
 refine PCall.ofFn (n:=100) (u:=true) mixed (CallsOk.cons c41_ok CallsOk.nil) SCallsOk.nil func152 (by rfl) (by rfl) fun Ev b=> ?_
 rw [f39_nf]
 exact ⟨x,rfl,⟨h0,h1⟩,rfl⟩
def c39 (args:List AV) (K:AV→Prop):Prop:=∃x:Int,args= [.d (u64 x)]∧(0≤x∧x<65536)∧K (.d (i64 (nbits x.toNat)))
theorem c39_ok:∀args K,c39 args K→∃x,PCall prog 152 args x∧K x:=by
 rintro _ K ⟨x,rfl,⟨h0,h1⟩,h⟩;exact ⟨_,pc39 x h0 h1,h⟩
theorem f32_nf {β:Type} (wl:WLT β) (y:YieldT β) (b:β) (R:AV→β→Prop) (m:Int) (p:List Int):wpFn prog ⟨[(152,c39)], [],wl,y,true⟩ 100 f95 [eqA m p] b R=
   (∃x:Int, [Zae (u64 (Zaa .u64 m))]= [Zae (u64 x)]∧(0≤x∧x<65536)∧BIf (decide ((nbits x.toNat:Int)<0)) False (R (.d (i64 (Zcy (Zaa .i64 (1*2 ^ min (Zat (nbits x.toNat)) 64)) 2))) b)):=by kernel_rfl
theorem pc32 (m:Int) (p:List Int) (h0:1≤m) (h1:m<65536):PCall prog 95 [eqA m p] (.d (i64 (lead m))):=by
 refine PCall.ofFn (n:=100) (u:=true) mixed (CallsOk.cons c39_ok CallsOk.nil) SCallsOk.nil func95 (by rfl) (by rfl) fun Ev b=> ?_
 rw [f32_nf]
 rw [wrap_u64 (by omega) (by omega)]
 refine ⟨m,rfl,⟨by omega,h1⟩,BIf.f (by simp) ?_⟩
 have hn:m.toNat≠0:=by omega
 have hl:m.toNat.log2<16:=(Nat.log2_lt hn).2 (by omega)
 have e:nbits m.toNat=m.toNat.log2+1:=by unfold nbits;rw [if_neg hn]
 have e2:min (Zat (nbits m.toNat)) 64=m.toNat.log2+1:=by rw [e];omega
 rw [e2]
 have h2:2 ^ m.toNat.log2≤m.toNat:=(log2_bounds hn).1
 have h3:(1:Int)*2 ^ (m.toNat.log2+1)=((2 ^ m.toNat.log2:Nat):Int)*2:=by
   rw [Int.one_mul,Int.pow_succ];simp
 rw [h3]
 unfold lead
 generalize 2 ^ m.toNat.log2=z at h2
 rw [wrap_i64 (by omega) (by omega),Int.fdiv_eq_ediv_of_nonneg _ (by omega)]
 congr 4;omega
def c32 (args:List AV) (K:AV→Prop):Prop:=∃(m:Int) (p:List Int),args= [eqA m p]∧(1≤m∧m<65536)∧K (.d (i64 (lead m)))
theorem c32_ok:∀args K,c32 args K→∃x,PCall prog 95 args x∧K x:=by
 rintro _ K ⟨m,p,rfl,⟨h0,h1⟩,h⟩;exact ⟨_,pc32 m p h0 h1,h⟩
theorem pc33 (p q:List Int):PCall prog 96 [.agg (cells16 p), .agg (cells16 q)] (.agg (cells16 (xorL p q))):=by
 refine PCall.ofFn (n:=100) (u:=true) mixed CallsOk.nil SCallsOk.nil func96 (by rfl) (by rfl) fun Ev b=> ?_
 rw [f33_nf']
def c33 (args:List AV) (K:AV→Prop):Prop:=∃(p q r:List Int),args= [.agg (cells16 p), .agg (cells16 q)]∧r=xorL p q∧K (.agg (cells16 r))
theorem c33_ok:∀args K,c33 args K→∃x,PCall prog 96 args x∧K x:=by
 rintro _ K ⟨p,q,_,rfl,rfl,h⟩;exact ⟨_,pc33 p q,h⟩
theorem pc31 (m:Int) (p:List Int):PCall prog 94 [eqA m p] (rowA m ((List.range 16).map (nth p))):=by
 refine PCall.ofFn (n:=100) (u:=true) mixed CallsOk.nil SCallsOk.nil func94 (by rfl) (by rfl) fun Ev b=> ?_
 rw [f31_nf];rfl
def b16 (p:List Int):List Int:=(List.range 16).map (nth p)
def c31 (args:List AV) (K:AV→Prop):Prop:=∃(m:Int) (p:List Int) (q:List (List Dv)),args= [eqA m p]∧q=bytesR (b16 p)∧K (.agg [.d (i64 m), .d (.sl 1 q)])
theorem c31_ok:∀args K,c31 args K→∃x,PCall prog 94 args x∧K x:=by
 rintro _ K ⟨m,p,_,rfl,rfl,h⟩;exact ⟨_,pc31 m p,h⟩
theorem pad_cells (b:List Int) (z:Dv):(List.map (fun r=>Zae (List.headD r z)) ((bytesR b).take 16))++(cells16 []).drop (min 16 (bytesR b).length)=cells16 (pad b):=by
 have hz:cells16 []=(Zad 16 (0:Int)).map fun x=>Zae (u8 x):=rfl
 have hc:cells16 (pad b)=(pad b).map fun x=>Zae (u8 x):=by
   have hl:(pad b).length=16:=by simp [pad]
   unfold cells16
   apply List.ext_getElem
   · simp [hl]
   · intro i h1 h2
     simp only [List.getElem_map,List.getElem_range,nth]
     rw [List.getD_eq_getElem?_getD,Zbk (by simpa using h2)];rfl
 rw [hz,hc]
 unfold pad bytesR
 rw [List.take_append,←List.map_take,List.map_map,←List.map_drop,List.map_append]
 congr 1
 congr 1
 rw [List.length_map,List.drop_replicate,List.take_replicate]
 congr 1;omega
theorem pc28 (m:Int) (b:List Int):PCall prog 90 [rowA m b] (.tup [eqA m (pad b), .d (bo (fine m b))]):=by
 refine PCall.ofFn (n:=100) (u:=true) mixed CallsOk.nil SCallsOk.nil func90 (by rfl) (by rfl) fun Ev bb=> ?_
 rw [rowA,f28_nf]
 refine ⟨_,_,_,_,_,_,_,_,_,_,_,_,_,_,_,_,pad_cells b _,Zar (fun h1=>Zar (fun h2=> ?_) fun h2=> ?_) fun h1=> ?_⟩
 · have:fine m b=((b.length:Int)==16):=by simp [fine,h1,h2]
   rw [this];simp [bytesR];rfl
 · have:fine m b=false:=by simp [fine,h2]
   rw [this];rfl
 · have:fine m b=false:=by simp [fine,h1]
   rw [this];rfl
def c28 (args:List AV) (K:AV→Prop):Prop:=∃(m:Int) (b:List Int),args= [rowA m b]∧K (.tup [eqA m (pad b), .d (bo (fine m b))])
theorem c28_ok:∀args K,c28 args K→∃x,PCall prog 90 args x∧K x:=by
 rintro _ K ⟨m,p,rfl,h⟩;exact ⟨_,pc28 m p,h⟩
abbrev Row:=Int×List Int
def rowD (r:Row):List Dv:= [i64 r.1, .sl 1 (bytesR r.2)]
def rowsR (l:List Row):List (List Dv):=l.map rowD
def item (r:Row):List AV:= [eqA r.1 (pad r.2), .d (bo (fine r.1 r.2))]
noncomputable def lp38:Code:=inLoop (inBlock (restOf (code f151)))
theorem f38_shape:code f151= .seq (firstOf (code f151)) (.block 0 (.loop lp38)):=by kernel_rfl
def tm38 (xs:List (List Dv)) (n k:Int):List AV:= [.yl, .rptr [.sl 2 xs], .bad, .bad, .bad, .d (.sl 2 xs), .d (i64 n), .d (i64 k)]++Zad 11 .bad
section
variable {β:Type} (wl:WLT β) (y:YieldT β) (b:β) (K:Exit→List AV→List Blk→β→Prop)
theorem f38_0 (xs:List (List Dv)):wpc prog ⟨[(90,c28)], [],wl,y,true⟩ 100 (firstOf (code f151)) (startTm f151 [.yl, .rptr [.sl 2 xs]]) [] b K=K .normal (tm38 xs xs.length 0) [] b:=by kernel_rfl
theorem f38_round (xs:List (List Dv)) (n k:Int):wpc prog ⟨[(90,c28)], [],wl,y,true⟩ 100 lp38 (tm38 xs n k) [] b (maskK 0 [0,1,5,6,7] K)=
   BIf (decide (k<n)) (BIf (true&&decide (0≤k))
     (∃x0 xs1,xs[k.toNat]? =some [i64 x0, .sl 1 xs1]∧∃m b5, [AV.agg [.d (i64 x0), .d (.sl 1 xs1)]]= [rowA m b5]∧
       y b [eqA m (pad b5), .d (bo (fine m b5))] fun c b'=>BIf (!c) (K .ret (tm38 xs n k) [] b') (K .normal (tm38 xs n (Zaa .i64 (k+1))) [] b')) False)
   (K (.exit 0) (tm38 xs n k) [] b):=by kernel_rfl
end
theorem wr38 {Ev:Env prog} {QQ:Ev.β→Prop} (l:List Row) (hl:l.length≤9223372036854775807):∀(rest:List Row) (k:Nat) (b:Ev.β),l.drop k=rest→YList Ev.Y (rest.map item) b QQ→
   WR Ev lp38 (rest.length+1) ⟨tm38 (rowsR l) l.length k, [],b⟩ (fun e s=>(e= .exit 0∨e= .ret)∧QQ s.b)
 | [],k,b,hd,hY=>by
   refine WR.ofMask [0,1,5,6,7] mixed (CX.Ok.of (u:=true) (CallsOk.cons c28_ok CallsOk.nil) SCallsOk.nil) (k:=100) ?_
   show wpc _ _ _ _ _ _ _ (maskK 0 _ _)
   rw [f38_round]
   have:l.length≤k:=List.drop_eq_nil_iff.1 hd
   exact BIf.f (by simpa using this) ⟨.inl rfl,hY⟩
 | r::rest,k,b,hd,hY=>by
   refine WR.ofMask [0,1,5,6,7] mixed (CX.Ok.of (u:=true) (CallsOk.cons c28_ok CallsOk.nil) SCallsOk.nil) (k:=100) ?_
   show wpc _ _ _ _ _ _ _ (maskK 0 _ _)
   rw [f38_round]
   have hk:k<l.length:=by
     rcases Nat.lt_or_ge k l.length with h|h
     · exact h
     · rw [List.drop_eq_nil_of_le h] at hd;cases hd
   have hr:l[k]? =some r:=by
     have:=congrArg (fun x=>x[0]?) hd
     simpa using this
   have hd':l.drop (k+1)=rest:=by
     have:=congrArg List.tail hd
     simpa using this
   refine BIf.t (by simpa using hk) (BIf.t (by simp) ⟨r.1,bytesR r.2,by simp [rowsR,hr,rowD],r.1,r.2,rfl, ?_⟩)
   simp only [List.map_cons,YList] at hY
   refine Ev.Ymono hY fun c b' h=> ?_
   cases c with
   |false=>exact ⟨.inr rfl,h⟩
   | true=>
     have e:Zaa .i64 ((k:Int)+1)=((k+1:Nat):Int):=by rw [wrap_i64 (by omega) (by omega)];simp
     show WR Ev lp38 _ _ _
     rw [e]
     exact wr38 l hl rest (k+1) b' hd' h
theorem ic38 (l:List Row) (hl:l.length≤9223372036854775807):ICall prog 151 [.yl, .rptr [.sl 2 (rowsR l)]] (fun Y b Q=>YList Y (l.map item) b Q):=by
 refine ICall.ofW (c:=code f151) func151 (by rfl) (by rfl) fun Ev b Q hQ=> ?_
 rw [f38_shape]
 refine W.seq (wpc_sound mixed (CX.Ok.of (u:=true) (CallsOk.cons c28_ok CallsOk.nil) SCallsOk.nil) (n:=100) ((f38_0 ..).symm▸ ?_) (fun e tm hp b h=>h))
 rw [show (((rowsR l).length:Nat):Int)=(l.length:Int) by simp [rowsR]]
 refine W.block (W.mono (W.rounds (wr38 l hl l 0 b rfl hQ)) fun e s h=> ?_)
 obtain ⟨rfl|rfl,h⟩:=h
 · exact ⟨.inr rfl, [],rfl,h⟩
 · exact ⟨.inl rfl, [],rfl,h⟩
theorem pc30 (xs:List (List Dv)):PCall prog 93 [.d (.sl 2 xs)] (.fn (.func 151) [] [.rptr [.sl 2 xs]]):=by
 refine PCall.ofFn (n:=100) (u:=true) mixed CallsOk.nil SCallsOk.nil func93 (by rfl) (by rfl) fun Ev bb=> ?_
 rw [f30_nf]
def c30 (args:List AV) (K:AV→Prop):Prop:=∃xs,args= [.d (.sl 2 xs)]∧K (.fn (.func 151) [] [.rptr [.sl 2 xs]])
theorem c30_ok:∀args K,c30 args K→∃x,PCall prog 93 args x∧K x:=by
 rintro _ K ⟨xs,rfl,h⟩;exact ⟨_,pc30 xs,h⟩
def and64 (a b:Int):Int:=Zaa .i64 ((Zao 64 a&&&Zao 64 b).toNat:Nat)
def or64 (a b:Int):Int:=Zaa .i64 ((Zao 64 a|||Zao 64 b).toNat:Nat)
def xor64 (a b:Int):Int:=Zaa .i64 ((Zao 64 a ^^^ Zao 64 b).toNat:Nat)
def bq (m:Int) (p:List Int):Blk:=⟨.d (i64 m)::cells16 p,false,false,0⟩
abbrev okMask (r:Row):Prop:=1≤r.1∧r.1<65536
def red (x:Row) (r:Row):Row:=if and64 x.1 (lead r.1) !=0 then (xor64 x.1 r.1,xorL x.2 (pad r.2)) else x
noncomputable def rf29:Code:=sub [1,0,1,2] (code f92)
theorem rf29_shape:rf29= .rangeFunc (.tmp 7) #[8,9] (assignOf rf29) (bodyOf rf29):=by kernel_rfl
def tm29 (xs:List (List Dv)):List AV:= [.bad, .bad, .bad, .ptr 0 0, .ptr 1 0, .bad, .bad, .fn (.func 151) [] [.rptr [.sl 2 xs]]]++Zad 20 .bad
abbrev T29:List (Nat×(List AV→(AV→Prop)→Prop)):= [(93,c30),(95,c32),(96,c33)]
theorem T29_ok:CallsOk prog T29:=CallsOk.cons c30_ok (CallsOk.cons c32_ok (CallsOk.cons c33_ok CallsOk.nil))
def wl29 {β:Type}:WLT β:=fun c tm hp b K=>∃(l:List Row) (x:Row),c=rf29∧maskTm [3,4,7] 0 tm=tm29 (rowsR l)∧hp= [bq x.1 x.2,bq 0 []]∧((∀r∈l,okMask r)∧l.length≤9223372036854775807)∧
 K .normal (tm29 (rowsR l)) [bq (l.foldl red x).1 (l.foldl red x).2,bq 0 []] b
section
variable {β:Type} (wl:WLT β) (y:YieldT β) (b:β) (R:AV→β→Prop) (Kh:Exit→List Blk→β→Prop)
theorem f29_round (xs:List (List Dv)) (m m0:Int) (p p0:List Int) (f:Bool):wpcY prog ⟨T29, [],wl,y,false⟩ 100 #[8,9] (assignOf rf29) (bodyOf rf29) (tm29 xs) [eqA m p, .d (bo f)] [bq m0 p0,bq 0 []] b (takeK 2 Kh)=
   (∃m1 p1, [eqA m p]= [eqA m1 p1]∧(1≤m1∧m1<65536)∧BIf (and64 m0 (lead m1) !=0)
     (∃p2 q3 r4, [AV.agg (cells16 p0), .agg (cells16 p)]= [.agg (cells16 p2), .agg (cells16 q3)]∧r4=xorL p2 q3∧Kh .normal [bq (xor64 m0 m) r4,bq 0 []] b) (Kh .normal [bq m0 p0,bq 0 []] b)):=by kernel_rfl
theorem f29_nf (xs:List (List Dv)) (m:Int) (p:List Int):wpFn prog ⟨T29, [],wl29,y,false⟩ 100 f92 [.d (.sl 2 xs),eqA m p] b R=
   (∃xs0, [Zae (.sl 2 xs)]= [Zae (.sl 2 xs0)]∧∃(l:List Row) (x:Row),rf29=rf29∧tm29 xs0=tm29 (rowsR l)∧ [bq m p,bq 0 []]= [bq x.1 x.2,bq 0 []]∧((∀r∈l,okMask r)∧l.length≤9223372036854775807)∧
     R (eqA (l.foldl red x).1 (l.foldl red x).2) b):=by kernel_rfl
end
theorem range29 {Ev:Env prog} {b:Ev.β} {Q:Exit→St Ev.β→Prop} (xs:List (List Dv)):∀(l:List Row) (x:Row),(∀r∈l,okMask r)→Q .normal ⟨tm29 xs, [bq (l.foldl red x).1 (l.foldl red x).2,bq 0 []],b⟩→
   YList (YBody Ev (tm29 xs) #[8,9] (assignOf rf29) (bodyOf rf29) 2) (l.map item) ([bq x.1 x.2,bq 0 []],b,none) (rangeQ (tm29 xs) Q)
 | [],x,_,h=>h
 | r::l,x,hok,h=>by
   refine YList.step (X:=⟨T29, [],wlW Ev,Ev.Y,false⟩) (k:=100) mixed (CX.Ok.of T29_ok SCallsOk.nil) rfl ?_
   show wpcY _ _ _ _ _ _ _ [eqA _ _, .d (bo _)] [bq _ _,bq 0 []] b (takeK 2 _)
   rw [f29_round]
   refine ⟨r.1,pad r.2,rfl,hok r (Zay ..),Zar (fun hc=>⟨x.2,pad r.2,_,rfl,rfl, ?_⟩) fun hc=> ?_⟩
   · refine range29 xs l (xor64 x.1 r.1,xorL x.2 (pad r.2)) (fun r' hr=>hok r' (Zaw _ hr)) ?_
     have:red x r=(xor64 x.1 r.1,xorL x.2 (pad r.2)):=by unfold red;rw [if_pos hc]
     rw [List.foldl_cons,this] at h;exact h
   · refine range29 xs l x (fun r' hr=>hok r' (Zaw _ hr)) ?_
     have:red x r=x:=by unfold red;rw [if_neg (by simp [hc])]
     rw [List.foldl_cons,this] at h;exact h
theorem wl29_ok {Ev:Env prog} (c:Code) (tm:List AV) (hp:List Blk) (b:Ev.β) (K:Exit→List AV→List Blk→Ev.β→Prop) (h:wl29 c tm hp b K):W Ev c ⟨tm,hp,b⟩ (fun e s=>K e s.tm s.hp s.b):=by
 obtain ⟨l,x,rfl,htm,rfl,hpre,hK⟩:=h
 refine W.cast (htm▸maskTm_le [3,4,7] tm 0) (LeH.refl _) ?_
 rw [rf29_shape]
 exact W.range (s:=⟨tm29 (rowsR l),_,b⟩) (k:=151) (first:= []) (caps:= [.rptr [.sl 2 (rowsR l)]]) rfl rfl rfl (ic38 l hpre.2) (range29 (rowsR l) l x hpre.1 hK)
theorem pc29 (l:List Row) (m:Int) (p:List Int) (h1:∀r∈l,okMask r) (h2:l.length≤9223372036854775807):PCall prog 92 [.d (.sl 2 (rowsR l)),eqA m p] (eqA (l.foldl red (m,p)).1 (l.foldl red (m,p)).2):=by
 refine PCall.ofFnW (n:=100) (u:=false) (fun _=>wl29) mixed T29_ok SCallsOk.nil (fun Ev=>wl29_ok) func92 (by rfl) (by rfl) fun Ev bb=> ?_
 rw [f29_nf]
 exact ⟨_,rfl,l,(m,p),rfl,rfl,rfl,⟨h1,h2⟩,rfl⟩
def c29 (args:List AV) (K:AV→Prop):Prop:=∃(l:List Row) (m:Int) (p:List Int) (x:Row),args= [.d (.sl 2 (rowsR l)),eqA m p]∧((∀r∈l,okMask r)∧l.length≤9223372036854775807)∧x=l.foldl red (m,p)∧K (eqA x.1 x.2)
theorem c29_ok:∀args K,c29 args K→∃x,PCall prog 92 args x∧K x:=by
 rintro _ K ⟨l,m,p,_,rfl,⟨h1,h2⟩,rfl,h⟩;exact ⟨_,pc29 l m p h1 h2,h⟩
abbrev cell (x:Dv):Blk:=⟨[.d x],false,false,0⟩
def vA:List Row→Int×Int→(Int×Int)×Bool
 | [],s=>(s,true)
 |r::l,s=>if fine r.1 r.2&&decide (lead r.1<s.2) then vA l (or64 s.1 (lead r.1),lead r.1) else (s,false)
def vB (L:Int) (l:List Row):Bool:=l.all fun r=>and64 r.1 L==lead r.1
def validS (l:List Row):Bool:=(vA l (0,65536)).2&&vB (vA l (0,65536)).1.1 l
theorem fine_ok {r:Row} (h:fine r.1 r.2=true):okMask r:=by
 simp only [fine,Zam,decide_eq_true_eq] at h
 exact ⟨h.1,h.2.1⟩
theorem vA_ok:∀ {l:List Row} {s:Int×Int},(vA l s).2=true→∀r∈l,fine r.1 r.2=true
 | [],_,_,r,hr=>by cases hr
 | r0::l,s,h,r,hr=>by
   simp only [vA] at h
   split at h
   · rename_i hc
     simp only [Zam] at hc
     rcases List.mem_cons.1 hr with rfl|hr
     · exact hc.1
     · exact vA_ok h r hr
   · cases h
noncomputable def rf20a:Code:=sub [1,1,0,1,2] (code f91)
noncomputable def rf20b:Code:=sub [1,1,1,0,1,2] (code f91)
theorem rf20a_shape:rf20a= .rangeFunc (.tmp 9) #[10,11] (assignOf rf20a) (bodyOf rf20a):=by kernel_rfl
theorem rf20b_shape:rf20b= .rangeFunc (.tmp 26) #[27,28] (assignOf rf20b) (bodyOf rf20b):=by kernel_rfl
def tm20a (xs:List (List Dv)):List AV:= [.d (.sl 2 xs), .bad, .ptr 0 0, .ptr 1 0, .ptr 2 0, .bad, .bad, .bad, .bad, .fn (.func 151) [] [.rptr [.sl 2 xs]]]++Zad 26 .bad
def tm20b (xs:List (List Dv)):List AV:= [.bad, .bad, .ptr 0 0, .ptr 1 0, .ptr 2 0]++Zad 21 .bad++ [.fn (.func 151) [] [.rptr [.sl 2 xs]]]++Zad 9 .bad
def hp20 (v:Bool) (s:Int×Int):List Blk:= [cell (bo v),cell (i64 s.1),cell (i64 s.2)]
def wl20 {β:Type}:WLT β:=fun c tm hp b K=>match cidO c with
 | 4 =>∃(l:List Row) (s:Int×Int),c=rf20a∧maskTm [0,2,3,4,9] 0 tm=tm20a (rowsR l)∧hp=hp20 false s∧l.length≤9223372036854775807∧
     BIf (vA l s).2 (K .normal (tm20a (rowsR l)) (hp20 false (vA l s).1) b) (K .ret (tm20a (rowsR l)) (hp20 false (vA l s).1) b)
 |11=>∃(l:List Row) (s:Int×Int),c=rf20b∧maskTm [2,3,4,26] 0 tm=tm20b (rowsR l)∧hp=hp20 false s∧((∀r∈l,okMask r)∧l.length≤9223372036854775807)∧
     BIf (vB s.1 l) (K .normal (tm20b (rowsR l)) (hp20 false s) b) (K .ret (tm20b (rowsR l)) (hp20 false s) b)
 |_=>False
section
variable {β:Type} (wl:WLT β) (y:YieldT β) (b:β) (R:AV→β→Prop) (Kh:Exit→List Blk→β→Prop)
theorem f20a_round (xs:List (List Dv)) (m:Int) (p:List Int) (f:Bool) (L P:Int):wpcY prog ⟨T29, [],wl,y,false⟩ 100 #[10,11] (assignOf rf20a) (bodyOf rf20a) (tm20a xs) [eqA m p, .d (bo f)] [cell (bo false),cell (i64 L),cell (i64 P)] b (takeK 3 Kh)=(
 BIf (!f) (Kh Exit.ret [cell (bo false),cell (i64 L),cell (i64 P)] b)
 (∃m0 p1,
   [eqA m p]= [eqA m0 p1]∧
     ((1:Int)≤m0∧m0<(65536:Int))∧
       BIf (decide (lead m0≥P)) (Kh Exit.ret [cell (bo false),cell (i64 L),cell (i64 P)] b)
         (∃m2 p3,
           [eqA m p]= [eqA m2 p3]∧
             ((1:Int)≤m2∧m2<(65536:Int))∧
               Kh Exit.normal
                 [cell (bo false),cell (i64 (Zaa Zax ↑(BitVec.toNat (Zao (64:Nat) L|||Zao (64:Nat) (lead m2))))),
                   cell (i64 (lead m2))]
                 b))):=by kernel_rfl
theorem f20b_round (xs:List (List Dv)) (m:Int) (p:List Int) (f:Bool) (L P:Int):wpcY prog ⟨T29, [],wl,y,false⟩ 100 #[27,28] (assignOf rf20b) (bodyOf rf20b) (tm20b xs) [eqA m p, .d (bo f)] [cell (bo false),cell (i64 L),cell (i64 P)] b (takeK 3 Kh)=(
 ∃m0 p1,
 [eqA m p]= [eqA m0 p1]∧
   ((1:Int)≤m0∧m0<(65536:Int))∧
     BIf (Zaa Zax ↑(BitVec.toNat (Zao (64:Nat) m&&&Zao (64:Nat) L)) !=lead m0)
       (Kh Exit.ret [cell (bo false),cell (i64 L),cell (i64 P)] b) (Kh Exit.normal [cell (bo false),cell (i64 L),cell (i64 P)] b)):=by kernel_rfl
theorem f20_nf (xs:List (List Dv)):wpFn prog ⟨T29, [],wl20,y,false⟩ 100 f91 [.d (.sl 2 xs)] b R=(
 ∃xs0,
 [Zae (Zal (2:Nat) xs)]= [Zae (Zal (2:Nat) xs0)]∧
   ∃ l1 s2,
     rf20a=rf20a∧
       [Zae (Zal (2:Nat) xs),bad,Zbf (0:Nat) (0:Nat),Zbf (1:Nat) (0:Nat),Zbf (2:Nat) (0:Nat),bad,bad,bad,bad,
             AV.fn (Fn.func (151:Nat)) [] [AV.rptr [Zal (2:Nat) xs0]],bad,bad,bad,bad,bad,bad,bad,bad,bad,bad,
             Zaz,bad,bad,bad,bad,bad,bad,bad,bad,bad,bad,bad,bad,bad,bad,bad]=
           [Zae (Zal (2:Nat) (rowsR l1)),bad,Zbf (0:Nat) (0:Nat),Zbf (1:Nat) (0:Nat),Zbf (2:Nat) (0:Nat),bad,bad,
             Zaz,bad,AV.fn (Fn.func (151:Nat)) [] [AV.rptr [Zal (2:Nat) (rowsR l1)]],bad,bad,bad,bad,bad,bad,bad,
             Zaz,bad,bad,bad,bad,bad,bad,bad,bad,bad,bad,bad,bad,bad,bad,bad,bad,bad,
             Zaz]∧
         [cell (bo false),cell (i64 (0:Int)),cell (i64 (65536:Int))]= [cell (bo false),cell (i64 (Zdq s2)),cell (i64 (Prod.snd s2))]∧
           Zac l1≤(9223372036854775807:Nat)∧
             BIf (Prod.snd (vA l1 s2))
               (∃xs3,
                 [Zae (Zal (2:Nat) (rowsR l1))]= [Zae (Zal (2:Nat) xs3)]∧
                   ∃ l4 s5,
                     rf20b=rf20b∧
                       [bad, bad,Zbf (0:Nat) (0:Nat),Zbf (1:Nat) (0:Nat),Zbf (2:Nat) (0:Nat),bad,bad,bad,bad,
                             Zaz,bad,bad,bad,bad,bad,bad,bad,bad,bad,bad,bad,bad,bad,bad,bad,
                             Zaz,AV.fn (Fn.func (151:Nat)) [] [AV.rptr [Zal (2:Nat) xs3]],bad,bad,bad,bad,bad,bad,bad,
                             Zaz,bad]=
                           [bad,bad,Zbf (0:Nat) (0:Nat),Zbf (1:Nat) (0:Nat),Zbf (2:Nat) (0:Nat),bad,bad,bad,bad,
                             Zaz,bad,bad,bad,bad,bad,bad,bad,bad,bad,bad,bad,bad,bad,bad,bad,
                             Zaz,AV.fn (Fn.func (151:Nat)) [] [AV.rptr [Zal (2:Nat) (rowsR l4)]],bad,bad,bad,bad,bad,bad,
                             Zaz,bad,bad]∧
                         [cell (bo false),cell (i64 (Zdq (Zdq (vA l1 s2)))),cell (i64 (Prod.snd (Zdq (vA l1 s2))))]=
                             [cell (bo false),cell (i64 (Zdq s5)),cell (i64 (Prod.snd s5))]∧
                           ((∀(r:Row),r∈l4→(1:Int)≤Zdq r∧Zdq r<(65536:Int))∧Zac l4≤(9223372036854775807:Nat))∧
                             BIf (vB (Zdq s5) l4) (R (Zae (bo true)) b) (R (Zae (bo false)) b))
               (R (Zae (bo false)) b)):=by kernel_rfl
end
theorem range20a {Ev:Env prog} {b:Ev.β} {Q:Exit→St Ev.β→Prop} (xs:List (List Dv)):∀(l:List Row) (s:Int×Int),
   BIf (vA l s).2 (Q .normal ⟨tm20a xs,hp20 false (vA l s).1,b⟩) (Q .ret ⟨tm20a xs,hp20 false (vA l s).1,b⟩)→
   YList (YBody Ev (tm20a xs) #[10,11] (assignOf rf20a) (bodyOf rf20a) 3) (l.map item) (hp20 false s,b,none) (rangeQ (tm20a xs) Q)
 | [],s,h=>h
 | r::l,s,h=>by
   refine YList.step (X:=⟨T29, [],wlW Ev,Ev.Y,false⟩) (k:=100) mixed (CX.Ok.of T29_ok SCallsOk.nil) rfl ?_
   show wpcY _ _ _ _ _ _ _ [eqA _ _, .d (bo _)] [cell (bo false),cell (i64 _),cell (i64 _)] b (takeK 3 _)
   rw [f20a_round]
   simp only [vA] at h
   refine Zar (fun hf=> ?_) fun hf=> ?_
   · have hf:fine r.1 r.2=false:=by simpa using hf
     rw [hf] at h;exact h
   · have hf:fine r.1 r.2=true:=by simpa using hf
     have hm:=fine_ok hf
     refine ⟨_,_,rfl,hm,Zar (fun hc=> ?_) fun hc=>⟨_,_,rfl,hm, ?_⟩⟩
     · rw [if_neg (by simp only [ge_iff_le,decide_eq_true_eq] at hc;simp [hf];omega)] at h;exact h
     · rw [if_pos (by simp only [ge_iff_le,decide_eq_false_iff_not] at hc;simp [hf];omega)] at h
       exact range20a xs l (or64 s.1 (lead r.1),lead r.1) h
theorem range20b {Ev:Env prog} {b:Ev.β} {Q:Exit→St Ev.β→Prop} (xs:List (List Dv)) (s:Int×Int):∀(l:List Row),(∀r∈l,okMask r)→
   BIf (vB s.1 l) (Q .normal ⟨tm20b xs,hp20 false s,b⟩) (Q .ret ⟨tm20b xs,hp20 false s,b⟩)→
   YList (YBody Ev (tm20b xs) #[27,28] (assignOf rf20b) (bodyOf rf20b) 3) (l.map item) (hp20 false s,b,none) (rangeQ (tm20b xs) Q)
 | [],_,h=>h
 | r::l,hok,h=>by
   refine YList.step (X:=⟨T29, [],wlW Ev,Ev.Y,false⟩) (k:=100) mixed (CX.Ok.of T29_ok SCallsOk.nil) rfl ?_
   show wpcY _ _ _ _ _ _ _ [eqA _ _, .d (bo _)] [cell (bo false),cell (i64 _),cell (i64 _)] b (takeK 3 _)
   rw [f20b_round]
   refine ⟨_,_,rfl,hok r (Zay ..),Zar (fun hc=> ?_) fun hc=> ?_⟩
   · change (and64 r.1 s.1 !=lead r.1)=true at hc
     have:vB s.1 (r::l)=false:=by
       simp only [vB,List.all_cons]
       rw [show (and64 r.1 s.1==lead r.1)=false by simpa [bne] using hc];rfl
     rw [this] at h;exact h
   · change (and64 r.1 s.1 !=lead r.1)=false at hc
     refine range20b xs s l (fun r' hr=>hok r' (Zaw _ hr)) ?_
     have:vB s.1 (r::l)=vB s.1 l:=by
       simp only [vB,List.all_cons]
       rw [show (and64 r.1 s.1==lead r.1)=true by simpa [bne] using hc];rfl
     rw [this] at h;exact h
theorem wl20_ok {Ev:Env prog} (c:Code) (tm:List AV) (hp:List Blk) (b:Ev.β) (K:Exit→List AV→List Blk→Ev.β→Prop) (h:wl20 c tm hp b K):W Ev c ⟨tm,hp,b⟩ (fun e s=>K e s.tm s.hp s.b):=by
 unfold wl20 at h
 split at h
 · obtain ⟨l,s,rfl,htm,rfl,hpre,hK⟩:=h
   refine W.cast (htm▸maskTm_le _ tm 0) (LeH.refl _) ?_
   rw [rf20a_shape]
   exact W.range (s:=⟨tm20a (rowsR l),_,b⟩) (k:=151) (first:= []) (caps:= [.rptr [.sl 2 (rowsR l)]]) rfl rfl rfl (ic38 l hpre) (range20a (rowsR l) l s hK)
 · obtain ⟨l,s,rfl,htm,rfl,hpre,hK⟩:=h
   refine W.cast (htm▸maskTm_le _ tm 0) (LeH.refl _) ?_
   rw [rf20b_shape]
   exact W.range (s:=⟨tm20b (rowsR l),_,b⟩) (k:=151) (first:= []) (caps:= [.rptr [.sl 2 (rowsR l)]]) rfl rfl rfl (ic38 l hpre.2) (range20b (rowsR l) s l hpre.1 hK)
 · exact h.elim
theorem pc20 (l:List Row) (hl:l.length≤9223372036854775807):PCall prog 91 [.d (.sl 2 (rowsR l))] (.d (bo (validS l))):=by
 refine PCall.ofFnW (n:=100) (u:=false) (fun _=>wl20) mixed T29_ok SCallsOk.nil (fun Ev=>wl20_ok) func91 (by rfl) (by rfl) fun Ev bb=> ?_
 rw [f20_nf]
 refine ⟨_,rfl,l,(0,65536),rfl,rfl,rfl,hl,Zar (fun ha=>⟨_,rfl,l,_,rfl,rfl,rfl,⟨fun r hr=>fine_ok (vA_ok ha r hr),hl⟩,Zar (fun hb=> ?_) fun hb=> ?_⟩) fun ha=> ?_⟩
 · rw [show validS l=true by simp only [validS,ha,hb];rfl]
 · rw [show validS l=false by simp only [validS,ha,hb];rfl]
 · rw [show validS l=false by simp only [validS,ha];rfl]
def c20 (args:List AV) (K:AV→Prop):Prop:=∃(l:List Row),args= [.d (.sl 2 (rowsR l))]∧l.length≤9223372036854775807∧K (.d (bo (validS l)))
theorem c20_ok:∀args K,c20 args K→∃x,PCall prog 91 args x∧K x:=by
 rintro _ K ⟨l,rfl,h1,h⟩;exact ⟨_,pc20 l h1,h⟩
abbrev TS:List (Nat×(List AV→(AV→Prop)→Prop)):= [(91,c20),(90,c28),(92,c29),(93,c30),(94,c31),(95,c32),(96,c33)]
theorem TS_ok:CallsOk prog TS:=CallsOk.cons c20_ok (CallsOk.cons c28_ok (CallsOk.cons c29_ok (CallsOk.cons c30_ok (CallsOk.cons c31_ok (CallsOk.cons c32_ok (CallsOk.cons c33_ok CallsOk.nil))))))
abbrev rowB (m:Int) (bs:List (List Dv)):Blk:=⟨[.d (i64 m), .d (.sl 1 bs)],false,false,0⟩
abbrev acc (xs:List (List Dv)):Blk:=⟨[.own 71 2 xs],false,false,0⟩
noncomputable def rf12a:Code:=sub [1,1,1,1,0,2,1,4,1,0,1,2] (code f32)
noncomputable def rf12b:Code:=sub [1,1,1,1,1,1,1,0,1,2] (code f32)
theorem rf12a_shape:rf12a= .rangeFunc (.tmp 34) #[35,36] (assignOf rf12a) (bodyOf rf12a):=by kernel_rfl
theorem rf12b_shape:rf12b= .rangeFunc (.tmp 48) #[49,50] (assignOf rf12b) (bodyOf rf12b):=by kernel_rfl
def tm12a (xs:List (List Dv)):List AV:=Zad 9 .bad++ [.ptr 2 0]++Zad 24 .bad++ [.fn (.func 151) [] [.rptr [.sl 2 xs]]]++Zad 60 .bad
def tm12b (xs:List (List Dv)):List AV:=Zad 7 .bad++ [.ptr 1 0, .bad, .bad, .bad, .ptr 2 0, .ptr 3 0]++Zad 35 .bad++ [.fn (.func 151) [] [.rptr [.sl 2 xs]]]++Zad 46 .bad
section
variable {β:Type} (wl:WLT β) (y:YieldT β) (b:β) (Kh:Exit→List Blk→β→Prop)
theorem f12a_round (xs out:List (List Dv)) (m m0:Int) (p p0:List Int) (f:Bool) (m9:Int) (bs9:List (List Dv)):wpcY prog ⟨TS, [],wl,y,false⟩ 100 #[35,36] (assignOf rf12a) (bodyOf rf12a) (tm12a xs) [eqA m p, .d (bo f)] [rowB m9 bs9,bq m0 p0,acc out] b (takeK 3 Kh)=(
 ∃m0_1 p1 q2,
 [eqA m p]= [eqA m0_1 p1]∧
   q2=bytesR (b16 p1)∧
     BIf (true&&decide ((Zac out+(1:Nat))*(32:Nat)≤(140737488355328:Nat)))
       (Kh Exit.normal
         [{cells:= [Zae (i64 m9),Zae (Zal (1:Nat) bs9)]},bq m0 p0,
           {cells:= [AV.own (71:Nat) (2:Nat) (out++ [[i64 m0_1,Zal (1:Nat) q2]])]}]
         b)
       False):=by kernel_rfl
theorem f12b_round (xs out:List (List Dv)) (m m0:Int) (p p0:List Int) (f pl:Bool) (m9:Int) (bs9:List (List Dv)):wpcY prog ⟨TS, [],wl,y,false⟩ 100 #[49,50] (assignOf rf12b) (bodyOf rf12b) (tm12b xs) [eqA m p, .d (bo f)] [rowB m9 bs9,bq m0 p0,acc out,cell (bo pl)] b (takeK 4 Kh)=(
 BIf (!pl)
 (∃m0_1 p1,
   [eqA m p]= [eqA m0_1 p1]∧
     ((1:Int)≤m0_1∧m0_1<(65536:Int))∧
       ∃ m2 p3,
         [eqA m0 p0]= [eqA m2 p3]∧
           ((1:Int)≤m2∧m2<(65536:Int))∧
             BIf (decide (lead m0_1<lead m2))
               (∃m4 p5 q6,
                 [eqA m0 p0]= [eqA m4 p5]∧
                   q6=bytesR (b16 p5)∧
                     BIf (true&&decide ((Zac out+(1:Nat))*(32:Nat)≤(140737488355328:Nat)))
                       (∃m7 p8,
                         [eqA m0 p0]= [eqA m7 p8]∧
                           ((1:Int)≤m7∧m7<(65536:Int))∧
                             BIf (Zaa Zax ↑(BitVec.toNat (Zao (64:Nat) m&&&Zao (64:Nat) (lead m7))) !=(0:Int))
                               (∃p9 q10 r11,
                                 [AV.agg (cells16 p),AV.agg (cells16 p0)]= [AV.agg (cells16 p9),AV.agg (cells16 q10)]∧
                                   r11=xorL p9 q10∧
                                     ∃ m12 p13 q14,
                                       [eqA (Zaa Zax ↑(BitVec.toNat (Zao (64:Nat) m ^^^ Zao (64:Nat) m0))) r11]=
                                           [eqA m12 p13]∧
                                         q14=bytesR (b16 p13)∧
                                           BIf
                                             (true&&
                                               decide
                                                 ((Zac (out++ [[i64 m4,Zal (1:Nat) q6]])+(1:Nat))*(32:Nat)≤(140737488355328:Nat)))
                                             (Kh Exit.normal
                                               [{cells:= [Zae (i64 m9),Zae (Zal (1:Nat) bs9)]},bq m0 p0,
                                                 {
                                                   cells:=
                                                     [AV.own (71:Nat) (2:Nat)
                                                         (out++ [[i64 m4,Zal (1:Nat) q6]]++ [[i64 m12,Zal (1:Nat) q14]])]},
                                                 cell (bo true)]
                                               b)
                                             False)
                               (∃m15 p16 q17,
                                 [eqA m p]= [eqA m15 p16]∧
                                   q17=bytesR (b16 p16)∧
                                     BIf
                                       (true&&
                                         decide ((Zac (out++ [[i64 m4,Zal (1:Nat) q6]])+(1:Nat))*(32:Nat)≤(140737488355328:Nat)))
                                       (Kh Exit.normal
                                         [{cells:= [Zae (i64 m9),Zae (Zal (1:Nat) bs9)]},bq m0 p0,
                                           {
                                             cells:=
                                               [AV.own (71:Nat) (2:Nat) (out++ [[i64 m4,Zal (1:Nat) q6]]++ [[i64 m15,Zal (1:Nat) q17]])]},
                                           cell (bo true)]
                                         b)
                                       False))
                       False)
               (∃m18 p19,
                 [eqA m0 p0]= [eqA m18 p19]∧
                   ((1:Int)≤m18∧m18<(65536:Int))∧
                     BIf (Zaa Zax ↑(BitVec.toNat (Zao (64:Nat) m&&&Zao (64:Nat) (lead m18))) !=(0:Int))
                       (∃p20 q21 r22,
                         [AV.agg (cells16 p),AV.agg (cells16 p0)]= [AV.agg (cells16 p20),AV.agg (cells16 q21)]∧
                           r22=xorL p20 q21∧
                             ∃ m23 p24 q25,
                               [eqA (Zaa Zax ↑(BitVec.toNat (Zao (64:Nat) m ^^^ Zao (64:Nat) m0))) r22]=
                                   [eqA m23 p24]∧
                                 q25=bytesR (b16 p24)∧
                                   BIf (true&&decide ((Zac out+(1:Nat))*(32:Nat)≤(140737488355328:Nat)))
                                     (Kh Exit.normal
                                       [{cells:= [Zae (i64 m9),Zae (Zal (1:Nat) bs9)]},bq m0 p0,
                                         {cells:= [AV.own (71:Nat) (2:Nat) (out++ [[i64 m23,Zal (1:Nat) q25]])]},cell (bo pl)]
                                       b)
                                     False)
                       (∃m26 p27 q28,
                         [eqA m p]= [eqA m26 p27]∧
                           q28=bytesR (b16 p27)∧
                             BIf (true&&decide ((Zac out+(1:Nat))*(32:Nat)≤(140737488355328:Nat)))
                               (Kh Exit.normal
                                 [{cells:= [Zae (i64 m9),Zae (Zal (1:Nat) bs9)]},bq m0 p0,
                                   {cells:= [AV.own (71:Nat) (2:Nat) (out++ [[i64 m26,Zal (1:Nat) q28]])]},cell (bo pl)]
                                 b)
                               False)))
 (∃m29 p30,
   [eqA m0 p0]= [eqA m29 p30]∧
     ((1:Int)≤m29∧m29<(65536:Int))∧
       BIf (Zaa Zax ↑(BitVec.toNat (Zao (64:Nat) m&&&Zao (64:Nat) (lead m29))) !=(0:Int))
         (∃p31 q32 r33,
           [AV.agg (cells16 p),AV.agg (cells16 p0)]= [AV.agg (cells16 p31),AV.agg (cells16 q32)]∧
             r33=xorL p31 q32∧
               ∃ m34 p35 q36,
                 [eqA (Zaa Zax ↑(BitVec.toNat (Zao (64:Nat) m ^^^ Zao (64:Nat) m0))) r33]= [eqA m34 p35]∧
                   q36=bytesR (b16 p35)∧
                     BIf (true&&decide ((Zac out+(1:Nat))*(32:Nat)≤(140737488355328:Nat)))
                       (Kh Exit.normal
                         [{cells:= [Zae (i64 m9),Zae (Zal (1:Nat) bs9)]},bq m0 p0,
                           {cells:= [AV.own (71:Nat) (2:Nat) (out++ [[i64 m34,Zal (1:Nat) q36]])]},cell (bo pl)]
                         b)
                       False)
         (∃m37 p38 q39,
           [eqA m p]= [eqA m37 p38]∧
             q39=bytesR (b16 p38)∧
               BIf (true&&decide ((Zac out+(1:Nat))*(32:Nat)≤(140737488355328:Nat)))
                 (Kh Exit.normal
                   [{cells:= [Zae (i64 m9),Zae (Zal (1:Nat) bs9)]},bq m0 p0,
                     {cells:= [AV.own (71:Nat) (2:Nat) (out++ [[i64 m37,Zal (1:Nat) q39]])]},cell (bo pl)]
                   b)
                 False))):=by kernel_rfl
end
theorem rowsR_snoc (out:List Row) (m:Int) (p:List Int):rowsR out++ [[i64 m, .sl 1 (bytesR (b16 p))]]=rowsR (out++ [(m,b16 p)]):=by simp [rowsR,rowD]
theorem rowsR_len (out:List Row):(rowsR out).length=out.length:=by simp [rowsR]
theorem tt32 {n:Nat} (h:n≤1000000):(true&&decide ((n+1)*32≤140737488355328))=true:=by
 rw [decide_eq_true (Zbx (Nat.mul_le_mul_right 32 (Nat.succ_le_succ h)) (by decide))];rfl
def keepR (r:Row):Row:=(r.1,b16 (pad r.2))
theorem range12a {Ev:Env prog} {b:Ev.β} {Q:Exit→St Ev.β→Prop} (xs:List (List Dv)) (m9:Int) (bs9:List (List Dv)) (x:Row):∀(l out:List Row),out.length+l.length≤1000000→
   Q .normal ⟨tm12a xs, [rowB m9 bs9,bq x.1 x.2,acc (rowsR (out++l.map keepR))],b⟩→
   YList (YBody Ev (tm12a xs) #[35,36] (assignOf rf12a) (bodyOf rf12a) 3) (l.map item) ([rowB m9 bs9,bq x.1 x.2,acc (rowsR out)],b,none) (rangeQ (tm12a xs) Q)
 | [],out,_,h=>by simpa [YList,rangeQ] using h
 | r::l,out,hl,h=>by
   refine YList.step (X:=⟨TS, [],wlW Ev,Ev.Y,false⟩) (k:=100) mixed (CX.Ok.of TS_ok SCallsOk.nil) rfl ?_
   show wpcY _ _ _ _ _ _ _ [eqA _ _, .d (bo _)] [rowB _ _,bq _ _,acc _] b (takeK 3 _)
   rw [f12a_round]
   simp only [List.length_cons] at hl
   refine ⟨r.1,pad r.2,_,rfl,rfl,BIf.t (tt32 (by rw [rowsR_len];omega)) ?_⟩
   show YList _ _ ([rowB m9 bs9,bq x.1 x.2,acc (rowsR out++ [[i64 r.1, .sl 1 (bytesR (b16 (pad r.2)))]])],b,none) _
   rw [rowsR_snoc]
   refine range12a xs m9 bs9 x l (out++ [keepR r]) (by simp;omega) ?_
   simpa using h
def stepB (e:Row) (s:List Row×Bool) (r:Row):List Row×Bool:=
 ((if !s.2&&decide (lead r.1<lead e.1) then s.1++ [(e.1,b16 e.2)] else s.1)++ [if and64 r.1 (lead e.1) !=0 then (xor64 r.1 e.1,b16 (xorL (pad r.2) e.2)) else (r.1,b16 (pad r.2))],
  s.2||decide (lead r.1<lead e.1))
set_option maxHeartbeats 4000000 in
theorem range12b {Ev:Env prog} {b:Ev.β} {Q:Exit→St Ev.β→Prop} (xs:List (List Dv)) (m9:Int) (bs9:List (List Dv)) (e:Row) (he:okMask e):∀(l out:List Row) (pl:Bool),(∀r∈l,okMask r)→out.length+2*l.length≤1000000→
   Q .normal ⟨tm12b xs, [rowB m9 bs9,bq e.1 e.2,acc (rowsR (l.foldl (stepB e) (out,pl)).1),cell (bo (l.foldl (stepB e) (out,pl)).2)],b⟩→
   YList (YBody Ev (tm12b xs) #[49,50] (assignOf rf12b) (bodyOf rf12b) 4) (l.map item) ([rowB m9 bs9,bq e.1 e.2,acc (rowsR out),cell (bo pl)],b,none) (rangeQ (tm12b xs) Q)
 | [],out,pl,_,_,h=>h
 | r::l,out,pl,hok,hl,h=>by
   refine YList.step (X:=⟨TS, [],wlW Ev,Ev.Y,false⟩) (k:=100) mixed (CX.Ok.of TS_ok SCallsOk.nil) rfl ?_
   show wpcY _ _ _ _ _ _ _ [eqA _ _, .d (bo _)] [rowB _ _,bq _ _,acc _,cell (bo _)] b (takeK 4 _)
   rw [f12b_round]
   simp only [List.length_cons] at hl
   have hr:=hok r (Zay ..)
   have hok':∀r∈l,okMask r:=fun r' h'=>hok r' (Zaw _ h')
   rw [List.foldl_cons] at h
   have key:∀(out1:List Row) (pl1:Bool),out1.length≤out.length+1→(∀(m:Int) (p:List Int),stepB e (out,pl) r=(out1++ [(m,b16 p)],pl1)→
       YList (YBody Ev (tm12b xs) #[49,50] (assignOf rf12b) (bodyOf rf12b) 4) (l.map item) ([rowB m9 bs9,bq e.1 e.2,acc (rowsR out1++ [[i64 m, .sl 1 (bytesR (b16 p))]]),cell (bo pl1)],b,none) (rangeQ (tm12b xs) Q)):=by
     intro out1 pl1 hlen m p hs
     rw [rowsR_snoc]
     refine range12b xs m9 bs9 e he l (out1++ [(m,b16 p)]) pl1 hok' (by rw [List.length_append,List.length_singleton];omega) ?_
     rw [←hs];exact h
   have hn0:=tt32 (n:=(rowsR out).length) (by rw [rowsR_len];omega)
   have hn1:∀(p:List Int),(true&&decide (((rowsR out++ [[i64 e.1, .sl 1 (bytesR (b16 p))]]).length+1)*32≤140737488355328))=true:=fun p=>tt32 (by rw [rowsR_snoc,rowsR_len,List.length_append,List.length_singleton];omega)
   refine Zar (fun h1=> ?_) fun h1=> ?_
   · have h1:pl=false:=by simpa using h1
     refine ⟨r.1,pad r.2,rfl,hr,e.1,e.2,rfl,he,Zar (fun h2=> ?_) fun h2=> ?_⟩
     · refine ⟨e.1,e.2,_,rfl,rfl,BIf.t hn0 ⟨e.1,e.2,rfl,he,Zar (fun h3=> ?_) fun h3=> ?_⟩⟩
       · change (and64 r.1 (lead e.1) !=0)=true at h3
         refine ⟨pad r.2,e.2,_,rfl,rfl,_,_,_,rfl,rfl,BIf.t (hn1 _) ?_⟩
         show YList _ _ ([rowB m9 bs9,bq e.1 e.2,acc ((rowsR out++_)++_),cell (bo true)],b,none) _
         rw [rowsR_snoc]
         refine key (out++ [(e.1,b16 e.2)]) true (by simp) _ _ ?_
         simp only [stepB,h1,h2,h3,Bool.not_false,Bool.and_self,if_true,Bool.or_true];rfl
       · change (and64 r.1 (lead e.1) !=0)=false at h3
         refine ⟨_,_,_,rfl,rfl,BIf.t (hn1 _) ?_⟩
         show YList _ _ ([rowB m9 bs9,bq e.1 e.2,acc ((rowsR out++_)++_),cell (bo true)],b,none) _
         rw [rowsR_snoc]
         refine key (out++ [(e.1,b16 e.2)]) true (by simp) _ _ ?_
         simp only [stepB,h1,h2,h3,Bool.not_false,Bool.and_self,if_true,Bool.or_true,Zcg,if_false]
     · refine ⟨e.1,e.2,rfl,he,Zar (fun h3=> ?_) fun h3=> ?_⟩
       · change (and64 r.1 (lead e.1) !=0)=true at h3
         refine ⟨pad r.2,e.2,_,rfl,rfl,_,_,_,rfl,rfl,BIf.t hn0 (key out pl (by omega) _ _ ?_)⟩
         simp only [stepB,h1,h2,h3,Bool.and_false,if_true,Bool.or_false,Zcg,if_false];rfl
       · change (and64 r.1 (lead e.1) !=0)=false at h3
         refine ⟨_,_,_,rfl,rfl,BIf.t hn0 (key out pl (by omega) _ _ ?_)⟩
         simp only [stepB,h1,h2,h3,Bool.and_false,Bool.or_false,Zcg,if_false]
   · have h1:pl=true:=by simpa using h1
     refine ⟨e.1,e.2,rfl,he,Zar (fun h3=> ?_) fun h3=> ?_⟩
     · change (and64 r.1 (lead e.1) !=0)=true at h3
       refine ⟨pad r.2,e.2,_,rfl,rfl,_,_,_,rfl,rfl,BIf.t hn0 (key out pl (by omega) _ _ ?_)⟩
       simp only [stepB,h1,h3,Bool.not_true,Bool.false_and,if_true,Bool.true_or,Zcg,if_false];rfl
     · change (and64 r.1 (lead e.1) !=0)=false at h3
       refine ⟨_,_,_,rfl,rfl,BIf.t hn0 (key out pl (by omega) _ _ ?_)⟩
       simp only [stepB,h1,h3,Bool.not_true,Bool.false_and,Bool.true_or,Zcg,if_false]
def wl12 {β:Type}:WLT β:=fun c tm hp b K=>match cidO c with
 | 9 =>∃(l:List Row) (m9:Int) (bs9:List (List Dv)) (x:Row),c=rf12a∧maskTm [9,34] 0 tm=tm12a (rowsR l)∧hp= [rowB m9 bs9,bq x.1 x.2,cell (.s (.slice none 0 0))]∧l.length≤1000000∧
     K .normal (tm12a (rowsR l)) [rowB m9 bs9,bq x.1 x.2,acc (rowsR (l.map keepR))] b
 |17=>∃(l:List Row) (m9:Int) (bs9:List (List Dv)) (e:Row) (s:List Row×Bool),c=rf12b∧maskTm [7,11,12,48] 0 tm=tm12b (rowsR l)∧hp= [rowB m9 bs9,bq e.1 e.2,cell (.s (.slice none 0 0)),cell (bo false)]∧(okMask e∧(∀r∈l,okMask r)∧2*l.length≤1000000)∧
     s=l.foldl (stepB e) ([],false)∧K .normal (tm12b (rowsR l)) [rowB m9 bs9,bq e.1 e.2,acc (rowsR s.1),cell (bo s.2)] b
 |_=>False
theorem wl12_ok {Ev:Env prog} (c:Code) (tm:List AV) (hp:List Blk) (b:Ev.β) (K:Exit→List AV→List Blk→Ev.β→Prop) (h:wl12 c tm hp b K):W Ev c ⟨tm,hp,b⟩ (fun e s=>K e s.tm s.hp s.b):=by
 unfold wl12 at h
 split at h
 · obtain ⟨l,m9,bs9,x,rfl,htm,rfl,hpre,hK⟩:=h
   refine W.cast (hp':= [rowB m9 bs9,bq x.1 x.2,acc (rowsR [])]) (htm▸maskTm_le _ tm 0) (.cons (LeL.refl _) (.cons (LeL.refl _) (.cons (.cons (LeA.nilOwn rfl) .nil) .nil))) ?_
   rw [rf12a_shape]
   exact W.range (s:=⟨tm12a (rowsR l),_,b⟩) (k:=151) (first:= []) (caps:= [.rptr [.sl 2 (rowsR l)]]) rfl rfl rfl (ic38 l (by omega)) (range12a (rowsR l) m9 bs9 x l [] (by simpa using hpre) hK)
 · obtain ⟨l,m9,bs9,e,s,rfl,htm,rfl,⟨he,hok,hl⟩,rfl,hK⟩:=h
   refine W.cast (hp':= [rowB m9 bs9,bq e.1 e.2,acc (rowsR []),cell (bo false)]) (htm▸maskTm_le _ tm 0) (.cons (LeL.refl _) (.cons (LeL.refl _) (.cons (.cons (LeA.nilOwn rfl) .nil) (.cons (LeL.refl _) .nil)))) ?_
   rw [rf12b_shape]
   exact W.range (s:=⟨tm12b (rowsR l),_,b⟩) (k:=151) (first:= []) (caps:= [.rptr [.sl 2 (rowsR l)]]) rfl rfl rfl (ic38 l (by omega)) (range12b (rowsR l) m9 bs9 e he l [] false hok (by simpa using hl) hK)
 · exact h.elim
section
variable {β:Type} (y:YieldT β) (b:β) (R:AV→β→Prop)
theorem f12_nf (xs:List (List Dv)) (m:Int) (p:List Int):wpFn prog ⟨TS, [],wl12,y,false⟩ 100 f32 [.d (.sl 2 xs),rowA m p] b R=(
 ∃m0 b1,
 [AV.agg [Zae (i64 m),Zae (Zal (1:Nat) (bytesR p))]]= [AV.agg [Zae (i64 m0),Zae (Zal (1:Nat) (bytesR b1))]]∧
   ∃ l2,
     [Zae (Zal (2:Nat) xs)]= [Zae (Zal (2:Nat) (rowsR l2))]∧
       Zac l2≤(9223372036854775807:Nat)∧
         BIf (!validS l2) (R (AV.tup [Zae (Dv.s (Zbn none (0:Nat) (0:Nat))),Zae (bo false),Zae (i64 (1:Int))]) b)
           (BIf (!fine m0 b1) (R (AV.tup [Zae (Dv.s (Zbn none (0:Nat) (0:Nat))),Zae (bo false),Zae (i64 (1:Int))]) b)
             (∃l3 m4 p5 x6,
               [Zae (Zal (2:Nat) xs),eqA m0 (pad b1)]= [Zae (Zal (2:Nat) (rowsR l3)),eqA m4 p5]∧
                 ((∀(r:Row),r∈l3→(1:Int)≤Zdq r∧Zdq r<(65536:Int))∧Zac l3≤(9223372036854775807:Nat))∧
                   x6=List.foldl red (m4,p5) l3∧
                     BIf
                       (Zdq x6==(0:Int)&&
                         (nth (Prod.snd x6) (0:Nat)==(0:Int)&&
                             (nth (Prod.snd x6) (1:Nat)==(0:Int)&&
                               (nth (Prod.snd x6) (2:Nat)==(0:Int)&&
                                 (nth (Prod.snd x6) (3:Nat)==(0:Int)&&
                                   (nth (Prod.snd x6) (4:Nat)==(0:Int)&&
                                     (nth (Prod.snd x6) (5:Nat)==(0:Int)&&
                                       (nth (Prod.snd x6) (6:Nat)==(0:Int)&&
                                         (nth (Prod.snd x6) (7:Nat)==(0:Int)&&
                                           (nth (Prod.snd x6) (8:Nat)==(0:Int)&&
                                             (nth (Prod.snd x6) (9:Nat)==(0:Int)&&
                                               (nth (Prod.snd x6) (10:Nat)==(0:Int)&&
                                                 (nth (Prod.snd x6) (11:Nat)==(0:Int)&&
                                                   (nth (Prod.snd x6) (12:Nat)==(0:Int)&&
                                                     (nth (Prod.snd x6) (13:Nat)==(0:Int)&&
                                                       (nth (Prod.snd x6) (14:Nat)==(0:Int)&&
                                                         (nth (Prod.snd x6) (15:Nat)==(0:Int)&&true)))))))))))))))&&
                           true))
                       (∃xs7,
                         [Zae (Zal (2:Nat) xs)]= [Zae (Zal (2:Nat) xs7)]∧
                           ∃ l8 m9 bs10 x11,
                             rf12a=rf12a∧
                               [bad, bad,bad,bad,bad,bad,bad,bad,bad,Zbf (2:Nat) (0:Nat),bad,bad,bad,
                                     Zaz,bad,bad,bad,bad,bad,bad,bad,bad,bad,bad,bad,bad,bad,bad,
                                     Zaz,bad,bad,bad,bad,bad,AV.fn (Fn.func (151:Nat)) [] [AV.rptr [Zal (2:Nat) xs7]],bad,
                                     Zaz,bad,bad,bad,bad,bad,bad,bad,bad,bad,bad,bad,bad,bad,bad,
                                     Zaz,bad,bad,bad,bad,bad,bad,bad,bad,bad,bad,bad,bad,bad,bad,
                                     Zaz,bad,bad,bad,bad,bad,bad,bad,bad,bad,bad,bad,bad,bad,bad,
                                     Zaz,bad,bad,bad,bad,bad,bad,bad,bad,bad,bad,bad,bad,bad]=
                                   [bad,bad,bad,bad,bad,bad,bad,bad,bad,Zbf (2:Nat) (0:Nat),bad,bad,bad,
                                     Zaz,bad,bad,bad,bad,bad,bad,bad,bad,bad,bad,bad,bad,bad,bad,
                                     Zaz,bad,bad,bad,bad,bad,AV.fn (Fn.func (151:Nat)) [] [AV.rptr [Zal (2:Nat) (rowsR l8)]],
                                     Zaz,bad,bad,bad,bad,bad,bad,bad,bad,bad,bad,bad,bad,bad,bad,
                                     Zaz,bad,bad,bad,bad,bad,bad,bad,bad,bad,bad,bad,bad,bad,bad,
                                     Zaz,bad,bad,bad,bad,bad,bad,bad,bad,bad,bad,bad,bad,bad,bad,
                                     Zaz,bad,bad,bad,bad,bad,bad,bad,bad,bad,bad,bad,bad,bad,bad]∧
                                 [{cells:= [Zae (i64 m),Zae (Zal (1:Nat) (bytesR p))]},bq (Zdq x6) (Prod.snd x6),
                                       cell (Dv.s (Zbn none (0:Nat) (0:Nat)))]=
                                     [{cells:= [Zae (i64 m9),Zae (Zal (1:Nat) bs10)]},bq (Zdq x11) (Prod.snd x11),
                                       cell (Dv.s (Zbn none (0:Nat) (0:Nat)))]∧
                                   Zac l8≤(1000000:Nat)∧
                                     R (AV.tup [Zae (Zal (2:Nat) (rowsR (List.map keepR l8))),Zae (bo false),Zae (i64 (0:Int))]) b)
                       (BIf (Zdq x6==(0:Int))
                         (R (AV.tup [Zae (Dv.s (Zbn none (0:Nat) (0:Nat))),Zae (bo false),Zae (i64 (12:Int))]) b)
                         (∃xs12,
                           [Zae (Zal (2:Nat) xs)]= [Zae (Zal (2:Nat) xs12)]∧
                             ∃ l13 m14 bs15 e16 s17,
                               rf12b=rf12b∧
                                 [bad, bad,bad,bad,bad,bad,bad,Zbf (1:Nat) (0:Nat),bad,bad,bad,
                                       Zbf (2:Nat) (0:Nat),Zbf (3:Nat) (0:Nat),bad,bad,bad,bad,bad,bad,bad,bad,
                                       Zaz,bad,bad,bad,bad,bad,bad,bad,bad,bad,bad,bad,bad,bad,bad,
                                       Zaz,bad,bad,bad,bad,bad,bad,bad,bad,bad,bad,bad,
                                       AV.fn (Fn.func (151:Nat)) [] [AV.rptr [Zal (2:Nat) xs12]],bad,bad,bad,bad,bad,bad,bad,
                                       Zaz,bad,bad,bad,bad,bad,bad,bad,bad,bad,bad,bad,bad,bad,bad,
                                       Zaz,bad,bad,bad,bad,bad,bad,bad,bad,bad,bad,bad,bad,bad,bad,
                                       Zaz,bad,bad,bad,bad,bad,bad,bad,bad]=
                                     [bad,bad,bad,bad,bad,bad,bad,Zbf (1:Nat) (0:Nat),bad,bad,bad,
                                       Zbf (2:Nat) (0:Nat),Zbf (3:Nat) (0:Nat),bad,bad,bad,bad,bad,bad,bad,bad,
                                       Zaz,bad,bad,bad,bad,bad,bad,bad,bad,bad,bad,bad,bad,bad,bad,
                                       Zaz,bad,bad,bad,bad,bad,bad,bad,bad,bad,bad,bad,
                                       AV.fn (Fn.func (151:Nat)) [] [AV.rptr [Zal (2:Nat) (rowsR l13)]],bad,bad,bad,bad,bad,bad,
                                       Zaz,bad,bad,bad,bad,bad,bad,bad,bad,bad,bad,bad,bad,bad,bad,
                                       Zaz,bad,bad,bad,bad,bad,bad,bad,bad,bad,bad,bad,bad,bad,bad,
                                       Zaz,bad,bad,bad,bad,bad,bad,bad,bad,bad]∧
                                   [{cells:= [Zae (i64 m),Zae (Zal (1:Nat) (bytesR p))]},bq (Zdq x6) (Prod.snd x6),
                                         cell (Dv.s (Zbn none (0:Nat) (0:Nat))),cell (bo false)]=
                                       [{cells:= [Zae (i64 m14),Zae (Zal (1:Nat) bs15)]},bq (Zdq e16) (Prod.snd e16),
                                         cell (Dv.s (Zbn none (0:Nat) (0:Nat))),cell (bo false)]∧
                                     (((1:Int)≤Zdq e16∧Zdq e16<(65536:Int))∧
                                         (∀(r:Row),r∈l13→(1:Int)≤Zdq r∧Zdq r<(65536:Int))∧
                                           (2:Nat)*Zac l13≤(1000000:Nat))∧
                                       s17=List.foldl (stepB e16) ([],false) l13∧
                                         BIf (!Prod.snd s17)
                                           (∃m18 p19 q20,
                                             [eqA (Zdq e16) (Prod.snd e16)]= [eqA m18 p19]∧
                                               q20=bytesR (b16 p19)∧
                                                 BIf (true&&decide ((Zac (rowsR (Zdq s17))+(1:Nat))*(32:Nat)≤(140737488355328:Nat)))
                                                   (R
                                                     (AV.tup
                                                       [Zae (Zal (2:Nat) (rowsR (Zdq s17)++ [[i64 m18,Zal (1:Nat) q20]])),Zae (bo true),
                                                         Zae (i64 (0:Int))])
                                                     b)
                                                   False)
                                           (R (AV.tup [Zae (Zal (2:Nat) (rowsR (Zdq s17))),Zae (bo true),Zae (i64 (0:Int))]) b)))))):=by kernel_rfl
end
theorem ofInt_toNat {a:Int} (h0:0≤a) (h1:a<18446744073709551616):(Zao 64 a).toNat=a.toNat:=by
 simp [BitVec.toNat_ofInt];omega
theorem xor64_eq {a b:Int} (h0:0≤a) (h1:a<65536) (h2:0≤b) (h3:b<65536):xor64 a b=((a.toNat ^^^ b.toNat:Nat):Int):=by
 unfold xor64
 rw [BitVec.toNat_xor,ofInt_toNat h0 (by omega),ofInt_toNat h2 (by omega)]
 have:a.toNat ^^^ b.toNat<2 ^ 16:=Nat.xor_lt_two_pow (by omega) (by omega)
 rw [wrap_i64 (by omega) (by omega)]
theorem and64_eq {a b:Int} (h0:0≤a) (h1:a<65536) (h2:0≤b) (h3:b<65536):and64 a b=((a.toNat&&&b.toNat:Nat):Int):=by
 unfold and64
 rw [BitVec.toNat_and,ofInt_toNat h0 (by omega),ofInt_toNat h2 (by omega)]
 have:a.toNat&&&b.toNat<2 ^ 16:=Nat.and_lt_two_pow _ (by omega)
 rw [wrap_i64 (by omega) (by omega)]
theorem or64_eq {a b:Int} (h0:0≤a) (h1:a<65536) (h2:0≤b) (h3:b<65536):or64 a b=((a.toNat|||b.toNat:Nat):Int):=by
 unfold or64
 rw [BitVec.toNat_or,ofInt_toNat h0 (by omega),ofInt_toNat h2 (by omega)]
 have:a.toNat|||b.toNat<2 ^ 16:=Nat.or_lt_two_pow (by omega) (by omega)
 rw [wrap_i64 (by omega) (by omega)]
theorem xor64_bd {a b:Int} (h0:0≤a) (h1:a<65536) (h2:0≤b) (h3:b<65536):0≤xor64 a b∧xor64 a b<65536:=by
 rw [xor64_eq h0 h1 h2 h3]
 have:a.toNat ^^^ b.toNat<2 ^ 16:=Nat.xor_lt_two_pow (by omega) (by omega)
 omega
theorem red_bd {x r:Row} (hx:0≤x.1∧x.1<65536) (hr:okMask r):0≤(red x r).1∧(red x r).1<65536:=by
 unfold red
 split
 · exact xor64_bd hx.1 hx.2 (by have:=hr.1;omega) hr.2
 · exact hx
theorem foldl_red_bd:∀ {l:List Row} {x:Row},0≤x.1∧x.1<65536→(∀r∈l,okMask r)→0≤(l.foldl red x).1∧(l.foldl red x).1<65536
 | [],x,hx,_=>hx
 |r::l,x,hx,h=>foldl_red_bd (l:=l) (x:=red x r) (red_bd hx (h r (Zay ..))) fun r' h'=>h r' (Zaw _ h')
theorem stepB_len (e:Row):∀(l:List Row) (s:List Row×Bool),(l.foldl (stepB e) s).1.length≤s.1.length+2*l.length
 | [],s=>by simp
 | r::l,s=>by
   have h1:=stepB_len e l (stepB e s r)
   have h2:(stepB e s r).1.length≤s.1.length+2:=by
     simp only [stepB];split<;>simp
   simp only [List.foldl_cons,List.length_cons];omega
def zero16 (p:List Int):Bool:=(List.range 16).all fun i=>nth p i==0
def addR (x:List Row×Bool×Int):AV:= .tup [.d (.sl 2 (rowsR x.1)), .d (bo x.2.1), .d (i64 x.2.2)]
def addS (l:List Row) (m:Int) (b:List Int):List Row×Bool×Int:=
 if !validS l|| !fine m b then ([],false,1) else
 let x:=l.foldl red (m,pad b)
 if x.1==0&&zero16 x.2 then (l.map keepR,false,0) else if x.1==0 then ([],false,12) else
 let s:=l.foldl (stepB x) ([],false)
 (if !s.2 then s.1++ [(x.1,b16 x.2)] else s.1,true,0)
theorem nilTup (a b:AV):LeT (.tup [.d (.s (.slice none 0 0)),a,b]) (.tup [.d (.sl 2 (rowsR [])),a,b]):= .tup (.cons (LeA.nilSl rfl) (LeL.refl _))
theorem pc12 (l:List Row) (m:Int) (b:List Int) (hl:2*l.length≤1000000):PCall prog 32 [.d (.sl 2 (rowsR l)),rowA m b] (addR (addS l m b)):=by
 refine PCall.ofFnL (n:=100) (u:=false) (fun _=>wl12) mixed TS_ok SCallsOk.nil (fun Ev=>wl12_ok) func32 (by rfl) (by rfl) fun Ev bb=> ?_
 rw [f12_nf]
 refine ⟨m,b,rfl,l,rfl,by omega,Zar (fun h1=> ?_) fun h1=>Zar (fun h2=> ?_) fun h2=> ?_⟩
 · rw [show addS l m b=([],false,1) by simp only [addS,h1,Bool.true_or,if_true]];exact nilTup _ _
 · rw [show addS l m b=([],false,1) by simp only [addS,h2,Bool.or_true,if_true]];exact nilTup _ _
 · have hv:validS l=true:=by simpa using h1
   have hok:∀r∈l,okMask r:=by
     simp only [validS,Zam] at hv
     exact fun r hr=>fine_ok (vA_ok hv.1 r hr)
   have hf:fine m b=true:=by simpa using h2
   have hm:0≤m∧m<65536:=by
     have:=fine_ok (r:=(m,b)) hf
     exact ⟨by have:=this.1;omega,this.2⟩
   have hx:=foldl_red_bd (l:=l) (x:=(m,pad b)) hm hok
   refine ⟨l,m,pad b,_,rfl,⟨hok,by omega⟩,rfl, ?_⟩
   show BIf ((l.foldl red (m,pad b)).1==0&&(zero16 (l.foldl red (m,pad b)).2&&true)) _ _
   have e0:addS l m b=(let x:=l.foldl red (m,pad b)
       if x.1==0&&zero16 x.2 then (l.map keepR,false,0) else if x.1==0 then ([],false,12) else
       let s:=l.foldl (stepB x) ([],false)
       (if !s.2 then s.1++ [(x.1,b16 x.2)] else s.1,true,0)):=by
     simp only [addS,h1,h2,Bool.or_false,Zcg,if_false]
   rw [e0]
   generalize l.foldl red (m,pad b)=x at hx
   refine Zar (fun h3=> ?_) fun h3=>Zar (fun h4=> ?_) fun h4=> ?_
   · rw [Bool.and_true] at h3
     refine ⟨_,rfl,l,_,_,x,rfl,rfl,rfl,by omega, ?_⟩
     simp only [h3,if_true]
     exact .rfl
   · rw [Bool.and_true] at h3
     show LeT _ (addR (if (x.1==0&&zero16 x.2)=true then _ else _))
     rw [h3,if_neg (by simp),if_pos h4]
     exact nilTup _ _
   · rw [Bool.and_true] at h3
     have hne:x.1≠0:=by simpa using h4
     have hxo:okMask x:=⟨by omega,hx.2⟩
     refine ⟨_,rfl,l,_,_,x,_,rfl,rfl,rfl,⟨hxo,hok,hl⟩,rfl, ?_⟩
     have hlen:=stepB_len x l ([],false)
     simp only [h3,h4,Zcg,if_false]
     generalize l.foldl (stepB x) ([],false)=s at hlen
     simp only [List.length_nil] at hlen
     refine Zar (fun h5=> ?_) fun h5=> ?_
     · refine ⟨_,_,_,rfl,rfl,BIf.t (tt32 (by rw [rowsR_len];omega)) ?_⟩
       rw [rowsR_snoc]
       simp only [h5,if_true]
       exact .rfl
     · simp only [h5,Zcg,if_false]
       exact .rfl
def c12 (args:List AV) (K:AV→Prop):Prop:=∃(l:List Row) (m:Int) (b:List Int) (x:List Row×Bool×Int),args= [.d (.sl 2 (rowsR l)),rowA m b]∧2*l.length≤1000000∧x=addS l m b∧K (addR x)
theorem c12_ok:∀args K,c12 args K→∃x,PCall prog 32 args x∧K x:=by
 rintro _ K ⟨l,m,b,_,rfl,h1,rfl,h⟩;exact ⟨_,pc12 l m b h1,h⟩
def bytesB (x:List Int×Bool):AV:= .tup [.d (.sl 1 (bytesR x.1)), .d (bo x.2)]
theorem nilTup1 (a:AV):LeT (.tup [.d (.s (.slice none 0 0)),a]) (.tup [.d (.sl 1 (bytesR [])),a]):= .tup (.cons (LeA.nilSl rfl) (LeL.refl _))
def sumS (l:List Row) (m:Int):List Int×Bool:=
 if decide (m<0)||(decide (m≥65536)|| !validS l) then ([],false) else
 let x:=l.foldl red (m, [])
 if x.1 !=0 then ([],false) else (b16 x.2,true)
noncomputable def rf14:Code:=sub [1,8,1,1,1,0,1,2] (code f123)
theorem rf14_shape:rf14= .rangeFunc (.tmp 20) #[21,22] (assignOf rf14) (bodyOf rf14):=by kernel_rfl
def tm14 (xs:List (List Dv)):List AV:= [.bad, .bad, .bad, .ptr 0 0, .bad, .bad, .ptr 1 0]++Zad 13 .bad++ [.fn (.func 151) [] [.rptr [.sl 2 xs]]]++Zad 13 .bad
section
variable {β:Type} (wl:WLT β) (y:YieldT β) (b:β) (Kh:Exit→List Blk→β→Prop)
theorem f14_round (xs:List (List Dv)) (m i:Int) (p:List Int) (f:Bool) (v:Dv):wpcY prog ⟨TS, [],wl,y,false⟩ 100 #[21,22] (assignOf rf14) (bodyOf rf14) (tm14 xs) [eqA m p, .d (bo f)] [cell (i64 i),cell v] b (takeK 2 Kh)=(
 BIf (decide (i<(0:Int))) False
 (BIf (m==Zaa Zax ((1:Int)*(2:Int) ^ min (Zat i) (64:Nat)))
   (∃m0 p1 q2, [eqA m p]= [eqA m0 p1]∧q2=bytesR (b16 p1)∧Kh (Exit.exit (0:Nat)) [cell (i64 i),cell (Zal (1:Nat) q2)] b)
   (Kh Exit.normal [cell (i64 i),cell v] b))):=by kernel_rfl
end
def bit (i:Int):Int:=Zaa .i64 (1*2 ^ min i.toNat 64)
def findS (l:List Row) (i:Int):Option Row:=l.find? fun r=>r.1==bit i
def foundS (l:List Row) (i:Int):List Int:=match findS l i with
 |some r=>b16 (pad r.2)
 |none=> []
def solvedS (l:List Row) (i:Int):List Int×Bool:=
 if decide (i<0)||(decide (i≥16)|| !validS l) then ([],false) else
 if (findS l i).isSome then (foundS l i,true) else ([],false)
def wl14 {β:Type}:WLT β:=fun c tm hp b K=>∃(l:List Row) (i:Int),c=rf14∧maskTm [3,6,20] 0 tm=tm14 (rowsR l)∧hp= [cell (i64 i),cell (.s (.slice none 0 0))]∧(0≤i∧l.length≤9223372036854775807)∧
 BIf (findS l i).isSome (∃q,q=foundS l i∧K (.exit 0) (tm14 (rowsR l)) [cell (i64 i),cell (.sl 1 (bytesR (b16 q)))] b) (K .normal (tm14 (rowsR l)) [cell (i64 i),cell (.s (.slice none 0 0))] b)
theorem range14 {Ev:Env prog} {b:Ev.β} {Q:Exit→St Ev.β→Prop} (xs:List (List Dv)) (i:Int) (hi:0≤i):∀(l:List Row),
   BIf (findS l i).isSome (Q (.exit 0) ⟨tm14 xs, [cell (i64 i),cell (.sl 1 (bytesR (b16 (foundS l i))))],b⟩) (Q .normal ⟨tm14 xs, [cell (i64 i),cell (.s (.slice none 0 0))],b⟩)→
   YList (YBody Ev (tm14 xs) #[21,22] (assignOf rf14) (bodyOf rf14) 2) (l.map item) ([cell (i64 i),cell (.s (.slice none 0 0))],b,none) (rangeQ (tm14 xs) Q)
 | [],h=>h
 | r::l,h=>by
   refine YList.step (X:=⟨TS, [],wlW Ev,Ev.Y,false⟩) (k:=100) mixed (CX.Ok.of TS_ok SCallsOk.nil) rfl ?_
   show wpcY _ _ _ _ _ _ _ [eqA _ _, .d (bo _)] [cell (i64 _),cell _] b (takeK 2 _)
   rw [f14_round]
   refine BIf.f (by simpa using hi) (Zar (fun hc=>⟨_,_,_,rfl,rfl, ?_⟩) fun hc=> ?_)
   · change (r.1==bit i)=true at hc
     have e1:findS (r::l) i=some r:=by simp only [findS,List.find?_cons,hc]
     have e2:foundS (r::l) i=b16 (pad r.2):=by simp only [foundS,e1]
     rw [e1,e2] at h
     exact h
   · change (r.1==bit i)=false at hc
     have e1:findS (r::l) i=findS l i:=by simp only [findS,List.find?_cons,hc]
     have e2:foundS (r::l) i=foundS l i:=by simp only [foundS,e1]
     rw [e1,e2] at h
     exact range14 xs i hi l h
theorem wl14_ok {Ev:Env prog} (c:Code) (tm:List AV) (hp:List Blk) (b:Ev.β) (K:Exit→List AV→List Blk→Ev.β→Prop) (h:wl14 c tm hp b K):W Ev c ⟨tm,hp,b⟩ (fun e s=>K e s.tm s.hp s.b):=by
 obtain ⟨l,i,rfl,htm,rfl,⟨hi,hpre⟩,hK⟩:=h
 refine W.cast (htm▸maskTm_le _ tm 0) (LeH.refl _) ?_
 rw [rf14_shape]
 exact W.range (s:=⟨tm14 (rowsR l),_,b⟩) (k:=151) (first:= []) (caps:= [.rptr [.sl 2 (rowsR l)]]) rfl rfl rfl (ic38 l hpre) (range14 (rowsR l) i hi l (hK.elim.elim (fun h=>BIf.t h.1 (by obtain ⟨q,rfl,h⟩:=h.2;exact h)) fun h=>BIf.f h.1 h.2))
section
variable {β:Type} (y:YieldT β) (b:β) (R:AV→β→Prop)
theorem f14_nf (xs:List (List Dv)) (i:Int):wpFn prog ⟨TS, [],wl14,y,false⟩ 100 f123 [.d (.sl 2 xs), .d (i64 i)] b R=(
 BIf (decide (i<(0:Int))) (R (AV.tup [Zae (Dv.s (Zbn none (0:Nat) (0:Nat))),Zae (bo false)]) b)
 (BIf (decide (i≥(16:Int))) (R (AV.tup [Zae (Dv.s (Zbn none (0:Nat) (0:Nat))),Zae (bo false)]) b)
   (∃l0,
     [Zae (Zal (2:Nat) xs)]= [Zae (Zal (2:Nat) (rowsR l0))]∧
       Zac l0≤(9223372036854775807:Nat)∧
         BIf (!validS l0) (R (AV.tup [Zae (Dv.s (Zbn none (0:Nat) (0:Nat))),Zae (bo false)]) b)
           (∃xs1,
             [Zae (Zal (2:Nat) xs)]= [Zae (Zal (2:Nat) xs1)]∧
               ∃ l2 i3,
                 rf14=rf14∧
                   [bad, bad,bad,Zbf (0:Nat) (0:Nat),bad,bad,Zbf (1:Nat) (0:Nat),bad,bad,bad,bad,bad,
                         Zaz,bad,bad,bad,bad,bad,bad,bad,AV.fn (Fn.func (151:Nat)) [] [AV.rptr [Zal (2:Nat) xs1]],bad,
                         Zaz,bad,bad,bad,bad,bad,bad,bad,bad,bad,bad,bad]=
                       [bad,bad,bad,Zbf (0:Nat) (0:Nat),bad,bad,Zbf (1:Nat) (0:Nat),bad,bad,bad,bad,bad,
                         Zaz,bad,bad,bad,bad,bad,bad,bad,AV.fn (Fn.func (151:Nat)) [] [AV.rptr [Zal (2:Nat) (rowsR l2)]],
                         Zaz,bad,bad,bad,bad,bad,bad,bad,bad,bad,bad,bad,bad]∧
                     [cell (i64 i),cell (Dv.s (Zbn none (0:Nat) (0:Nat)))]= [cell (i64 i3),cell (Dv.s (Zbn none (0:Nat) (0:Nat)))]∧
                       ((0:Int)≤i3∧Zac l2≤(9223372036854775807:Nat))∧
                         BIf (Option.isSome (findS l2 i3)) (∃q4,q4=foundS l2 i3∧R (AV.tup [Zae (Zal (1:Nat) (bytesR (b16 q4))),Zae (bo true)]) b)
                           (R (AV.tup [Zae (Dv.s (Zbn none (0:Nat) (0:Nat))),Zae (bo false)]) b))))):=by kernel_rfl
end
theorem pc14 (l:List Row) (i:Int) (hl:l.length≤9223372036854775807):PCall prog 123 [.d (.sl 2 (rowsR l)), .d (i64 i)] (bytesB (solvedS l i)):=by
 refine PCall.ofFnL (n:=100) (u:=false) (fun _=>wl14) mixed TS_ok SCallsOk.nil (fun Ev=>wl14_ok) func123 (by rfl) (by rfl) fun Ev bb=> ?_
 rw [f14_nf]
 refine Zar (fun h1=> ?_) fun h1=>Zar (fun h2=> ?_) fun h2=>⟨l,rfl,hl,Zar (fun h3=> ?_) fun h3=> ?_⟩
 · rw [show solvedS l i=([],false) by simp only [solvedS,h1,Bool.true_or,if_true]];exact nilTup1 _
 · rw [show solvedS l i=([],false) by simp only [solvedS,h2,Bool.true_or,Bool.or_true,if_true]];exact nilTup1 _
 · rw [show solvedS l i=([],false) by simp only [solvedS,h3,Bool.or_true,if_true]];exact nilTup1 _
 · have e0:solvedS l i=if (findS l i).isSome then (foundS l i,true) else ([],false):=by
     simp only [solvedS,h1,h2,h3,Bool.or_false,Zcg,if_false]
   rw [e0]
   refine ⟨_,rfl,l,i,rfl,rfl,rfl,⟨by simpa using h1,hl⟩,Zar (fun h4=> ?_) fun h4=> ?_⟩
   · rw [if_pos h4]
     refine ⟨_,rfl, ?_⟩
     have:b16 (foundS l i)=foundS l i:=by
       obtain ⟨r,hr⟩:=Option.isSome_iff_exists.1 h4
       simp only [foundS,hr];rfl
     rw [this];exact .rfl
   · rw [if_neg (by simp [h4])]
     exact nilTup1 _
def c14 (args:List AV) (K:AV→Prop):Prop:=∃(l:List Row) (m:Int) (x:List Int×Bool),args= [.d (.sl 2 (rowsR l)), .d (i64 m)]∧l.length≤9223372036854775807∧x=solvedS l m∧K (bytesB x)
theorem c14_ok:∀args K,c14 args K→∃x,PCall prog 123 args x∧K x:=by
 rintro _ K ⟨l,m,_,rfl,h1,rfl,h⟩;exact ⟨_,pc14 l m h1,h⟩
section
end
section
end
section
end
section
end
section
end
section
end
def formedS (m:Int) (p:List Int):Bool:=decide (m≥1)&&(decide (m<65536)&&decide (p.length=16))
def vInner (i:Nat) (x:Row):Nat→List Row→Bool
 |_, []=>true
 |k,r::l=>(decide (i=k)||and64 r.1 (lead x.1)==0)&&vInner i x (k+1) l
def vOuter (l:List Row):Nat→List Row→Bool
 |_, []=>true
 |i,x::r=>vInner i x 0 l&&vOuter l (i+1) r
def prevOk (p:Option Row) (m:Int):Bool:=match p with
 |none=>true
 |some q=>decide (lead m<lead q.1)
def vPrev:Option Row→List Row→Bool
 |_, []=>true
 |p,r::l=>formedS r.1 r.2&&prevOk p r.1&&vPrev (some r) l
def validR (l:List Row):Bool:=vPrev none l&&vOuter l 0 l
section
end
section
end
section
end
def c21 (args:List AV) (K:AV→Prop):Prop:=∃(l:List Row),args= [.d (.sl 2 (rowsR l))]∧l.length≤9223372036854775807∧K (.d (bo (validR l)))
def mixS (x s f:Int):Int:=Zaa .u64 (Zaa .u64 ((Zao 64 x ^^^ Zao 64 (x.fdiv s)).toNat:Int)*f)
def nextS (x:Int):Int:=mixS (mixS (mixS (Zaa .u64 (x+11400714819323198485)) 1073741824 13787848793156543929) 134217728 10723151780598845931) 2147483648 1
def halfS (x:Int):Int:=Zaa .i64 (x.fdiv 4294967296)
def firstS (x:Int):Int:=halfS (nextS x)
section
variable {β:Type} (wl:WLT β) (y:YieldT β) (b:β) (R:AV→β→Prop)
theorem f67_nf (x:Int):wpFn prog ⟨[], [],wl,y,true⟩ 100 f226 [.d (u64 x)] b R=R (.d (u64 (nextS x))) b:=by kernel_rfl
end
theorem pc67 (x:Int):PCall prog 226 [.d (u64 x)] (.d (u64 (nextS x))):=by
 refine PCall.ofFn (n:=100) (u:=true) mixed CallsOk.nil SCallsOk.nil func226 (by rfl) (by rfl) fun Ev bb=> ?_
 rw [f67_nf]
def c67 (args:List AV) (K:AV→Prop):Prop:=∃(x:Int),args= [.d (u64 x)]∧K (.d (u64 (nextS x)))
theorem c67_ok:∀args K,c67 args K→∃x,PCall prog 226 args x∧K x:=by
 rintro _ K ⟨x,rfl,h⟩;exact ⟨_,pc67 x,h⟩
def HSp {β:Type} (Y:YieldT β):Nat→Int→β→(β→Prop)→Prop
 |0,_,_,_=>False
 |n+1,x,b,Q=>Y b [.d (i64 (halfS x))] fun cont b'=>BIf cont (HSp Y n (nextS x) b' Q) (Q b')
def cellU (x:Int):Blk:=⟨[.d (u64 x)],false,false,0⟩
noncomputable def lp66:Code:=sub [1,2,3] (code f225)
def tm66:List AV:= [.yl, .ptr 0 0]++Zad 10 .bad
def T66:List (Nat×(List AV→(AV→Prop)→Prop)):= [(226,c67)]
theorem T66_ok:CallsOk prog T66:=CallsOk.cons c67_ok CallsOk.nil
section
variable {β:Type} (wl:WLT β) (y:YieldT β) (b:β) (K:Exit→List AV→List Blk→β→Prop)
theorem f66_round (x:Int):wpc prog ⟨T66, [],wl,y,false⟩ 100 lp66 tm66 [cellU x] b (maskT [0,1] K)=(
 y b [Zae (i64 (halfS x))] fun cont0 b1=>BIf cont0 (∃x2:Int, [Zae (u64 x)]= [Zae (u64 x2)]∧K .normal tm66 [cellU (nextS x2)] b1) (K (.exit 0) tm66 [cellU x] b1)):=by kernel_rfl
end
def wl66 {β:Type} (y:YieldT β):WLT β:=fun c tm hp b K=>∃(n:Nat) (x:Int),c= .loop lp66∧maskTm [0,1] 0 tm=tm66∧hp= [cellU x]∧HSp y n x b fun b'=>∀z,K (.exit 0) tm66 [cellU z] b'
theorem HSp.yoke {Ev:Env prog} {Q Q':Ev.β→Prop} (hq:∀b,Q b→Q' b):∀(n:Nat) (x:Int) (b:Ev.β),HSp Ev.Y n x b Q→HSp Ev.Y n x b Q'
 |0,_,_,h=>h.elim
 | n+1,x,b,h=>Ev.Ymono h fun c b' h=>by
   cases c with
   |true=>exact HSp.yoke hq n _ _ h
   |false=>exact hq _ h
theorem wr66 {Ev:Env prog} {Q:Exit→St Ev.β→Prop}:∀(n:Nat) (x:Int) (b:Ev.β),(HSp Ev.Y n x b fun b'=>∀z,Q (.exit 0) ⟨tm66, [cellU z],b'⟩)→WR Ev lp66 n ⟨tm66, [cellU x],b⟩ Q
 |0,_,_,h=>h.elim
 | n+1,x,b,h=>by
   refine WR.ofMaskT [0,1] mixed (CX.Ok.of (u:=false) T66_ok SCallsOk.nil) (k:=100) ?_
   rw [f66_round]
   refine Ev.Ymono h fun c b' h=> ?_
   cases c with
   |true=>exact ⟨x,rfl,wr66 n _ _ h⟩
   |false=>exact h _
theorem wl66_ok {Ev:Env prog} (c:Code) (tm:List AV) (hp:List Blk) (b:Ev.β) (K:Exit→List AV→List Blk→Ev.β→Prop) (h:wl66 Ev.Y c tm hp b K):W Ev c ⟨tm,hp,b⟩ (fun e s=>K e s.tm s.hp s.b):=by
 obtain ⟨n,x,rfl,htm,rfl,hK⟩:=h
 refine W.cast (htm▸maskTm_le _ tm 0) (LeH.refl _) ?_
 exact W.rounds (wr66 (Q:=fun e s=>K e s.tm s.hp s.b) n x b hK)
section
variable {β:Type} (y:YieldT β) (b:β) (Q:β→Prop)
theorem f66_nf (x:Int):wpc prog ⟨T66, [],wl66 y,y,false⟩ 100 (code f225) (startTm f225 [.yl, .ptr 0 0]) [cellU x] b (fnK prog f225 fun _ b=>Q b)=(
 ∃x0:Int, [Zae (u64 x)]= [Zae (u64 x0)]∧∃(n:Nat) (z:Int),Code.loop lp66= .loop lp66∧tm66=tm66∧ [cellU (nextS x0)]= [cellU z]∧HSp y n z b fun b'=>∀_:Int,Q b'):=by kernel_rfl
end
def halvesSp (x:Int):SpT:=fun Y b Q=>∃n,HSp Y n (nextS x) b Q
theorem ic66 (x:Int):ICallB prog 225 [.yl, .ptr 0 0] (cellU x) (halvesSp x):=by
 refine ICallB.ofW (c:=code f225) func225 rfl rfl fun Ev b Q h=> ?_
 obtain ⟨n,h⟩:=h
 have h1:wpc prog ⟨T66, [],wl66 Ev.Y,Ev.Y,false⟩ 100 (code f225) (startTm f225 [.yl, .ptr 0 0]) [cellU x] b (fnK prog f225 fun _ b=>Q b):=by
   rw [f66_nf]
   exact ⟨x,rfl,n,_,rfl,rfl,rfl,HSp.yoke (fun b h _=>h) _ _ _ h⟩
 refine wpc_sound mixed (CX.Ok.ofWl T66_ok SCallsOk.nil wl66_ok) h1 fun e tm hp b hK=> ?_
 obtain ⟨g1,ys,g2,z,g3,g4⟩:=fnK_sound hK
 exact ⟨g1,ys,g2,g4⟩
section
variable {β:Type} (wl:WLT β) (y:YieldT β) (b:β) (R:AV→List Blk→β→Prop)
theorem f63_nf (x:Int):wpFnS prog ⟨[], [],wl,y,false⟩ 100 f206 [.d (u64 x)] b R=R (.fn (.func 225) [] [.ptr 0 0]) [cellU x] b:=by kernel_rfl
end
theorem fc63 (x:Int):FCall prog 206 [.d (u64 x)] (.fn (.func 225) [] [.ptr 0 0]) [cellU x]:=by
 refine FCall.ofFnW (n:=100) (u:=false) (fun _=>fun _ _ _ _ _=>False) mixed CallsOk.nil SCallsOk.nil (fun Ev _ _ _ _ _ h=>h.elim) func206 (by rfl) (by rfl) (by rfl) fun Ev bb=> ?_
 rw [f63_nf]
 exact ⟨rfl,rfl⟩
def s63 (args:List AV) (hp:List Blk) (K:AV→List Blk→Prop):Prop:=∃(x:Int),args= [.d (u64 x)]∧K (.fn (.func 225) [] [.ptr hp.length 0]) (hp++ [cellU x])
theorem s63_ok:∀args hp K,s63 args hp K→∃x hp',SCall prog 206 args hp x hp'∧K x hp':=by
 rintro _ hp K ⟨x,rfl,h⟩
 exact ⟨_,_,(fc63 x).toS rfl hp,by simpa [shift,shifts,shiftH,shiftB,cellU] using h⟩
def T58:List (Nat×(List AV→List Blk→(AV→List Blk→Prop)→Prop)):= [(206,s63)]
theorem T58_ok:SCallsOk prog T58:=SCallsOk.cons s63_ok SCallsOk.nil
noncomputable def rf58:Code:=sub [1,0,1,2] (code f153)
def cellI (x:Int):Blk:=⟨[.d (i64 x)],false,false,0⟩
def tm58 (x:Int):List AV:= [.d (u64 x), .bad, .ptr 0 0, .bad, .bad, .fn (.func 225) [] [.ptr 1 0], .bad, .bad]
section
variable {β:Type} (wl:WLT β) (y:YieldT β) (b:β) (K:Exit→List AV→List Blk→β→Prop)
theorem f58_a (x:Int):wpc prog ⟨[],T58,wl,y,false⟩ 100 (sub [0] (code f153)) (startTm f153 [.d (u64 x)]) [] b K=K .normal [.d (u64 x), .bad, .ptr 0 0, .bad, .bad, .bad, .bad, .bad] [cellI 0] b:=by kernel_rfl
theorem f58_b (x:Int):wpc prog ⟨[],T58,wl,y,false⟩ 100 (sub [1,0,0] (code f153)) [.d (u64 x), .bad, .ptr 0 0, .bad, .bad, .bad, .bad, .bad] [cellI 0] b (maskT [0,2,5] K)=(
 ∃x0:Int, [Zae (u64 x)]= [.d (u64 x0)]∧K .normal (tm58 x) [cellI 0,cellU x0] b):=by kernel_rfl
theorem f58_c (x h:Int) (K:Exit→List Blk→β→Prop):wpcY prog ⟨[], [],wl,y,false⟩ 100 #[6] (assignOf rf58) (bodyOf rf58) (lowTm 1 (tm58 x)) [.d (i64 h)] [cellI 0] b (takeK 1 K)=K .ret [cellI h] b:=by kernel_rfl
end
theorem rf58_shape:rf58= .rangeFunc (.tmp 5) #[6] (assignOf rf58) (bodyOf rf58):=by kernel_rfl
theorem f58_shape:code f153= .seq (sub [0] (code f153)) (.seq (.seq (sub [1,0,0] (code f153)) (.block 0 rf58)) (sub [1,1] (code f153))):=by kernel_rfl
theorem f58_res (x y:Int):resAs prog [cellI x] (lowTm 1 (tm58 y)) Tryz.f153.results.toList=some [.d (i64 x)]:=by kernel_rfl
theorem pc58 (x:Int):PCall prog 153 [.d (u64 x)] (.d (i64 (firstS x))):=by
 refine PCall.ofW0 (x0:=i64 (firstS x)) (c:=code f153) func153 rfl rfl rfl fun Ev b=> ?_
 rw [f58_shape]
 refine W0.seq (W0.of (wpc_sound mixed (CX.Ok.of (u:=false) CallsOk.nil T58_ok) (n:=100) (K:=thenK (fun tm hp b'=>tm= [.d (u64 x), .bad, .ptr 0 0, .bad, .bad, .bad, .bad, .bad]∧hp= [cellI 0]) fun _ _ _ _=>False) ?_ ?_))
 · rw [f58_a];exact ⟨rfl,rfl⟩
 intro e tm hp b' h
 cases e<;>first|exact h.elim|skip
 obtain ⟨rfl,rfl⟩:=h
 refine W0.seq (W0.seq (W0.of (W.castPost (wpc_sound mixed (CX.Ok.of (u:=false) CallsOk.nil T58_ok) (n:=100) (K:=maskT [0,2,5] (thenK (fun tm hp b'=>tm=tm58 x∧hp= [cellI 0,cellU x]) fun _ _ _ _=>False)) ?_ ?_))))
 · rw [f58_b];exact ⟨x,rfl,rfl,rfl⟩
 intro e tm hp b' h
 refine ⟨_,_,maskTm_le [0,2,5] tm 0,LeH.refl _, ?_⟩
 cases e<;>first|exact h.elim|skip
 obtain ⟨h1,rfl⟩:=h
 show W0 Ev _ _ _
 rw [h1]
 refine W0.block ?_
 rw [rf58_shape]
 refine W0.range (hp0:= [cellI 0]) (blk:=cellU x) rfl rfl rfl rfl rfl rfl rfl (ic66 x) ?_
 refine ⟨1, ?_⟩
 refine YBody.ofWp (k:=100) (X:=⟨[], [],wlW Ev,Ev.Y,false⟩) (K:=takeK 1 fun e hp b'=>e= .ret∧hp= [cellI (firstS x)]) mixed (CX.Ok.of CallsOk.nil SCallsOk.nil) rfl ?_ ?_
 · show wpcY _ _ _ _ _ _ (lowTm 1 (tm58 x)) [.d (i64 (halfS (nextS x)))] [cellI 0] _ _
   rw [f58_c];exact ⟨rfl,rfl⟩
 intro e tm hp b' h
 obtain ⟨h1,h2,h3⟩:=h.elim'
 subst h2
 refine ⟨h1, ?_⟩
 refine BIf.f rfl ?_
 have h4:List.take [cellI 0].length hp= [cellI (firstS x)]:=h3
 rw [h4]
 exact ⟨.inl rfl,_,f58_res _ x,rfl,rfl⟩
def c58 (args:List AV) (K:AV→Prop):Prop:=∃(x:Int),args= [.d (u64 x)]∧K (.d (i64 (firstS x)))
theorem c58_ok:∀args K,c58 args K→∃x,PCall prog 153 args x∧K x:=by
 rintro _ K ⟨x,rfl,h⟩;exact ⟨_,pc58 x,h⟩
theorem nextS_range (x:Int):0≤nextS x∧nextS x<18446744073709551616:=wrap_u64_range _
theorem halfS_range {x:Int} (h0:0≤x) (h1:x<18446744073709551616):halfS x=x / 4294967296∧0≤halfS x∧halfS x<4294967296:=by
 have e:x.fdiv 4294967296=x / 4294967296:=by rw [Int.fdiv_eq_ediv_of_nonneg _ (by omega)]
 have h:halfS x=x / 4294967296:=by
   unfold halfS
   rw [e,wrap_i64 (by omega) (by omega)]
 rw [h];omega
theorem firstS_range (x:Int):0≤firstS x∧firstS x<4294967296:=(halfS_range (nextS_range x).1 (nextS_range x).2).2
def maskS (x:Int):Int:=1+firstS x % 65535
theorem maskS_range (x:Int):1≤maskS x∧maskS x≤65535:=by unfold maskS;omega
theorem maskS_eq (x:Int):Zaa .i64 (1+Int.tmod (firstS x) (Zaa .i64 (Zaa .i64 (1*2 ^ min (Zat 16) 64) - 1)))=maskS x:=by
 have h1:Zaa .i64 (Zaa .i64 (1*2 ^ min (Zat 16) 64) - 1)=65535:=by decide
 have h:=firstS_range x
 have h2:=maskS_range x
 rw [h1,Int.tmod_eq_emod_of_nonneg h.1]
 exact wrap_i64 (by unfold maskS at h2;omega) (by unfold maskS at h2;omega)
def TMask:List (Nat×(List AV→(AV→Prop)→Prop)):= [(153,c58)]
theorem TMask_ok:CallsOk prog TMask:=CallsOk.cons c58_ok CallsOk.nil
section
variable {β:Type} (wl:WLT β) (y:YieldT β) (b:β) (R:AV→β→Prop)
theorem mask_nf (x:Int):wpFn prog ⟨TMask, [],wl,y,false⟩ 100 f98 [.d (u64 x), .d (i64 16)] b R=(
 ∃x0:Int, [Zae (u64 x)]= [.d (u64 x0)]∧R (.d (i64 (Zaa .i64 (1+Int.tmod (firstS x0) (Zaa .i64 (Zaa .i64 (1*2 ^ min (Zat 16) 64) - 1)))))) b):=by kernel_rfl
theorem isSeed_nf (x:Int):wpFn prog ⟨[], [],wl,y,false⟩ 100 f97 [.d (i64 x)] b R=(
 BIf (decide (x≥0)) (R (.d (bo (decide (x≤1000000000)))) b) (R (.d (bo false)) b)):=by kernel_rfl
theorem isPage_nf (x:Int):wpFn prog ⟨[], [],wl,y,false⟩ 100 f99 [.d (i64 x)] b R=(
 BIf (decide (x≥0)) (R (.d (bo (decide (x<16)))) b) (R (.d (bo false)) b)):=by kernel_rfl
end
theorem pcMask (x:Int):PCall prog 98 [.d (u64 x), .d (i64 16)] (.d (i64 (maskS x))):=by
 refine PCall.ofFn (n:=100) (u:=false) mixed TMask_ok SCallsOk.nil func98 (by rfl) (by rfl) fun Ev bb=> ?_
 rw [mask_nf]
 exact ⟨x,rfl,by rw [maskS_eq]⟩
def cMask (args:List AV) (K:AV→Prop):Prop:=∃(x:Int),args= [.d (u64 x), .d (i64 16)]∧K (.d (i64 (maskS x)))
theorem cMask_ok:∀args K,cMask args K→∃x,PCall prog 98 args x∧K x:=by
 rintro _ K ⟨x,rfl,h⟩;exact ⟨_,pcMask x,h⟩
def seedS (x:Int):Bool:=decide (0≤x)&&decide (x≤1000000000)
def pageS (x:Int):Bool:=decide (0≤x)&&decide (x<16)
theorem bif_and {x:Int} {q:Bool} {R:AV→Prop} (h:R (.d (bo (decide (0≤x)&&q)))):BIf (decide (x≥0)) (R (.d (bo q))) (R (.d (bo false))):=by
 by_cases h0:0≤x
 · exact BIf.t (by simpa using h0) (by simpa [h0] using h)
 · exact BIf.f (by simpa using h0) (by simpa [h0] using h)
theorem pcIsSeed (x:Int):PCall prog 97 [.d (i64 x)] (.d (bo (seedS x))):=by
 refine PCall.ofFn (n:=100) (u:=false) mixed CallsOk.nil SCallsOk.nil func97 (by rfl) (by rfl) fun Ev bb=> ?_
 rw [isSeed_nf]
 exact bif_and (R:=fun y=>y=_) rfl
theorem pcIsPage (x:Int):PCall prog 99 [.d (i64 x)] (.d (bo (pageS x))):=by
 refine PCall.ofFn (n:=100) (u:=false) mixed CallsOk.nil SCallsOk.nil func99 (by rfl) (by rfl) fun Ev bb=> ?_
 rw [isPage_nf]
 exact bif_and (R:=fun y=>y=_) rfl
def cSeed (args:List AV) (K:AV→Prop):Prop:=∃(x:Int),args= [.d (i64 x)]∧K (.d (bo (seedS x)))
theorem cIsSeed_ok:∀args K,cSeed args K→∃x,PCall prog 97 args x∧K x:=by
 rintro _ K ⟨x,rfl,h⟩;exact ⟨_,pcIsSeed x,h⟩
def cIsPage (args:List AV) (K:AV→Prop):Prop:=∃(x:Int),args= [.d (i64 x)]∧K (.d (bo (pageS x)))
theorem cIsPage_ok:∀args K,cIsPage args K→∃x,PCall prog 99 args x∧K x:=by
 rintro _ K ⟨x,rfl,h⟩;exact ⟨_,pcIsPage x,h⟩
def setS (x:Int):Int:=if seedS x=false then 0 else if x<16 then 2 ^ x.toNat else maskS x
def TSet:List (Nat×(List AV→(AV→Prop)→Prop)):= [(97,cSeed),(98,cMask)]
theorem TSet_ok:CallsOk prog TSet:=CallsOk.cons cIsSeed_ok (CallsOk.cons cMask_ok CallsOk.nil)
section
variable {β:Type} (wl:WLT β) (y:YieldT β) (b:β) (R:AV→β→Prop)
theorem set_nf (x:Int):wpFn prog ⟨TSet, [],wl,y,false⟩ 100 f33 [.d (i64 x)] b R=(
 ∃ x0:Int, [Zae (i64 x)]= [.d (i64 x0)]∧BIf (!seedS x0) (R (.d (i64 0)) b) (BIf (decide (x<16)) (BIf (decide (x<0)) False (R (.d (i64 (Zaa .i64 (1*2 ^ min (Zat x) 64)))) b))
   (∃x1:Int, [Zae (u64 (Zaa .u64 x)), .d (i64 16)]= [.d (u64 x1), .d (i64 16)]∧R (.d (i64 (maskS x1))) b))):=by kernel_rfl
end
theorem seedS_iff {x:Int}:seedS x=true↔0≤x∧x≤1000000000:=by simp [seedS]
theorem shl_small {x:Int} (h0:0≤x) (h1:x<16):Zaa .i64 (1*2 ^ min (Zat x) 64)=2 ^ x.toNat:=by
 obtain ⟨n,rfl⟩:=Int.eq_ofNat_of_zero_le h0
 have hn:n<16:=by omega
 have h2:∀m:Fin 16,Zaa .i64 (1*2 ^ min (Zat ((m.val:Nat):Int)) 64)=2 ^ Zat ((m.val:Nat):Int):=by decide
 exact h2 ⟨n,hn⟩
theorem setS_cases (x:Int) {R:AV→Prop} (h:R (.d (i64 (setS x)))):BIf (!seedS x) (R (.d (i64 0))) (BIf (decide (x<16)) (BIf (decide (x<0)) False (R (.d (i64 (Zaa .i64 (1*2 ^ min (Zat x) 64))))))
   (∃x1:Int, [Zae (u64 (Zaa .u64 x)), .d (i64 16)]= [.d (u64 x1), .d (i64 16)]∧R (.d (i64 (maskS x1))))):=by
 by_cases hs:seedS x=true
 · obtain ⟨h0,h1⟩:=seedS_iff.1 hs
   refine BIf.f (by simp [hs]) ?_
   by_cases hx:x<16
   · refine BIf.t (by simpa using hx) (BIf.f (by simp;omega) ?_)
     rw [shl_small h0 hx]
     simpa [setS,hs,hx] using h
   · refine BIf.f (by simpa using hx) ⟨x,by rw [wrap_u64 h0 (by omega)],by simpa [setS,hs,hx] using h⟩
 · simp only [Bool.not_eq_true] at hs
   exact BIf.t (by simp [hs]) (by simpa [setS,hs] using h)
theorem pcSet (x:Int):PCall prog 33 [.d (i64 x)] (.d (i64 (setS x))):=by
 refine PCall.ofFn (n:=100) (u:=false) mixed TSet_ok SCallsOk.nil func33 (by rfl) (by rfl) fun Ev bb=> ?_
 rw [set_nf]
 exact ⟨x,rfl,setS_cases x (R:=fun y=>y=_) rfl⟩
def cSet (args:List AV) (K:AV→Prop):Prop:=∃(x z:Int),args= [.d (i64 x)]∧z=setS x∧K (.d (i64 z))
theorem cSet_ok:∀args K,cSet args K→∃x,PCall prog 33 args x∧K x:=by
 rintro _ K ⟨x,z,rfl,rfl,h⟩;exact ⟨_,pcSet x,h⟩
section
end
section
end
section
end
theorem setS_range {x:Int} (h:seedS x=true):1≤setS x∧setS x≤65535:=by
 obtain ⟨h0,h1⟩:=seedS_iff.1 h
 unfold setS
 simp only [h,Bool.true_eq_false,if_false]
 split
 · rename_i hx
   obtain ⟨n,rfl⟩:=Int.eq_ofNat_of_zero_le h0
   have hn:n<16:=by omega
   have h2:∀m:Fin 16,(1:Int)≤2 ^ Zat ((m.val:Nat):Int)∧(2:Int) ^ Zat ((m.val:Nat):Int)≤65535:=by decide
   exact h2 ⟨n,hn⟩
 · exact maskS_range x
end Go.Proofs.YtibhflogmbfpcaaGreatDoor.Am
namespace Go.Proofs
open Go.Shelf
def Tryz.lays27_ren:Go.Shelf.Ren:=⟨fun|27=>102|28=>155|29=>156|n=>n,fun|25=>162|3=>3|27=>59|22=>22|4=>4|53=>259|0=>0|5=>5|54=>260|n=>n,fun|0=>0|1=>1|n=>n⟩
theorem Tryz.lays27:Go.Proofs.Lays7.n27 prog Tryz.lays27_ren:= {
  mixed:=by kernel_rfl
  f27:=Tryz.func102.trans (congrArg some (by kernel_rfl))
  f28:=Tryz.func155.trans (congrArg some (by kernel_rfl))
  f29:=Tryz.func156.trans (congrArg some (by kernel_rfl))
  t0:=Tryz.underlying0
  a0:=Tryz.isAgg0
  z0:=Tryz.sizeOf0
  v0:=Tryz.zeroValue0
  i0:=by kernel_rfl
  t3:=Tryz.underlying3
  a3:=Tryz.isAgg3
  z3:=Tryz.sizeOf3
  v3:=Tryz.zeroValue3
  i3:=by kernel_rfl
  t4:=Tryz.underlying4
  a4:=Tryz.isAgg4
  z4:=Tryz.sizeOf4
  v4:=Tryz.zeroValue4
  i4:=by kernel_rfl
  t5:=Tryz.underlying5
  a5:=Tryz.isAgg5
  z5:=Tryz.sizeOf5
  v5:=Tryz.zeroValue5
  i5:=by kernel_rfl
  t22:=Tryz.underlying22
  a22:=Tryz.isAgg22
  z22:=Tryz.sizeOf22
  v22:=Tryz.zeroValue22
  i22:=by kernel_rfl
  t25:=Tryz.underlying162
  a25:=Tryz.isAgg162
  z25:=Tryz.sizeOf162
  v25:=Tryz.zeroValue162
  i25:=by kernel_rfl
  t27:=Tryz.underlying59
  a27:=Tryz.isAgg59
  z27:=Tryz.sizeOf59
  v27:=Tryz.zeroValue59
  i27:=by kernel_rfl
  t53:=Tryz.underlying259
  a53:=Tryz.isAgg259
  z53:=Tryz.sizeOf259
  v53:=Tryz.zeroValue259
  i53:=by kernel_rfl
  t54:=Tryz.underlying260
  a54:=Tryz.isAgg260
  z54:=Tryz.sizeOf260
  g0:=by kernel_rfl
  g1:=by kernel_rfl}
end Go.Proofs
