import Derived.Test.YthcbbmnjikhihaaGreatPmJ1
import Derived.Scope
import Derived.ChangeArms
import Derived.OpenShut
import Derived.ChangeShapes
import Derived.Carry
import Derived.ProofKit
import Derived.LaidMore
import Derived.FnData
import Derived.Maps.OwnSet
import Derived.Lib.SlKeysI
import Derived.Maps.Range
import Derived.Test.YthcbbmnjikhihaaGreatProg
set_option linter.unusedSimpArgs false
set_option linter.unusedVariables false
namespace Go.Proofs.YthcbbmnjikhihaaGreat.Am
open Go Go.RowKit Tryz
open AV renaming view → Zdg
open _root_.Array renaming getElem?_eq_some_iff → Zao
open Bool renaming and_eq_true → Zal, or_eq_true → Zfg
open Go.IntKind renaming wrap → Zac
open List renaming all_eq_true → Zbk, getElem?_append_left → Zaw, getElem?_eq_some_iff → Zaf, getElem?_take → Zbd, mem_append → Zca, mem_cons → Zbu, mem_iff_getElem? → Zay, mem_map → Zbf, mem_range → Zcs, range → Zbs, replicate → Zam
open MStep renaming refl → Zfb
open Nat renaming eq_of_beq_eq_true → Zdz, le_of_not_lt → Zdn, le_refl → Zat
open Option renaming map_eq_some_iff → Zap
open Go.World renaming putObj_heap_other → Zcr
open AV (bad)
set_option linter.unusedVariables false
set_option linter.unusedSimpArgs false
structure CX.Ok {P:Program} (Ev:Env P) (X:CX Ev.β):Prop where
 call:∀k f,X.call.lookup k=some f→∀args K,f args K→∃x,PCall P k args x∧K x
 scall:∀k f,X.scall.lookup k=some f→∀args hp K,f args hp K→∃x hp',SCall P k args hp x hp'∧K x hp'
 wl:∀c tm hp b K,X.wl c tm hp b K→W Ev c ⟨tm,hp,b⟩ (fun e s=>K e s.tm s.hp s.b)
 y:X.y=Ev.Y
section
variable {P:Program} {hp hp':List Blk} {tm tm':List AV} {o:Oper} {ops:Array Oper} {Ev:Env P} {X:CX Ev.β} {s:RS} {b:Ev.β}
theorem APb9 {x} {v} (h:evalA tm x= .d (.s (.bool v))):setB tm x v=tm:=by
 cases x with
 | tmp t=>
  simp only [evalA,List.getD] at h;simp only [setB];cases ht:tm[t]? with
  |none=>rw [ht] at h;cases h
  |some y=>rw [ht] at h;simp only [Option.getD_some] at h;subst h;exact ABm9 ht
 |_=>rfl
theorem AHw9 {A B} (h:BGi9 ops o tm A B):(ABh9 ops o tm=some true∧A tm)∨(ABh9 ops o tm=some false∧B tm):=by
 unfold BGi9 at h;unfold ABh9;split at h
 ·rename_i hg;rw [hg];exact .inl ⟨rfl,h⟩
 ·rename_i j want hg;rw [hg];split at h
  ·rename_i t ht;split at h
   ·rename_i bb hb;simp only [ht,hb];have hs:setB tm (.tmp t) bb=tm:=APb9 hb;rcases h.elim with ⟨rfl,h⟩|⟨rfl,h⟩<;>rw [hs] at h<;>cases want<;>simp only [Bool.false_eq_true,if_true,if_false] at h
    ·exact .inr ⟨rfl,h⟩
    ·exact .inl ⟨rfl,h⟩
    ·exact .inl ⟨rfl,h⟩
    ·exact .inr ⟨rfl,h⟩
   ·rename_i vs hb;simp only [ht,hb];exact .inr ⟨trivial,h⟩
   ·exact h.elim
  ·exact h.elim
theorem ARn9 {t} {x y} (h:pickO tm o=some (t,x,y)):setB tm (BAz9 o) t=tm:=by
 unfold pickO at h;split at h<;>try (cases h;done)
 rename_i c a b ho;split at h<;>try (cases h;done)
 rename_i t' hc;cases h;simp only [BAz9,ho];exact APb9 hc
theorem ARo9 {pv} {t} {x y} (h:pickO tm o=some (t,x,y)):bodyX P ⟨tm,hp,pv⟩ o=some ⟨putA tm o.dst (if t then x else y),hp,pvPut pv o.dst⟩:=by
 unfold pickO at h;split at h<;>try (cases h;done)
 rename_i c a b ho;split at h<;>try (cases h;done)
 rename_i t' hc;cases h;have h1:xa P ⟨tm,hp,pv⟩ o=none:=by simp [xa,ho]
 have h2:xh P ANi9 ⟨tm,hp,pv⟩ o=none:=by simp [xh,ho]
 have h3:ADp9 P ⟨tm,hp,pv⟩ o=none:=by
  unfold ADp9;rw [ho];cases o.dst<;>rfl
 simp only [bodyX,h1,h2,h3];simp [xq,ho,hc]
theorem BCp9 (hw:ABh9 ops o s.tm=some true):xStep P ANi9 ops s o=bodyX P s o:=by
 simp only [xStep,hw,bodyX];cases xa P s o with
 |some s1=>rfl
 | none=>cases xh P ANi9 s o with
  |some s1=>rfl
  |none=>cases xq P s.hp (evalA s.tm) o<;>rfl
theorem ADz9 {K} (h:restC P s o K):∃s',bodyX P s o=some s'∧K s':=by
 unfold restC at h;split at h
 ·rename_i s' hs;exact ⟨s',hs,h⟩
 ·exact h.elim
theorem ATm9 {c} {K} (ho:o.op= .call c) (h:BKp9 P s o c K):∃s',bodyX P s o=some s'∧K s':=by
 unfold BKp9 at h;split at h
 ·rename_i x y hcal hx hy;split at h
  ·rename_i e' i hi;split at h
   ·rename_i ys hys;split at h
    ·rename_i loc e k xs hacc;obtain ⟨hc,hK⟩:=h.elim';simp only [Zal,decide_eq_true_eq] at hc;obtain ⟨⟨⟨h1,h2⟩,h3⟩,h4⟩:=hc;refine ⟨_, ?_,hK⟩;unfold accOf at hacc;split at hacc<;>try (cases hacc;done)
     rename_i t;split at hacc<;>try (cases hacc;done)
     rename_i loc' hl;split at hacc<;>try (cases hacc;done)
     rename_i e1 k1 xs1 hown;cases hacc;simp only [bodyX,xa,ho,hcal,hx,hy,h3,hl,hown,hi,hys,if_true];rw [if_pos ⟨h1,h2,h4⟩]
    ·rename_i hacc;rcases h.elim with ⟨hc,h⟩|⟨hc,h⟩
     ·obtain ⟨h4,hK⟩:=h.elim';simp only [Zal,decide_eq_true_eq] at hc h4;refine ⟨_, ?_,hK⟩;have hxa:xa P s o=none:=by
       simp only [xa,ho,hcal,hx,hy];split<;>try rfl
       rename_i t y' _ e1 e2;cases e1;cases e2;split<;>try rfl
       split<;>try rfl
       rename_i loc hl;split<;>try rfl
       rename_i e k xs e1 i1 hown hi1;exfalso;simp only [accOf,hl,hown] at hacc;cases hacc
      have hxh:xh P ANi9 s o=none:=by simp [xh,ho,hcal]
      have hxq:xq P s.hp (evalA s.tm) o=some (.own e' i.size ys):=by
       simp only [xq,ho,hcal,hx,hy,hc.2,if_true,AFh9,hi,hys,hc.1];rw [if_pos h4]
      simp only [bodyX,hxa,hxh,hxq]
     ·split at h
      ·rename_i k xs hfull;rcases h.elim with ⟨hc,h⟩|⟨_,h⟩
       ·obtain ⟨h4,h⟩:=h.elim';simp only [Zal,decide_eq_true_eq] at hc h4;have hxa:xa P s o=none:=by
         simp only [xa,ho,hcal,hx,hy];split<;>try rfl
         rename_i t y' _ e1 e2;cases e1;cases e2;split<;>try rfl
         split<;>try rfl
         rename_i loc hl;split<;>try rfl
         rename_i e k xs e1 i1 hown hi1;exfalso;simp only [accOf,hl,hown] at hacc;cases hacc
        have hxh:xh P ANi9 s o=none:=by simp [xh,ho,hcal]
        rcases h.elim with ⟨he,hK⟩|⟨he,hK⟩
        ·have hxq:xq P s.hp (evalA s.tm) o=some (.full k xs):=by
          simp only [xq,ho,hcal,hx,hy,hc.2,if_true,AFh9,hi,hys,hfull,AAk9];rw [if_neg (by simp),if_pos ⟨hc.1,h4⟩,if_pos he]
         exact ⟨_,by simp only [bodyX,hxa,hxh,hxq],hK⟩
        ·have hxq:xq P s.hp (evalA s.tm) o=some (.own e' k (xs++ys)):=by
          simp only [xq,ho,hcal,hx,hy,hc.2,if_true,AFh9,hi,hys,hfull,AAk9];rw [if_neg (by simp),if_pos ⟨hc.1,h4⟩,if_neg (by simp [he])]
         exact ⟨_,by simp only [bodyX,hxa,hxh,hxq],hK⟩
       ·exact ADz9 h
      ·exact ADz9 h
   ·exact ADz9 h
  ·exact ADz9 h
 ·exact ADz9 h
theorem BAx9 {c} {K} (ho:o.op= .call c) (hc:c.callee= .builtin .copy) (h:copyC P s o c K):∃s',bodyX P s o=some s'∧K s':=by
 exact h.elim
theorem CCh9 {K} {p:Prop} (h:valG P s.hp s.tm o K=some p):xa P s o=none∧xh P ANi9 s o=none:=by
 unfold valG at h;split at h
 ·rename_i ho;exact ⟨by simp [xa,ho],by simp [xh,ho]⟩
 ·rename_i ho;exact ⟨by simp [xa,ho],by simp [xh,ho]⟩
 ·rename_i ho;exact ⟨by simp [xa,ho],by simp [xh,ho]⟩
 ·rename_i c ho;split at h<;>try (cases h;done)
  ·rename_i x hc hx0;exact ⟨by simp [xa,ho,hc],by simp [xh,ho,hc]⟩
  ·rename_i x hc hx0;exact ⟨by simp [xa,ho,hc],by simp [xh,ho,hc]⟩
 ·rename_i ho;exact ⟨by simp [xa,ho],by simp [xh,ho]⟩
 ·cases h
theorem BBz9 {K} (h:bodyC P s o K):∃s',bodyX P s o=some s'∧K s':=by
 unfold bodyC at h;split at h
 ·rename_i p hv;obtain ⟨x,hx,hK⟩:=AQk9 hv h;obtain ⟨h1,h2⟩:=CCh9 hv;exact ⟨_,by simp only [bodyX,h1,h2,hx],hK⟩
 split at h
 ·rename_i t x y hp';have hs:=ARn9 hp';rcases h.elim with ⟨rfl,hK⟩|⟨rfl,hK⟩
  ·rw [hs] at hK;exact ⟨_,ARo9 hp',hK⟩
  ·rw [hs] at hK;exact ⟨_,ARo9 hp',hK⟩
 ·split at h
  ·rename_i hq;obtain ⟨x,hx,hK⟩:=AQl9 h;refine ⟨_, ?_,hK⟩;have hxa:xa P s o=none:=by
    unfold xa;split<;>try rfl
    rename_i c ho;rw [ho] at hq;cases hq
   have hxh:xh P ANi9 s o=none:=by
    unfold xh;split<;>first|rfl|(rename_i ho;rw [ho] at hq;cases hq)
   simp only [bodyX,hxa,hxh,hx]
  ·split at h
   ·rename_i c ho;split at h
    ·rename_i hc;exact BAx9 ho hc h
    ·exact ATm9 ho h
   ·exact ADz9 h
mutual
theorem AJu9:∀ {x} {K},sealC hp x K→∃y,SealR hp x y∧K y
 | .gref g ver n k,K,h=>by
  simp only [sealC] at h;split at h
  ·rename_i blk hb;obtain ⟨hg,hv,xs,h1,h2,h3,hK⟩:=h.elim';exact ⟨_, .gref hb hg hv h1 h2 h3,hK⟩
  ·exact h.elim
 | .agg cs,K,h=>by
  simp only [sealC] at h;obtain ⟨ys,hl,hs,hK⟩:=AEf9 h;exact ⟨_, .agg hl hs,hK⟩
 | .tup cs,K,h=>by
  simp only [sealC] at h;obtain ⟨ys,hl,hs,hK⟩:=AEf9 h;exact ⟨_, .tup hl hs,hK⟩
 | .fn f a b,K,h=>by
  simp only [sealC] at h;obtain ⟨ys,hl,hs,h2⟩:=AEf9 h;obtain ⟨zs,hl',hs',hK⟩:=AEf9 h2;exact ⟨_, .fn hl hl' hs hs',hK⟩
 | .own e k xs,K,h=>⟨.d (.sl k xs), .v (by simp [sealV]),by simpa only [sealC] using h⟩
 | .ref g off n cap k,K,h=>by
  simp only [sealC] at h;split at h
  ·rename_i y hy;exact ⟨y, .v hy,h⟩
  ·exact h.elim
 | .ptr g off,K,h=>by
  simp only [sealC] at h;split at h
  ·rename_i y hy;exact ⟨y, .v hy,h⟩
  ·exact h.elim
 | .gptr ..,K,h=>by simp only [sealC] at h
 | .yl,K,h=>by simp only [sealC] at h
 | .d x,K,h=>⟨.d x, .v (by simp [sealV]),by simpa only [sealC] using h⟩
 | .full k xs,K,h=>⟨.full k xs, .v (by simp [sealV]),by simpa only [sealC] using h⟩
 | .rptr cs,K,h=>⟨.rptr cs, .v (by simp [sealV]),by simpa only [sealC] using h⟩
 | .bad,K,h=>⟨.bad, .v (by simp [sealV]),by simpa only [sealC] using h⟩
theorem AEf9:∀ {cs} {K},ARd9 hp cs K→∃ys,cs.length=ys.length∧(∀(i:Nat) (c y:AV),cs[i]? =some c→ys[i]? =some y→SealR hp c y)∧K ys
 | [],K,h=>⟨[],rfl,fun i c y h=>by simp at h,by simpa only [ARd9] using h⟩
 | x::l,K,h=>by
  simp only [ARd9] at h;obtain ⟨y,hy,h2⟩:=AJu9 h;obtain ⟨ys,hl,hs,hK⟩:=AEf9 h2;refine ⟨y::ys,by simp [hl],fun i c z h3 h4=> ?_,hK⟩;cases i with
  |zero=>simp at h3 h4;subst h3;subst h4;exact hy
  |succ i=>exact hs i c z (by simpa using h3) (by simpa using h4)
end
mutual
theorem ALv9:∀ {n} {x} {K},BEo9 hp n x K→∃y,SealD hp x y∧K y
 |0,x,K,h=>by simp only [BEo9] at h
 | n+1,x,K,h=>by
  unfold BEo9 at h;split at h
  ·split at h
   ·rename_i y hy;exact ⟨y, .r (.v hy),h⟩
   ·split at h
    ·rename_i blk hb;split at h
     ·exact h.elim
     ·rename_i hgr;obtain ⟨ys,hl,hs,h2⟩:=ABu9 h;split at h2
      ·rename_i d ds hds;exact ⟨_, .ptr hb (by simpa using hgr) hl hs hds,h2⟩
      ·exact h2.elim
    ·exact h.elim
  ·obtain ⟨ys,hl,hs,hK⟩:=ABu9 h;exact ⟨_, .agg hl hs,hK⟩
  ·obtain ⟨ys,hl,hs,hK⟩:=ABu9 h;exact ⟨_, .tup hl hs,hK⟩
  ·obtain ⟨ys,hl,hs,h2⟩:=ABu9 h;obtain ⟨zs,hl',hs',hK⟩:=ABu9 h2;exact ⟨_, .fn hl hl' hs hs',hK⟩
  ·obtain ⟨y,hy,hK⟩:=AJu9 h;exact ⟨y, .r hy,hK⟩
theorem ABu9:∀ {n} {cs} {K:List AV→Prop},AGh9 hp n cs K→∃ys,cs.length=ys.length∧(∀(i:Nat) (c y:AV),cs[i]? =some c→ys[i]? =some y→SealD hp c y)∧K ys
 |0,cs,K,h=>by simp only [AGh9] at h
 | n+1,cs,K,h=>by
  unfold AGh9 at h;split at h
  ·exact ⟨[],rfl,fun i c y h=>by simp at h,h⟩
  ·obtain ⟨y,hy,h2⟩:=ALv9 h;obtain ⟨ys,hl,hs,hK⟩:=ABu9 h2;refine ⟨y::ys,by simp [hl],fun i c z h3 h4=> ?_,hK⟩;cases i with
   |zero=>simp at h3 h4;subst h3;subst h4;exact hy
   |succ i=>exact hs i c z (by simpa using h3) (by simpa using h4)
end
theorem AMo9 (gs):∀l:List AV,FrzTm hp gs l l
 | []=>trivial
 |x::l=>⟨.inl rfl,AMo9 gs l⟩
theorem AHs9 {gs} {tm0}:∀ {ts:List Nat} {tm:List AV} {K:List AV→Prop},AUq9 hp ts tm K→ts.Nodup→FrzTm hp gs tm0 tm→(∀t∈ts,tm.getD t .bad=tm0.getD t .bad)→(∀t∈ts,∀g∈occ (tm0.getD t .bad),g∈gs)→
 ∃tm1,FrzTm hp gs tm0 tm1∧K tm1
 | [],tm,K,h,_,hf,_,_=>⟨tm,hf,h⟩
 | t::ts,tm,K,h,hnd,hf,hsame,hocc=>by
  simp only [AUq9] at h;obtain ⟨y,hy,h⟩:=AJu9 h;rcases h.elim with ⟨_,h⟩|⟨ho,h⟩
  ·exact h.elim
  obtain ⟨hn1,hn2⟩:=List.nodup_cons.1 hnd;have hset:FrzTm hp gs tm0 (tm.set t y):=by
   have key:∀l l' t,FrzTm hp gs l l'→(t<l.length→SealR hp (l.getD t .bad) y∧∀g∈occ (l.getD t .bad),g∈gs)→FrzTm hp gs l (l'.set t y):=by
    intro l;induction l with
    | nil=>
     intro l' t h _;cases l' with
     |nil=>exact trivial
     |cons _ _=>exact h.elim
    | cons x l ih=>
     intro l' t h hs;cases l' with
     |nil=>exact h.elim
     | cons z l'=>
      cases t with
      | zero=>
       have:=hs (by simp);exact ⟨.inr ⟨by simpa using this.1,by simpa using this.2,ho⟩,h.2⟩
      |succ t=>exact ⟨h.1,ih l' t h.2 fun ht=>by simpa using hs (by simpa using ht)⟩
   refine key tm0 tm t hf fun ht=>⟨?_,hocc t (List.mem_cons_self ..)⟩;rw [←hsame t (List.mem_cons_self ..)];exact hy
  refine AHs9 h hn2 hset (fun t' ht'=> ?_) fun t' ht'=>hocc t' (List.mem_cons_of_mem _ ht');have hne:t≠t':=fun he=>hn1 (he▸ht');rw [←hsame t' (List.mem_cons_of_mem _ ht')];simp [List.getD,List.getElem?_set_ne hne]
theorem FrzTm.at {gs}:∀ {l l'} {t} {x},FrzTm hp gs l l'→l.getD t .bad= .d x→l'.getD t .bad= .d x
 | [], [],_,_,_,h=>h
 | [],_::_,_,_,h,_=>h.elim
 |_::_, [],_,_,h,_=>h.elim
 | y::l,z::l',0,x,h,hx=>by
  simp only [List.getD_cons_zero] at hx ⊢;subst hx;rcases h.1 with rfl|⟨h1,_⟩
  ·rfl
  ·cases h1 with
   |v h1=>simp only [sealV,Option.some.injEq] at h1;exact h1.symm
 | y::l,z::l',t+1,x,h,hx=>by
  simp only [List.getD_cons_succ] at hx ⊢;exact FrzTm.at h.2 hx
theorem AZn9 {gs:List Nat} {tm tm'} {v} (h:FrzTm hp gs tm tm') (hw:ABh9 ops o tm=some v):ABh9 ops o tm'=some v:=by
 unfold ABh9 at hw ⊢;split at hw
 ·exact hw
 ·rename_i j want hg;split at hw<;>try (cases hw;done)
  rename_i t ht;split at hw<;>try (cases hw;done)
  ·rename_i b hb;simp only [h.at hb];exact hw
  ·rename_i b hb;simp only [h.at hb];exact hw
theorem BGp9 {pc} {K} (h:frzC pc s o K) (hnd:(AXi9 pc s o).Nodup):∃s0,FrzOk s s0∧(∀v,ABh9 ops o s.tm=some v→ABh9 ops o s0.tm=some v)∧K s0:=by
 unfold frzC at h;split at h
 ·exact ⟨s, .rfl,fun _ h=>h,h⟩
 ·rename_i t ts hn;rw [hn] at hnd;obtain ⟨tm1,hf,hK⟩:=AHs9 (gs:=occs ((t::ts).map fun t=>s.tm.getD t .bad)) (tm0:=s.tm) h hnd (AMo9 _ _) (fun _ _=>rfl) fun t' ht' g hg=>by
   obtain ⟨j,hj⟩:=Zay.1 ht';exact AEq9 (i:=j) (by rw [List.getElem?_map,hj];rfl) g hg
  exact ⟨_,CFa9 hf,fun v hw=>AZn9 hf hw,hK⟩
theorem AHm9 (l:List Nat):l.eraseDups.Nodup:=by
 have key:∀n (l:List Nat),l.length≤n→l.eraseDups.Nodup:=by
  intro n;induction n with
  |zero=>intro l h;have:l= []:=List.length_eq_zero_iff.1 (by omega);subst this;simp
  | succ n ih=>
   intro l h;cases l with
   |nil=>simp
   | cons a l=>
    rw [List.eraseDups_cons];refine List.nodup_cons.2 ⟨?_,ih _ ?_⟩
    ·rw [List.mem_eraseDups];simp
    ·have:=List.length_filter_le (fun b=> !b==a) l;simp only [List.length_cons] at h;omega
 exact key l.length l (Zat _)
theorem ARv9 (pc) (s) (o):(AXi9 pc s o).Nodup:=by
 unfold AXi9;split
 ·split
  ·split
   ·split
    ·exact AHm9 _
    ·simp
   ·simp
  ·split
   ·unfold leans;split
    ·split<;>simp
    ·simp
   ·simp
  ·simp
 ·exact AHm9 _
 ·simp
theorem BHc9 {gt} {c} {x y} {K} {p:Prop} (h:extZ P gt s o c x y K=some p) (hp0:p) (ho:o.op= .call c) (hc:c.callee= .builtin .append) (h0:c.args[0]? =some x) (h1:c.args[1]? =some y):∃s',ExtOk P o s s'∧K s':=by
 unfold extZ at h;split at h<;>try (cases h;done)
 rename_i t tn ht htn;split at h<;>try (cases h;done)
 rename_i e kn k n hu hun hy;split at h<;>try (cases h;done)
 rename_i i hi;split at h<;>try (cases h;done)
 rename_i hgt;split at h<;>try (cases h;done)
 rename_i zr hz;cases h;obtain ⟨hcc,hK⟩:=hp0.elim';simp only [Zal,decide_eq_true_eq] at hcc hgt;obtain ⟨⟨⟨⟨⟨⟨⟨⟨a1,a2⟩,a3⟩,a4⟩,a5⟩,a6⟩,a7⟩,a8⟩,a9⟩:=hcc;exact ⟨_,BOe9 ho hc a1 h0 h1 a2 ht htn hu hun hi hgt.2 hy hz a3 a4 a5 a6 a7 a8 a9,hK⟩
theorem BAu9 {c} {x y} {K} {p:Prop} (h:extCp P s o c x y K=some p) (hp0:p) (ho:o.op= .call c) (hc:c.callee= .builtin .copy) (h0:c.args[0]? =some x) (h1:c.args[1]? =some y):∃s',ExtOk P o s s'∧K s':=by
 cases h
theorem BAt9 {gt} {t} {lo co} {K} {p:Prop} (h:extMk P gt s o t lo co K=some p) (hp0:p) (ho:o.op= .makeSlice t lo co):∃s',ExtOk P o s s'∧K s':=by
 unfold extMk at h;split at h<;>try (cases h;done)
 rename_i e hu;split at h<;>try (cases h;done)
 split at h<;>try (cases h;done)
 rename_i kl l kc c i hl hc hi;split at h<;>try (cases h;done)
 rename_i zr hz;cases h;obtain ⟨hcc,hK⟩:=hp0.elim';simp only [Zal,decide_eq_true_eq] at hcc;obtain ⟨⟨⟨⟨⟨⟨a1,a2⟩,a3⟩,a4⟩,a5⟩,a6⟩,a7⟩:=hcc;exact ⟨_,BXj9 ho hu hi hl hc hz a1 a2 a3 a4 a5 a6 a7,hK⟩
theorem AVe9 {t} {x hi} {K} {p:Prop} (h:BXk9 P s o t x hi K=some p) (hp0:p) (ho:o.op= .slice t x none (some hi) none):∃s',ExtOk P o s s'∧K s':=by
 unfold BXk9 at h;split at h<;>try (cases h;done)
 rename_i g ver n k kk j e hx hj hu;split at h<;>try (cases h;done)
 rename_i i blk hi' hg;cases h;obtain ⟨hcc,hv,hK⟩:=hp0.elim';simp only [Zal,decide_eq_true_eq,Bool.not_eq_true'] at hcc;obtain ⟨⟨⟨⟨rfl,a2⟩,a3⟩,a4⟩,a5⟩:=hcc;exact ⟨_,CFh9 ho hu hi' hx hj hg a2 hv a3 a4 a5,hK⟩
theorem BHd9 {gt} {K} {p:Prop} (h:extC P gt s o K=some p) (hp0:p):∃s',ExtOk P o s s'∧K s':=by
 unfold extC at h;split at h
 ·rename_i c ho;split at h
  ·rename_i x y hc h0 h1;split at h
   rotate_left
   ·exact BHc9 h hp0 ho hc h0 h1
   rename_i e i hinf;split at h
   ·rename_i g ver n k hx;split at h<;>try (cases h;done)
    rename_i blk ys hg hys;cases h;obtain ⟨hcc,hv,h2⟩:=hp0.elim';obtain ⟨hfit,hK⟩:=h2.elim';simp only [Zal,decide_eq_true_eq,Bool.not_eq_true'] at hcc hfit;obtain ⟨⟨⟨hsz,rfl⟩,hgr⟩,hf⟩:=hcc;exact ⟨_,ASw9 ho hc hsz h0 h1 hinf hx hys hg hgr hv hf hfit,hK⟩
   ·split at h<;>try (cases h;done)
    rename_i hgt;split at h<;>try (cases h;done)
    rename_i ys hys;cases h;obtain ⟨hcc,h2⟩:=hp0.elim';simp only [Zal,decide_eq_true_eq,Zfg] at hcc hgt;have hbase:AAk9 (evalA s.tm x)=true∨evalA s.tm x= .full i.size []:=by
     rcases hgt.2 with h3|h3
     ·exact .inl h3
     ·right;unfold BRk9 at h3;split at h3
      ·rename_i k hk;rw [hk];simp only [decide_eq_true_eq] at h3;rw [h3]
      ·cases h3
    rcases h2.elim with ⟨hpos,hK⟩|⟨hpos,hK⟩
    ·have hpos:0<ys.length:=by simpa using hpos
     exact ⟨_,AXp9 ho hc hcc.1 h0 h1 hinf hbase hys (List.length_pos_iff.1 hpos) hcc.2,hK⟩
    ·have hpos:ys= []:=by
      have:¬0<ys.length:=by simpa using hpos
      exact List.length_eq_zero_iff.1 (by omega)
     subst hpos;exact ⟨_,BXi9 ho hc hcc.1 h0 h1 hinf hbase hys,hK⟩
  ·rename_i x y hc h0 h1;exact BAu9 h hp0 ho hc h0 h1
  ·cases h
 ·rename_i t lo co ho;exact BAt9 h hp0 ho
 ·rename_i t x hi ho;exact AVe9 h hp0 ho
 ·rename_i t ax x ho;split at h<;>try (cases h;done)
  rename_i g ver off hax;split at h<;>try (cases h;done)
  rename_i i blk xs hi hg hxs;cases h;obtain ⟨hcc,hv,h2⟩:=hp0.elim';obtain ⟨hoff,hK⟩:=h2.elim';simp only [Zal,decide_eq_true_eq,Bool.not_eq_true'] at hcc hoff;exact ⟨_,BOf9 ho hi hax hxs hg hcc.1.1 hcc.1.2 hv hcc.2 hoff,hK⟩
 ·cases h
theorem BHm9 {K} {p:Prop} (h:demC P s o K=some p) (hp0:p):∃T:RS→Prop,DemOk P o s T∧∀s',T s'→K s':=by
 unfold demC at h;split at h<;>try (cases h;done)
 rename_i op t x y ty ho;split at h<;>try (cases h;done)
 rename_i hn;split at h<;>try (cases h;done)
 all_goals
  rename_i k xs e hrows hu;cases h
 ·refine ⟨fun s'=>∃t:Bool,(t=true→xs= [])∧s'= {tm:=putA s.tm o.dst (.d (.s (.bool t))),hp:=s.hp,pv:=pvPut s.pv o.dst}, ?_, ?_⟩
  ·intro r S X yv w m B hv a K' Q hr hK;have h1:=AGi9 hrows (AAf9 hr x);have h2:=AAu9 hn (AAf9 hr y);obtain ⟨hl,hr',hpv⟩:=hr;obtain ⟨base,n,cap,hv1,hbb⟩:∃base n cap,a.eval x= .slice base n cap∧(base.isNone=true→xs= []):=by
    generalize a.eval x=v at h1;cases h1 with
    |nil=>exact ⟨_,_,_,rfl,fun _=>rfl⟩
    |sl=>exact ⟨_,_,_,rfl,fun h=>by cases h⟩
   obtain ⟨q1,q2,q3,q4⟩:=AHf9 hu base n cap x y w;have hexec:(execOp a.eval o).run P w= .ok (.value (.bool base.isNone)) w:=by
    unfold execOp;rw [ho];simp only [hv1,h2,Sem.run_bind];simp only [Sem.run_bind] at q1;rw [q1];rfl
   refine AAp9 (by simp [ho]) hexec (.inl rfl) ?_;exact Nx.of (hK _ ⟨base.isNone,hbb,rfl⟩) (Gs.refl S X none w m) hl (hr'.cons (x:= .d (.s (.bool base.isNone))) (v:= .bool base.isNone) (.d (.s _)) rfl) (ACn9 hpv _ _)
  ·rintro _ ⟨t,ht,rfl⟩;exact hp0 t ht
 ·refine ⟨fun s'=>∃t:Bool,(t=true→xs= [])∧s'= {tm:=putA s.tm o.dst (.d (.s (.bool !t))),hp:=s.hp,pv:=pvPut s.pv o.dst}, ?_, ?_⟩
  ·intro r S X yv w m B hv a K' Q hr hK;have h1:=AGi9 hrows (AAf9 hr x);have h2:=AAu9 hn (AAf9 hr y);obtain ⟨hl,hr',hpv⟩:=hr;obtain ⟨base,n,cap,hv1,hbb⟩:∃base n cap,a.eval x= .slice base n cap∧(base.isNone=true→xs= []):=by
    generalize a.eval x=v at h1;cases h1 with
    |nil=>exact ⟨_,_,_,rfl,fun _=>rfl⟩
    |sl=>exact ⟨_,_,_,rfl,fun h=>by cases h⟩
   obtain ⟨q1,q2,q3,q4⟩:=AHf9 hu base n cap x y w;have hexec:(execOp a.eval o).run P w= .ok (.value (.bool !base.isNone)) w:=by
    unfold execOp;rw [ho];simp only [hv1,h2,Sem.run_bind];simp only [Sem.run_bind] at q2;rw [q2];rfl
   refine AAp9 (by simp [ho]) hexec (.inl rfl) ?_;exact Nx.of (hK _ ⟨base.isNone,hbb,rfl⟩) (Gs.refl S X none w m) hl (hr'.cons (x:= .d (.s (.bool !base.isNone))) (v:= .bool !base.isNone) (.d (.s _)) rfl) (ACn9 hpv _ _)
  ·rintro _ ⟨t,ht,rfl⟩;exact hp0 t ht
theorem AXf9 {K} {R} {l} (hX:X.Ok) (h:opC P X ops o s b K) (hK:∀s' b',K s' b'→wOps Ev ops l s' b' R):wOps Ev ops (o::l) s b R:=by
 unfold opC at h;rcases AHw9 h with ⟨hw0,h⟩|⟨hw,h⟩
 ·obtain ⟨s0,hfz,hgd,h⟩:=BGp9 h (ARv9 _ _ _);have hw:ABh9 ops o s0.tm=some true:=hgd _ hw0;refine ⟨s0,hfz, ?_⟩;split at h
  ·rename_i k args hc;split at h
   ·rename_i f hf;obtain ⟨hcl,h⟩:=h.elim';obtain ⟨x,hp,h⟩:=hX.call k f hf args _ h;exact .inr (.inl ⟨hw,k,args,hc, .inl ⟨hcl,x,hp,hK _ _ h⟩⟩)
   ·split at h
    ·rename_i f hf;obtain ⟨x,hp',hp,h⟩:=hX.scall k f hf args _ _ h;exact .inr (.inl ⟨hw,k,args,hc, .inr ⟨x,hp',hp,hK _ _ h⟩⟩)
    ·exact h.elim
  ·split at h
   ·rename_i args hy;obtain ⟨hcl,h⟩:=h.elim';rw [hX.y] at h;exact .inr (.inr (.inl ⟨hw,args,hy,hcl,Ev.Ymono h fun _ _ h=>hK _ _ h⟩))
   ·split at h
    ·rename_i p hpx;obtain ⟨T,he,h⟩:=BHm9 hpx h;exact .inr (.inr (.inr ⟨hw, .inl ⟨T,he,fun s' hs=>hK _ _ (h s' hs)⟩⟩))
    split at h
    ·rename_i p hpx;obtain ⟨s',he,h⟩:=BHd9 hpx h;exact .inr (.inr (.inr ⟨hw, .inl ⟨_,he.dem,fun s'' hs=>by subst hs;exact hK _ _ h⟩⟩))
    ·obtain ⟨s',hs,h⟩:=BBz9 h;exact .inl ⟨s',by rw [BCp9 hw];exact hs,hK _ _ h⟩
 ·exact ⟨s, .rfl, .inl ⟨_,by simp only [xStep,hw],hK _ _ h⟩⟩
theorem AGl9 (hX:X.Ok) {R}:∀ {l} {s} {b} {K},opsC P X ops l s b K→(∀s' b',K s' b'→R s' b')→wOps Ev ops l s b R
 | [],s,b,K,h,hK=>hK _ _ h
 |o::l,s,b,K,h,hK=>AXf9 hX h fun s' b' h=>AGl9 hX h hK
open Classical in
noncomputable def tblD (tb:Tbl):CallT:=
 ⟨fun d k args=>match tb.find? (fun t=>t.1==d) with
  |some t=>if t.2.1=k∧t.2.2.1=args then some t.2.2.2 else none
  |none=>none,fun _ _ _=>none⟩
theorem AWm9 {tb} (h:∀t∈tb,PCall P t.2.1 t.2.2.1 t.2.2.2):AHz9 P (tblD tb):=by
 refine ⟨fun d f args r hr=> ?_,fun _ _ _ _ _ h=>by cases h⟩;simp only [tblD] at hr;split at hr<;>try (cases hr;done)
 rename_i t ht;split at hr<;>try (cases hr;done)
 rename_i hc;cases hr;have:=h t (List.mem_of_find?_eq_some ht);rw [hc.1,hc.2] at this;exact this
theorem ATt9 {call} {x} (hw:ABh9 ops o tm=some true) (hx:xq P hp (evalA tm) o=some x):xp P call ops hp tm o=some x:=by
 unfold xp;rw [hw];simp only;split
 ·rename_i c ho;split
  ·rename_i f hc;simp [xq,ho,hc] at hx
  ·rename_i f hc;simp [xq,ho,hc] at hx
  ·exact hx
 ·exact hx
theorem ADl9:∀ {T:Tbl},(T.map (·.1)).Nodup→∀t∈T,T.find? (fun e=>e.1==t.1)=some t
 | [],_,t,h=>by cases h
 | e::T,hn,t,h=>by
  simp only [List.map_cons,List.nodup_cons] at hn;rcases Zbu.1 h with rfl|h
  ·simp
  ·have hne:¬e.1=t.1:=fun he=>hn.1 (he▸Zbf.2 ⟨t,h,rfl⟩);rw [List.find?_cons_of_neg (by simpa using hne)];exact ADl9 hn.2 t h
theorem ACm9 (hX:X.Ok):∀ {l} {tm} {tb} {K},preC P X ops hp l tm tb K→
 ∃tmK tb',K tmK tb'∧(∀t∈tb,t∈tb')∧((∀t∈tb,PCall P t.2.1 t.2.2.1 t.2.2.2)→∀t∈tb',PCall P t.2.1 t.2.2.1 t.2.2.2)∧∀T:Tbl,(∀t∈tb',T.find? (fun e=>e.1==t.1)=some t)→xPre P (tblD T) ops hp l tm=some tmK
 | [],tm,tb,K,h=>⟨tm,tb,h,fun _ h=>h,fun h=>h,fun _ _=>rfl⟩
 | o::l,tm,tb,K,h=>by
  simp only [preC] at h;rcases AHw9 h with ⟨hw,h⟩|⟨hw,h⟩
  ·split at h
   ·rename_i k args hc;split at h
    ·rename_i f hf;obtain ⟨hcl,h⟩:=h.elim';obtain ⟨x,hpc,h⟩:=hX.call k f hf args _ h;obtain ⟨tmK,tb',h1,h2,h3,h4⟩:=ACm9 hX h;refine ⟨tmK,tb',h1,fun t ht=>h2 t (List.mem_cons_of_mem _ ht),fun hall=>h3 fun t ht=> ?_,fun T hT=> ?_⟩
     ·rcases Zbu.1 ht with rfl|ht
      ·exact hpc
      ·exact hall t ht
     ·have hf':=hT _ (h2 _ (List.mem_cons_self ..));have hxp:xp P (tblD T) ops hp tm o=some x.view:=by
       unfold AHv9 at hc;split at hc<;>try (cases hc;done)
       rename_i c ho;split at hc<;>try (cases hc;done)
       rename_i f hcc;unfold xp;simp only [hw,ho,hcc,hc,hcl,if_true];simp only at hf';simp [tblD,hf']
      simp only [xPre,hxp];exact h4 T hT
    ·exact h.elim
   ·split at h
    ·rename_i k args hc;split at h
     ·rename_i f hf;obtain ⟨hcl,h⟩:=h.elim';obtain ⟨x,hpc,h⟩:=hX.call k f hf args _ h;obtain ⟨tmK,tb',h1,h2,h3,h4⟩:=ACm9 hX h;refine ⟨tmK,tb',h1,fun t ht=>h2 t (List.mem_cons_of_mem _ ht),fun hall=>h3 fun t ht=> ?_,fun T hT=> ?_⟩
      ·rcases Zbu.1 ht with rfl|ht
       ·exact hpc
       ·exact hall t ht
      ·have hf':=hT _ (h2 _ (List.mem_cons_self ..));have hxp:xp P (tblD T) ops hp tm o=some x.view:=by
        unfold BRm9 at hc;split at hc<;>try (cases hc;done)
        rename_i c ho;split at hc<;>try (cases hc;done)
        rename_i ro name hcc;unfold xp;simp only [hw,ho,hcc,hc,hcl,if_true];simp only at hf';simp [tblD,hf']
       simp only [xPre,hxp];exact h4 T hT
     ·exact h.elim
    ·split at h
     ·rename_i t x y hpick;have hxq:xq P hp (evalA tm) o=some (if t then x else y):=by
       unfold pickO at hpick;split at hpick<;>try (cases hpick;done)
       rename_i c a b ho;split at hpick<;>try (cases hpick;done)
       rename_i t'' hc;cases hpick;simp [xq,ho,hc]
      have hs:=ARn9 hpick;rcases h.elim with ⟨rfl,h⟩|⟨rfl,h⟩<;>rw [hs] at h
      ·obtain ⟨tmK,tb',h1,h2,h3,h4⟩:=ACm9 hX h;exact ⟨tmK,tb',h1,h2,h3,fun T hT=>by simp only [xPre,ATt9 hw hxq];exact h4 T hT⟩
      ·obtain ⟨tmK,tb',h1,h2,h3,h4⟩:=ACm9 hX h;exact ⟨tmK,tb',h1,h2,h3,fun T hT=>by simp only [xPre,ATt9 hw hxq];exact h4 T hT⟩
     ·obtain ⟨x,hxq,h⟩:=AQl9 h;obtain ⟨tmK,tb',h1,h2,h3,h4⟩:=ACm9 hX h;exact ⟨tmK,tb',h1,h2,h3,fun T hT=>by simp only [xPre,ATt9 hw hxq];exact h4 T hT⟩
  ·obtain ⟨tmK,tb',h1,h2,h3,h4⟩:=ACm9 hX h;refine ⟨tmK,tb',h1,h2,h3,fun T hT=> ?_⟩;have:xp P (tblD T) ops hp tm o=some (.d (.s undef)):=by unfold xp;rw [hw]
   simp only [xPre,this];exact h4 T hT
def hdr (blk:Blk):Bool×Nat×Nat:=(blk.grow,blk.ver,blk.cells.length)
structure Sim (fp:List (Nat×Nat×Nat)) (ex:List Nat) (h h':List Blk):Prop where
 hd:∀g,g<h.length→g∉ex→(h'[g]?).map hdr=(h[g]?).map hdr
 ln:h.length≤h'.length
 same:∀g blk blk' i,g∉ex→h[g]? =some blk→h'[g]? =some blk'→BCb9 fp g i 1=true→blk'.cells[i]? =blk.cells[i]?
theorem Sim.refl (fp) (ex) (h):Sim fp ex h h:=⟨fun _ _ _=>rfl,Zat _,fun g blk blk' i _ h1 h2 _=>by rw [h1] at h2;cases h2;rfl⟩
theorem Sim.widen {fp fp1} {ex} {h h'} (hs:Sim fp ex h h'):Sim (fp++fp1) ex h h':=
 ⟨hs.hd,hs.ln,fun g blk blk' i h0 h1 h2 h3=>hs.same g blk blk' i h0 h1 h2 (by simp only [BCb9,List.all_append,Zal] at h3;exact h3.1)⟩
theorem AGe9 {tm} {o} {l} (h:∀t a x,o.op≠ .store t a x):ABn9 tm (o::l)=ABn9 tm l:=by
 simp only [ABn9]
theorem AIa9 {ex} {l} {tmF}:∀ {tm} {h0 h:List Blk} {sts:List (List AV×List Blk)},AEo9 P l tm h=some sts→(∀g∈appGs tmF l,g∈ex)→
 (∀(i:Nat) (o:Oper) (t:List AV) (hh:List Blk),l[i]? =some o→sts[i]? =some (t,hh)→∀y∈o.op.operands,evalA t y=evalA tmF y)→
 ∀fp0,Sim fp0 ex h0 h→∀st∈sts,Sim (fp0++ABn9 tmF l) ex h0 st.2∧(ACy9 l=false→st.2.length=h.length):=by
 induction l with
 | nil=>
  intro tm h0 h sts hx _ _ fp0 hs st hh;simp only [AEo9,Option.some.injEq] at hx;subst hx;rw [List.mem_singleton.1 hh];exact ⟨by simpa [ABn9] using hs,fun _=>rfl⟩
 | cons o l ih=>
  intro tm h0 h sts hx hex hev fp0 hs st hh;simp only [AEo9] at hx;split at hx<;>try (cases hx;done)
  rename_i xr h1 hl;simp only [Zap] at hx;obtain ⟨sts',hx,rfl⟩:=hx;have hev':∀(i:Nat) (o:Oper) (t:List AV) (hh:List Blk),l[i]? =some o→sts'[i]? =some (t,hh)→∀y∈o.op.operands,evalA t y=evalA tmF y:=
   fun i o' t hh e1 e2=>hev (i+1) o' t hh (by simpa using e1) (by simpa using e2)
  have hex':∀g∈appGs tmF l,g∈ex:=fun g hg=>hex g (by
   unfold appGs;split<;>try exact hg
   split<;>try exact hg
   split<;>try exact hg
   exact List.mem_cons_of_mem _ hg)
  unfold xLate at hl;split at hl<;>try (cases hl;done)
  ·rename_i t a x ho hg hd;have ea:=hev 0 o tm h rfl rfl a (by simp [ho,Op.operands]);have ex':=hev 0 o tm h rfl rfl x (by simp [ho,Op.operands]);split at hl<;>try (cases hl;done)
   rename_i hown;split at hl<;>try (cases hl;done)
   rename_i xs hxs;simp only [Zap,Prod.mk.injEq] at hl;obtain ⟨h2,hl,rfl,rfl⟩:=hl;unfold BCo9 at hl;split at hl<;>try (cases hl;done)
   rename_i i g off hi ha;split at hl<;>try (cases hl;done)
   rename_i blk hblk;split at hl<;>try (cases hl;done)
   rename_i hc;cases hl;have e:ABn9 tmF (o::l)=(g,off,xs.length)::ABn9 tmF l:=by simp only [ABn9,ho,←ea,←ex',ha,hxs]
   have hal:ACy9 (o::l)=ACy9 l:=by simp only [ACy9,ho]
   rw [e,hal];have hgl:g<h.length:=(Zaf.1 hblk).1;have hs1:Sim (fp0++ [(g,off,xs.length)]) ex h0 (h.set g {blk with cells:=blk.cells.take off++xs++blk.cells.drop (off+xs.length)}):=by
    refine ⟨fun g' hg' hge=> ?_,by rw [List.length_set];exact hs.ln,fun g' b0 b1 j hge e1 e2 e3=> ?_⟩
    ·rw [←hs.hd g' hg' hge];by_cases hgg:g'=g
     ·subst hgg;rw [List.getElem?_set_self hgl,hblk];have hlen:(blk.cells.take off++xs++blk.cells.drop (off+xs.length)).length=blk.cells.length:=by
       simp only [List.length_append,List.length_take,List.length_drop];have:=hc.2.2.2;omega
      simp only [Option.map_some,hdr,hlen]
     ·rw [List.getElem?_set_ne (Ne.symm hgg)]
    ·simp only [BCb9,List.all_append,Zal] at e3;obtain ⟨e3,e4⟩:=e3;by_cases hgg:g'=g
     ·subst hgg;rw [List.getElem?_set_self hgl] at e2;cases e2;simp only [List.all_cons,List.all_nil,Bool.and_true,bne_self_eq_false,Bool.false_or,Zfg,decide_eq_true_eq] at e4;rw [←hs.same g' b0 blk j hge e1 hblk e3];simp only;rcases e4 with e4|e4
      ·rw [List.getElem?_append_right (by simp;omega),List.getElem?_drop];congr 1;simp only [List.length_append,List.length_take];have:=hc.2.2.2;omega
      ·rw [List.append_assoc,Zaw (by simp;have:=hc.2.2.2;omega),Zbd,if_pos (by omega)]
     ·rw [List.getElem?_set_ne (Ne.symm hgg)] at e2;exact hs.same g' b0 b1 j hge e1 e2 e3
   rcases Zbu.1 hh with rfl|hh
   ·exact ⟨hs.widen,fun _=>rfl⟩
   ·obtain ⟨h3,h4⟩:=ih hx hex' hev' _ hs1 st hh;exact ⟨by simpa using h3,fun ha=>by rw [h4 ha,List.length_set]⟩
  ·rename_i t d ho hg hd;split at hl<;>try (cases hl;done)
   rename_i xs hxs;simp only [Option.some.injEq,Prod.mk.injEq] at hl;obtain ⟨rfl,rfl⟩:=hl;have hal:ACy9 (o::l)=true:=by simp only [ACy9,ho]
   rw [AGe9 (fun t a x h=>by rw [ho] at h;cases h),hal];rcases Zbu.1 hh with rfl|hh
   ·exact ⟨hs.widen,fun h=>by cases h⟩
   ·have hs1:Sim fp0 ex h0 (h++ [⟨xs,false,false,0⟩]):=by
     have hln:=hs.ln;refine ⟨fun g hg hge=> ?_,by simp;omega,fun g b0 b1 j hge e1 e2 e3=> ?_⟩
     ·rw [Zaw (by omega)];exact hs.hd g hg hge
     ·have hg:=(Zaf.1 e1).1;rw [Zaw (by omega)] at e2;exact hs.same g b0 b1 j hge e1 e2 e3
    exact ⟨(ih hx hex' hev' _ hs1 st hh).1,fun h=>by cases h⟩
  ·rename_i c d ho hg hd;rw [AGe9 (fun t a x h=>by rw [ho] at h;cases h)];unfold BCt9 at hl;split at hl<;>try (cases hl;done)
   rename_i x y hc h0' h1';have hal:ACy9 (o::l)=true:=by simp only [ACy9,ho,hc]
   rw [hal];split at hl<;>try (cases hl;done)
   split at hl
   rotate_left
   ·split at hl<;>try (cases hl;done)
    split at hl<;>try (cases hl;done)
    rename_i y0 ys0 hys0;split at hl<;>try (cases hl;done)
    cases hl;rcases Zbu.1 hh with rfl|hh
    ·exact ⟨hs.widen,fun h=>by cases h⟩
    ·have hs1:Sim fp0 ex h0 (h++ [⟨flatA (y0::ys0),false,true,0⟩]):=by
      have hln:=hs.ln;refine ⟨fun g hg hge=> ?_,by simp;omega,fun g b0 b1 j hge e1 e2 e3=> ?_⟩
      ·rw [Zaw (by omega)];exact hs.hd g hg hge
      ·have hg:=(Zaf.1 e1).1;rw [Zaw (by omega)] at e2;exact hs.same g b0 b1 j hge e1 e2 e3
     exact ⟨(ih hx hex' hev' _ hs1 st hh).1,fun h=>by cases h⟩
   rename_i g ver n k hxg;split at hl<;>try (cases hl;done)
   rename_i blk ys hblk hys;split at hl<;>try (cases hl;done)
   cases hl;have hxm:x∈o.op.operands:=by
    rw [ho];show x∈c.operands;unfold Call.operands;exact Array.mem_append_right _ (Array.mem_of_getElem? h0')
   have hge:g∈ex:=by
    refine hex g ?_;unfold appGs;simp only [ho,h0',←hev 0 o tm h rfl rfl x hxm,hxg,AV.hd?];exact List.mem_cons_self
   have hgl:g<h.length:=(Zaf.1 hblk).1;have hs1:Sim fp0 ex h0 (h.set g ⟨blk.cells++flatA ys,false,true,ver+1⟩):=by
    refine ⟨fun g' hg' hne=> ?_,by rw [List.length_set];exact hs.ln,fun g' b0 b1 j hne e1 e2 e3=> ?_⟩
    ·have hgg:¬g'=g:=fun e=>hne (e▸hge);rw [List.getElem?_set_ne (Ne.symm hgg)];exact hs.hd g' hg' hne
    ·have hgg:¬g'=g:=fun e=>hne (e▸hge);rw [List.getElem?_set_ne (Ne.symm hgg)] at e2;exact hs.same g' b0 b1 j hne e1 e2 e3
   rcases Zbu.1 hh with rfl|hh
   ·exact ⟨hs.widen,fun h=>by cases h⟩
   ·exact ⟨(ih hx hex' hev' _ hs1 st hh).1,fun h=>by cases h⟩
  ·split at hl<;>try (cases hl;done)
   rename_i hq;simp only [Zap,Prod.mk.injEq] at hl;obtain ⟨x',_,rfl,rfl⟩:=hl;have hal:ACy9 (o::l)=ACy9 l:=by
    unfold lateQ at hq;split at hq<;>first|exact absurd hq Bool.false_ne_true|(rename_i ho hg;simp only [ACy9,ho])
   have hns:∀t a x,o.op≠ .store t a x:=by
    intro t a x he;unfold lateQ at hq;rw [he] at hq;cases hq
   rw [AGe9 hns,hal];rcases Zbu.1 hh with rfl|hh
   ·exact ⟨hs.widen,fun _=>rfl⟩
   ·exact ih hx hex' hev' _ hs st hh
end
section
variable {P:Program} {h h':List Blk} {tm:List AV} {o:Oper} {ops:Array Oper} {fp:List (Nat×Nat×Nat)} {ex:List Nat}
theorem Sim.cases (hs:Sim fp ex h h') (g) (hg:g<h.length∨h'.length=h.length) (hge:g∉ex):(h[g]? =none∧h'[g]? =none)∨∃b b',h[g]? =some b∧h'[g]? =some b'∧b'.grow=b.grow∧b'.ver=b.ver∧b'.cells.length=b.cells.length:=by
 cases h1:h[g]? with
 | none=>
  have h2:h.length≤g:=List.getElem?_eq_none_iff.1 h1;exact .inl ⟨rfl,List.getElem?_eq_none (by omega)⟩
 | some b=>
  have:=hs.hd g (Zaf.1 h1).1 hge;rw [h1] at this;simp only [Option.map_some,Zap] at this;obtain ⟨b',h2,h3⟩:=this;simp only [hdr,Prod.mk.injEq] at h3;exact .inr ⟨b,b',rfl,h2,h3⟩
def LowIn (ex:List Nat) (h h':List Blk) (a:AV):Prop:=(a.low h.length=true∨h'.length=h.length)∧∀g,a.hd? =some g→g∉ex
theorem BOy9 (h h') (x):ADm9 h' (.d x)=ADm9 h (.d x):=by
 cases x with
 | s v=>
  cases v<;>try rfl
  rename_i oa;cases oa<;>rfl
 |sl k xs=>rfl
 |pt cs=>rfl
 |fn f0 ds0=>rfl
theorem BEk9 (h h') (x) (n):ABr9 h' (.d x) n=ABr9 h (.d x) n:=by
 cases x with
 | s v=>
  cases v<;>try rfl
  rename_i oa;cases oa<;>rfl
 |sl k xs=>rfl
 |pt cs=>rfl
 |fn f0 ds0=>rfl
theorem ALu9 (hs:Sim fp ex h h') (a) (ha:LowIn ex h h' a) (n):ABr9 h' a n=ABr9 h a n:=by
 cases a<;>first|exact BEk9 _ _ _ _|simp only [ABr9]
 ·rename_i g off;rcases hs.cases g (ha.1.imp (fun h=>by simpa [AV.low] using h) id) (ha.2 g rfl) with ⟨h1,h2⟩|⟨b,b',h1,h2,h3,h4,h5⟩
  ·simp only [h1,h2]
  ·simp only [h1,h2,h3]
 ·rename_i g v off;rcases hs.cases g (ha.1.imp (fun h=>by simpa [AV.low] using h) id) (ha.2 g rfl) with ⟨h1,h2⟩|⟨b,b',h1,h2,h3,h4,h5⟩
  ·simp only [h1,h2]
  ·simp only [h1,h2,h3,h4]
theorem ASu9 (hs:Sim fp ex h h') (t) (a) (ha:LowIn ex h h' a) (f):AEb9 P h' t a f=AEb9 P h t a f:=by
 unfold AEb9;simp only [ALu9 hs a ha]
theorem ASp9 (hs:Sim fp ex h h') (t) (a ix) (ha:LowIn ex h h' a):ADi9 P h' t a ix=ADi9 P h t a ix:=by
 unfold ADi9;simp only [ALu9 hs a ha];split<;>try rfl
 split<;>try rfl
 cases a<;>try rfl
 rename_i g v l k;simp only;rcases hs.cases g (ha.1.imp (fun h=>by simpa [AV.low] using h) id) (ha.2 g rfl) with ⟨h1,h2⟩|⟨b,b',h1,h2,h3,h4,h5⟩
 ·simp only [h1,h2]
 ·simp only [h1,h2,h3,h4]
theorem CEp9 (hs:Sim fp ex h h') (a:AV) (ha:LowIn ex h h' a):a.len? h'=a.len? h:=by
 cases a;case gref g v l k=>
  simp only [AV.len?];rcases hs.cases g (ha.1.imp (fun h=>by simpa [AV.low] using h) id) (ha.2 g rfl) with ⟨h1,h2⟩|⟨b,b',h1,h2,h3,h4,h5⟩
  ·simp only [h1,h2]
  ·simp only [h1,h2,h3,h4]
 all_goals first|rfl|(rename_i x;cases x<;>rfl)
theorem BMr9 (hs:Sim fp ex h h') (t) (x) (ha:LowIn ex h h' x) (lo hi mx):AOk9 P h' t x lo hi mx=AOk9 P h t x lo hi mx:=by
 unfold AOk9;split<;>try rfl
 split<;>try rfl
 cases x<;>try rfl
 rename_i g off;simp only;rcases hs.cases g (ha.1.imp (fun h=>by simpa [AV.low] using h) id) (ha.2 g rfl) with ⟨h1,h2⟩|⟨b,b',h1,h2,h3,h4,h5⟩
 ·simp only [h1,h2]
 ·simp only [h1,h2,h3,h5]
theorem BWk9 (hs:Sim fp ex h h') (t) (a) (ha0:LowIn ex h h' a) (hf:∀g off,a= .ptr g off→∀i,P.info? t=some i→BCb9 fp g off (max i.size 1)=true) (hg:∀g v off,a≠ .gptr g v off):xLoad P h' t a=xLoad P h t a:=by
 unfold xLoad;cases a<;>try rfl
 ·rw [BOy9 h h']
 ·rename_i g off;simp only [ADm9];rcases hs.cases g (ha0.1.imp (fun h=>by simpa [AV.low] using h) id) (ha0.2 g rfl) with ⟨h1,h2⟩|⟨b,b',h1,h2,h3,h4,h5⟩
  ·simp only [h1,h2]
  ·simp only [h1,h2,h3];cases hgr:b.grow
   ·simp only [Bool.false_eq_true,if_false];unfold AOu9;cases hi:P.info? t with
    |none=>rfl
    | some i=>
     simp only;have ha:=hf g off rfl i hi;have hcell:∀j,j<max i.size 1→(b'.cells.drop off)[j]? =(b.cells.drop off)[j]? :=by
      intro j hj;simp only [List.getElem?_drop];refine hs.same g b b' (off+j) (ha0.2 g rfl) h1 h2 ?_;simp only [BCb9,Zbk,Zfg,bne_iff_ne,decide_eq_true_eq] at ha ⊢;intro q hq;rcases ha q hq with (h6|h6)|h6
      ·exact .inl (.inl h6)
      ·exact .inl (.inr (by omega))
      ·exact .inr (by omega)
     have hlen:(b'.cells.drop off).length=(b.cells.drop off).length:=by simp [h5]
     have htake:(b'.cells.drop off).take i.size=(b.cells.drop off).take i.size:=by
      apply List.ext_getElem?;intro j;simp only [Zbd];split
      ·exact hcell j (by omega)
      ·rfl
     rw [hlen,htake,hcell 0 (by omega)]
   ·simp only [if_true]
 ·exact absurd rfl (hg _ _ _)
theorem CHy9 (hs:Sim fp ex h h') (hl:lowB h.length tm o=true∨h'.length=h.length) (hf:BNz9 P tm fp o=true) (hav:BQa9 ex tm o=true):xq P h' (evalA tm) o=xq P h (evalA tm) o:=by
 have hlo:∀x∈o.op.operands,(ex.isEmpty=true∨∀x∈o.op.operands.toList,(match (evalA tm x).hd? with|some g=> !ex.contains g|none=>true)=true)→LowIn ex h h' (evalA tm x):=fun x hx hv=>⟨hl.imp (fun h=>by
  unfold lowB at h;exact Zbk.1 h x (by simpa using hx)) id,fun g hg hge=>by
  rcases hv with hv|hv
  ·rw [List.isEmpty_iff.1 hv] at hge;cases hge
  ·have:=hv x (by simpa using hx);rw [hg] at this;simp only [Bool.not_eq_true'] at this;rw [List.contains_iff_mem.2 hge] at this;cases this⟩
 unfold BNz9 at hf;unfold BQa9 at hav;unfold xq;split<;>try rfl
 ·rename_i t a ho;simp only [ho,Zfg,Zbk] at hf hav;refine BWk9 hs t _ (hlo a (by simp [ho,Op.operands]) (by rw [ho];exact hav)) (fun g off he i hi=> ?_) (fun g v off he=> ?_)
  ·rw [he] at hf;simp only [hi] at hf;exact hf
  ·rw [he] at hf;cases hf
 ·rename_i t x lo hi mx ho;simp only [ho,Zfg,Zbk] at hav;simp only [BMr9 hs t _ (hlo x (by simp [ho,Op.operands]) (by rw [ho];exact hav))]
 ·rename_i t x f ho;simp only [ho,Zfg,Zbk] at hav;simp only [ASu9 hs t _ (hlo x (by simp [ho,Op.operands]) (by rw [ho];exact hav))]
 ·rename_i t x ix ho;simp only [ho,Zfg,Zbk] at hav;simp only [ASp9 hs t _ _ (hlo x (by simp [ho,Op.operands]) (by rw [ho];exact hav))]
 ·rename_i c ho;split<;>try rfl
  rename_i hcb;split<;>try rfl
  rename_i x hx;split<;>try rfl
  simp only [ho,hcb,Zfg,Zbk] at hav;have hmem:x∈o.op.operands:=by
   rw [ho];have:=Array.mem_of_getElem? hx;show x∈c.operands;unfold Call.operands;exact Array.mem_append_right _ this
  simp only [xLen,CEp9 hs _ (hlo x hmem (by rw [ho];exact hav))]
theorem CAd9 {call} (hs:Sim fp ex h h') (hl:lowB h.length tm o=true∨h'.length=h.length) (hf:BNz9 P tm fp o=true) (hav:BQa9 ex tm o=true):xp P call ops h' tm o=xp P call ops h tm o:=by
 unfold xp;simp only [CHy9 hs hl hf hav]
theorem AJm9:∀ {l} {tm} {h} {sts} i,AEo9 P l tm h=some sts→AEo9 P (l.take i) tm h=some (sts.take (i+1))
 | [],tm,h,sts,i,hx=>by simp only [AEo9,Option.some.injEq] at hx;subst hx;simp [AEo9]
 | o::l,tm,h,sts,i,hx=>by
  simp only [AEo9] at hx;split at hx<;>try (cases hx;done)
  rename_i x h1 hl;simp only [Zap] at hx;obtain ⟨sts',hx,rfl⟩:=hx;cases i with
  |zero=>simp [AEo9]
  |succ i=>simp only [List.take_succ_cons,AEo9,hl,AJm9 i hx,Option.map_some]
theorem AKf9 (tm) (o) (l):ABn9 tm (o::l)=ABn9 tm [o]++ABn9 tm l:=by
 simp only [ABn9];split
 ·split<;>rfl
 ·rfl
theorem ALp9 {tm} {o} {q} (hq:q∈ABn9 tm [o]):∀ {l},o∈l→q∈ABn9 tm l
 | [],h=>by cases h
 | x::l,h=>by
  rw [AKf9];rcases Zbu.1 h with rfl|h
  ·exact List.mem_append_left _ hq
  ·exact List.mem_append_right _ (ALp9 hq h)
theorem AHp9 {tm} {l'}:∀ {l},(∀o∈l,o∈l')→∀q∈ABn9 tm l,q∈ABn9 tm l'
 | [],h,q,hq=>by simp [ABn9] at hq
 | x::l,h,q,hq=>by
  rw [AKf9] at hq;rcases Zca.1 hq with hq|hq
  ·exact ALp9 hq (h x List.mem_cons_self)
  ·exact AHp9 (fun o ho=>h o (List.mem_cons_of_mem _ ho)) q hq
theorem AFe9 (tm):∀l i g,g∈appGs tm (l.take i)→g∈appGs tm l
 | [],i,g,h=>by simpa using h
 |o::l,0,g,h=>by simp [appGs] at h
 | o::l,i+1,g,h=>by
  rw [List.take_succ_cons] at h;unfold appGs at h ⊢;split at h
  ·split at h
   ·split at h
    ·rcases Zbu.1 h with rfl|h
     ·exact List.mem_cons_self
     ·exact List.mem_cons_of_mem _ (AFe9 tm l i g h)
    ·exact AFe9 tm l i g h
   ·exact AFe9 tm l i g h
  ·exact AFe9 tm l i g h
theorem Sim.sub {fp fp'} {h h':List Blk} (hs:Sim fp ex h h') (hf:∀q∈fp,q∈fp'):Sim fp' ex h h':=
 ⟨hs.hd,hs.ln,fun g blk blk' i h0 h1 h2 h3=>hs.same g blk blk' i h0 h1 h2 (Zbk.2 fun q hq=>Zbk.1 h3 q (hf q hq))⟩
theorem AJe9 {k}:∀ {m n},findN ops k m=some n→ABt9 ops k n=true
 |0,n,h=>by simp [findN] at h
 | m+1,n,h=>by
  simp only [findN] at h;split at h
  ·rename_i h1;cases h;exact h1
  ·exact AJe9 h
end
section
variable {P:Program} {hp hp':List Blk} {tm tm':List AV} {ops:Array Oper} {Ev:Env P} {X:CX Ev.β} {b:Ev.β}
theorem AGk9 {k} (hX:X.Ok) (hk:APv9 ops k=true) {K} {Q} (h:ARm9 P X ops k tm hp b K) (hq:∀tm' hp' b',K tm' hp' b'→Q .normal ⟨tm',hp',b'⟩):
 WA Ev ops ⟨tm,hp,b⟩ Q:=by
 unfold ARm9 at h;split at h
 ·rename_i hks;obtain ⟨tmK,tb,h1,h2,h3,h4⟩:=ACm9 hX h;split at h1
  ·rename_i hnd;exact WA.draw (s:=⟨tm,hp,b⟩) k (tblD tb) (AWm9 (h3 (by simp))) hk hks (h4 tb (ADl9 hnd)) (AGl9 hX h1 fun s' b' h=>hq _ _ _ h)
  ·exact h1.elim
 ·exact h.elim
theorem appOk (P):AppOk P:=by
 intro o c tm hp hp' x ho hk h;unfold BCt9 at h;split at h<;>try (cases h;done)
 rename_i x' y hc h0 h1;split at h<;>try (cases h;done)
 rename_i e i hinf;split at h
 ·rename_i g ver n k hx;split at h<;>try (cases h;done)
  rename_i blk ys hg hys;split at h<;>try (cases h;done)
  rename_i hcc;cases h;simp only [Zal,decide_eq_true_eq,Bool.not_eq_true'] at hcc;obtain ⟨⟨⟨hsz,rfl⟩,hgr⟩,hf⟩:=hcc;unfold lateK at hk;simp only [ho,h0,h1,hinf,hx,hg,hys] at hk;exact ASw9 (s:=⟨tm,hp, []⟩) ho hc hsz h0 h1 hinf hx hys hg hgr hk.1 hf hk.2.1
 ·rename_i ax hax;split at h<;>try (cases h;done)
  rename_i hnil;split at h<;>try (cases h;done)
  rename_i y0 ys hys;split at h<;>try (cases h;done)
  rename_i hsz;cases h;have hfit:(y0::ys).length*i.bytes≤140737488355328:=by
   unfold lateK at hk;simp only [ho,h0,h1,hinf] at hk;split at hk
   ·simp only [hys] at hk;exact hk.1
   ·rename_i hn;exact absurd hnil hn
  exact AXp9 (s:=⟨tm,hp, []⟩) ho hc hsz h0 h1 hinf (.inl hnil) hys (by simp) hfit
theorem CFb9 {q n:Nat} {call:CallT} {tmK tmF:List AV} {hpn:List Blk} {sts:List (List AV×List Blk)} (hn:ABt9 ops q n=true) (hks:q+n≤ops.size) (hlates:AEo9 P ((ops.toList.drop q).take n) tmK hp=some sts) (hlast:sts[n]? =some (tmF,hpn))
 (hfr:BGq9 P hp.length tmK tmF (ops.toList.take q) ((ops.toList.drop q).take n)=true) (i:Nat) (t:List AV) (h':List Blk) (hh:sts[i]? =some (t,h')) (j:Nat) (o:Oper) (hj:j<q) (ho:ops[j]? =some o) (hne:∀(i':Nat) (o':Oper),i'<i→ops[q+i']? =some o'→j∉ABa9 o'):
 xp P call ops h' tmK o=xp P call ops hp tmK o:=by
 obtain ⟨sl1,sl2,sl3⟩:=AEt9 hlates;obtain ⟨L1,L2⟩:=AUw9 hn hks hlates hlast;have hedges:∀(i:Nat) (o:Oper),ops[i]? =some o→(∀j∈ABa9 o,j<i):=fun i o ho=>(AEm9 hn ho).1;have hev:∀(i:Nat) (o:Oper) (t:List AV) (hh:List Blk),((ops.toList.drop q).take n)[i]? =some o→sts[i]? =some (t,hh)→∀y∈o.op.operands,evalA t y=evalA tmF y:=by
  intro i o t hh e1 e2;rw [Zbd] at e1;split at e1<;>try (cases e1;done)
  rename_i hin;rw [List.getElem?_drop] at e1;have ho:ops[q+i]? =some o:=by simpa using e1
  exact AFb9 (o:=o) (ops:=ops) (tm:=t) (tm':=tmF) fun x hx=>AGq9 (L2 i t hh e2 (by omega) x fun j' o' hj' hjn ho' hd'=>by
   have h3:=(AEm9 hn ho).2.1 (by omega) x hx (q+j') o' (by omega) ho' hd';have:=hedges _ o ho _ h3;omega)
 have hin:i≤n:=by
  have h1:=(Zaf.1 hh).1;have h2:((ops.toList.drop q).take n).length≤n:=List.length_take_le _ _;omega
 have ho':(ops.toList.take q)[j]? =some o:=by rw [Zbd,if_pos hj];simpa using ho
 have hfj:=Zbk.1 hfr j (Zcs.2 (Zaf.1 ho').1);rw [ho'] at hfj;simp only [Zal,Zfg,Bool.not_eq_true'] at hfj;have hsimA:=AIa9 (ex:=appGs tmF ((ops.toList.drop q).take n)) hlates (fun _ h=>h) hev [] (Sim.refl _ _ _) (t,h') (List.mem_of_getElem? hh);have hsim:=AIa9 (ex:=appGs tmF ((ops.toList.drop q).take n)) (AJm9 i hlates) (fun g hg=>AFe9 _ _ _ _ hg) (fun i' o t hh e1 e2=>by
  rw [Zbd] at e1 e2;split at e1<;>try (cases e1;done)
  split at e2<;>try (cases e2;done)
  exact hev i' o t hh e1 e2) [] (Sim.refl _ _ _) (t,h') (List.mem_of_getElem? (i:=i) (by rw [Zbd,if_pos (by omega)];exact hh))
 simp only [List.nil_append] at hsim;refine CAd9 (hsim.1.sub (AHp9 fun o' ho'=> ?_)) ?_ hfj.1.1 hfj.2
 ·obtain ⟨i',hi'⟩:=Zay.1 ho';rw [Zbd] at hi';split at hi'<;>try (cases hi';done)
  rename_i hlt;refine List.mem_filter.2 ⟨List.mem_of_getElem? hi', ?_⟩;rw [Zbd] at hi';split at hi'<;>try (cases hi';done)
  rw [List.getElem?_drop] at hi';have:=hne i' o' hlt (by simpa using hi');simpa using this
 ·rcases hfj.1.2 with h5|h5
  ·exact .inr (hsimA.2 h5)
  ·exact .inl h5
theorem ANk9 {k} (hX:X.Ok) {K} {Q} (h:AXk9 P X ops k tm hp b K) (hq:∀tm' hp' b',K tm' hp' b'→Q .normal ⟨tm',hp',b'⟩):
 WA Ev ops ⟨tm,hp,b⟩ Q:=h.elim
theorem ACd9 {q n} (hX:X.Ok) (hn:ABt9 ops q n=true) {K} {Q} (h:AGo9 P X ops q n tm hp b K) (hq:∀tm' hp' b',K tm' hp' b'→Q .normal ⟨tm',hp',b'⟩):
 WA Ev ops ⟨tm,hp,b⟩ Q:=by
 unfold AGo9 at h;split at h
 ·rename_i hks;obtain ⟨tmK,tb,h1,h2,h3,h4⟩:=ACm9 hX h;split at h1
  ·rename_i hnd;split at h1
   ·rename_i sts hlates;split at h1
    ·rename_i st hlast;obtain ⟨h1,hlk⟩:=ANz9 hlates h1;obtain ⟨hfr,h1⟩:=h1.elim';obtain ⟨tmF,hpn⟩:=st;obtain ⟨sl1,sl2,sl3⟩:=AEt9 hlates;obtain ⟨L1,L2⟩:=AUw9 hn hks hlates hlast;have hedges:∀i (o:Oper),ops[i]? =some o→(∀j∈ABa9 o,j<i):=fun i o ho=>(AEm9 hn ho).1;have hev:∀(i:Nat) (o:Oper) (t:List AV) (hh:List Blk),((ops.toList.drop q).take n)[i]? =some o→sts[i]? =some (t,hh)→∀y∈o.op.operands,evalA t y=evalA tmF y:=by
      intro i o t hh e1 e2;rw [Zbd] at e1;split at e1<;>try (cases e1;done)
      rename_i hin;rw [List.getElem?_drop] at e1;have ho:ops[q+i]? =some o:=by simpa using e1
      exact AFb9 (o:=o) (ops:=ops) (tm:=t) (tm':=tmF) fun x hx=>AGq9 (L2 i t hh e2 (by omega) x fun j' o' hj' hjn ho' hd'=>by
       have h3:=(AEm9 hn ho).2.1 (by omega) x hx (q+j') o' (by omega) ho' hd';have:=hedges _ o ho _ h3;omega)
     refine WA.late (s:=⟨tm,hp,b⟩) q n (tblD tb) (appOk P) (AWm9 (h3 (by simp))) hn hks hlates hlk (h4 tb (ADl9 hnd)) (fun i t h' hh j o hj ho hne=> ?_) hlast (AGl9 hX h1 fun s' b' h=>hq _ _ _ h);have ho':(ops.toList.take q)[j]? =some o:=by rw [Zbd,if_pos hj];simpa using ho
     have hfj:=Zbk.1 hfr j (Zcs.2 (Zaf.1 ho').1);rw [ho'] at hfj;simp only [Zal,Zfg,Bool.not_eq_true'] at hfj;have hsimA:=AIa9 (ex:=appGs tmF ((ops.toList.drop q).take n)) hlates (fun _ h=>h) hev [] (Sim.refl _ _ _) (t,h') (List.mem_of_getElem? hh);have hsim:=AIa9 (ex:=appGs tmF ((ops.toList.drop q).take n)) (AJm9 i hlates) (fun g hg=>AFe9 _ _ _ _ hg) (fun i' o t hh e1 e2=>by
      rw [Zbd] at e1 e2;split at e1<;>try (cases e1;done)
      split at e2<;>try (cases e2;done)
      exact hev i' o t hh e1 e2) [] (Sim.refl _ _ _) (t,h') (List.mem_of_getElem? (i:=i) (by rw [Zbd,if_pos (by omega)];exact hh))
     simp only [List.nil_append] at hsim;refine CAd9 (hsim.1.sub (AHp9 fun o' ho'=> ?_)) ?_ hfj.1.1 hfj.2
     ·obtain ⟨i',hi'⟩:=Zay.1 ho';rw [Zbd] at hi';split at hi'<;>try (cases hi';done)
      rename_i hlt;refine List.mem_filter.2 ⟨List.mem_of_getElem? hi', ?_⟩;rw [Zbd] at hi';split at hi'<;>try (cases hi';done)
      rw [List.getElem?_drop] at hi';have:=hne i' o' hlt (by simpa using hi');simpa using this
     ·rcases hfj.1.2 with h5|h5
      ·exact .inr (hsimA.2 h5)
      ·exact .inl h5
    ·exact h1.elim
   ·exact h1.elim
  ·exact h1.elim
 ·exact h.elim
theorem AVf9 (hX:X.Ok) {K} {Q} (h:BXr9 P X ops tm hp b K) (hq:∀tm' hp' b',K tm' hp' b'→Q .normal ⟨tm',hp',b'⟩):
 WA Ev ops ⟨tm,hp,b⟩ Q:=by
 unfold BXr9 at h;split at h
 ·rename_i k hk;exact AGk9 hX (AGs9 hk) h hq
 ·split at h
  ·rename_i n hn;exact ACd9 hX (AJe9 hn) h hq
  ·split at h
   ·rename_i k hk;exact AGk9 hX (AGs9 hk) h hq
   ·split at h
    ·rename_i n hn;exact ACd9 hX (AJe9 hn) h hq
    ·exact h.elim
theorem AKb9 (hX:X.Ok) {K} {Q} (h:drawC P X ops tm hp b K) (hq:∀tm' hp' b',K tm' hp' b'→Q .normal ⟨tm',hp',b'⟩):
 WA Ev ops ⟨tm,hp,b⟩ Q:=by
 unfold drawC at h;split at h
 ·split at h
  ·rename_i k hk;exact AGk9 hX (AGs9 hk) h hq
  ·exact h.elim
 ·split at h
  ·rename_i hg;simp only [Zal] at hg;exact ACd9 hX hg.2 h hq
  ·exact AVf9 hX h hq
theorem AMp9 {ops}:∀ {m k n},findL ops m=some (k,n)→ABt9 ops k n=true
 |0,k,n,h=>by simp [findL] at h
 | m+1,k,n,h=>by
  simp only [findL] at h;split at h
  ·rename_i n' hn;cases h;exact AJe9 hn
  ·exact AMp9 h
theorem BAv9 (hX:X.Ok) {K} {Q} (h:drawQ P X ops tm hp b K) (hq:∀tm' hp' b',K tm' hp' b'→Q .normal ⟨tm',hp',b'⟩):
 WA Ev ops ⟨tm,hp,b⟩ Q:=by
 unfold drawQ at h;split at h
 ·exact AKb9 hX h hq
 ·split at h
  ·rename_i k n hk;exact ACd9 hX (AMp9 hk) h hq
  ·exact ANk9 hX h hq
theorem BAw9 (hX:X.Ok) {K} {Q} (h:drawL P X ops tm hp b K) (hq:∀tm' hp' b',K tm' hp' b'→Q .normal ⟨tm',hp',b'⟩):
 WA Ev ops ⟨tm,hp,b⟩ Q:=by
 unfold drawL at h;split at h
 ·rename_i hg;exact ACd9 hX hg h hq
 ·split at h
  ·rename_i k n hk;exact ACd9 hX (AMp9 hk) h hq
  ·exact AKb9 hX h hq
theorem AOd9 (hX:X.Ok) {K} {Q} (h:drawP P X ops tm hp b K) (hq:∀tm' hp' b',K tm' hp' b'→Q .normal ⟨tm',hp',b'⟩):
 WA Ev ops ⟨tm,hp,b⟩ Q:=by
 unfold drawP at h;split at h
 ·split at h
  ·rename_i hp;exact WA.perm hp (BAw9 hX h hq)
  ·exact h.elim
 ·split at h
  ·exact AKb9 hX h hq
  ·split at h
   ·rename_i hp;exact WA.perm hp (BAv9 hX h hq)
   ·exact h.elim
theorem W.ofFrz {P:Program} {Ev:Env P} {c} {b:Ev.β} {Q:Exit→St Ev.β→Prop} {tm tm1:List AV} {hp hp1:List Blk} (hf:FrzOk ⟨tm,hp, []⟩ ⟨tm1,hp1, []⟩) (h:W Ev c ⟨tm1,hp1,b⟩ Q):W Ev c ⟨tm,hp,b⟩ Q:=by
 intro lo r S X V w m B hv a ht;obtain ⟨S',hg,hr⟩:=hf S X Ev.yl w m B hv a ht.rel;have ht':=ht.step hg hr rfl;refine wpIn_mono (h lo r S' X V w m B hv a ht') ?_;rintro e a' w' ⟨s',S'',X',V',m',hv',hq,⟨hw,hm⟩,h3⟩;exact ⟨s',S'',X',V',m',hv',hq,⟨(hg.went hr.slt).trans hw,hm⟩,h3⟩
theorem W.sealed {P:Program} {Ev:Env P} {c} {b:Ev.β} {Q:Exit→St Ev.β→Prop} {tm} {hp} {t} {K} (h:AUq9 hp [t] tm K) (hK:∀tm1,K tm1→W Ev c ⟨tm1,frz hp (occ (tm.getD t .bad)),b⟩ Q):W Ev c ⟨tm,hp,b⟩ Q:=by
 obtain ⟨tm1,hf,h1⟩:=AHs9 (gs:=occ (tm.getD t .bad)) (tm0:=tm) h (by simp) (AMo9 _ _) (fun _ _=>rfl) fun t' ht' g hg=>by
  simp at ht';subst ht';exact hg
 exact W.ofFrz (CFa9 (s:=⟨tm,hp, []⟩) hf) (hK _ h1)
theorem W.sealedL {P} {Ev:Env P} {c} {b:Ev.β} {Q:Exit→St Ev.β→Prop}:∀ {ts} {tm} {hp} {K},sealL ts tm hp K→(∀tm1 hp1,K tm1 hp1→W Ev c ⟨tm1,hp1,b⟩ Q)→W Ev c ⟨tm,hp,b⟩ Q
 | [],tm,hp,K,h,hK=>hK _ _ h
 |t::ts,tm,hp,K,h,hK=>W.sealed h fun tm1 h1=>W.sealedL h1 hK
theorem ARl9 {id} {d} (hm:P.follows .mixedOrders=true) (hX:X.Ok) {K} {Q} (h:BEw9 P X ops d tm hp b K) (hq:∀tm' hp' b',K tm' hp' b'→Q .normal ⟨tm',hp',b'⟩):
 W Ev (.region id ops d) ⟨tm,hp,b⟩ Q:=by
 unfold BEw9 at h;cases d with
 | false=>
  simp only [Bool.false_eq_true,if_false] at h;exact W.region (s:=⟨tm,hp,b⟩) (AGl9 hX h fun s' b' h=>hq _ _ _ h)
 | true=>
  simp only [if_true] at h;split at h
  ·exact W.sealed h fun tm1 h1=>W.ofWA hm (AOd9 hX h1 hq)
  ·exact W.sealedL h fun tm1 hp1 h1=>W.ofWA hm (AOd9 hX h1 hq)
theorem ADx9 {c} {fr:Frame} {a:Act} {k:List Item} {cs:List Frame} {w:World}:step P (lone (fr.atR a (.code (.scope c)::k)) cs w)= .next (lone (fr.atR a (.code c:: .inScope c::k)) cs w):=
 step_lone_go (by simp [stepG,stepG.exec,Frame.atR])
theorem AQw9 {c} {fr:Frame} {a:Act} {k:List Item} {cs:List Frame} {w:World}:step P (lone (fr.atR a (.inScope c::k)) cs w)= .next (lone (fr.atR a k) cs w):=
 step_lone_go (by simp [stepG,stepG.exec,Frame.atR])
def noGoto {α:Type} (Q:Exit→α→Prop):Exit→α→Prop
 | .goto _,_=>False
 |e,s=>Q e s
theorem BCx9 {F} {n} {c} {Q} {a} {w} (h:c.wpIn F n P (Exit.noGoto Q) a w):(Code.scope c).wpIn F n P Q a w:=by
 intro b k cs hro hb hr;have h0:(lone (b.atR a (.code (.scope c)::k)) cs w).fenced P F:=fenced_calm hb hr rfl;obtain ⟨e,a₁,w₁,hq,harr⟩:=h b (.inScope c::k) cs hro hb hr;cases e with
 |normal=>exact ⟨.normal,a₁,w₁,hq, .head h0 ADx9 (StepsIn.trans harr (.one (fenced_calm hb hr rfl) AQw9))⟩
 | exit id=>
  have hx:exitTo id (.inScope c::k)=exitTo id k:=by simp [exitTo]
  exact ⟨.exit id,a₁,w₁,hq,fun k' hk=> .head h0 ADx9 (harr.1 k' (by rw [hx];exact hk)),
   fun hr' hk=>let ⟨k₁,h1,h2⟩:=harr.2 hr' (by rw [hx];exact hk);⟨k₁,h1, .head h0 ADx9 h2⟩⟩
 |goto l=>exact hq.elim
 |ret=>exact ⟨_,a₁,w₁,hq, .of_steps (.one h0 ADx9) harr⟩
 |panic ch=>exact ⟨_,a₁,w₁,hq, .of_steps (.one h0 ADx9) harr⟩
 |outgrown=>exact ⟨_,a₁,w₁,hq, .of_steps (.one h0 ADx9) harr⟩
theorem W.scope {c} {s} {Q} (h:W Ev c s (noGoto Q)):W Ev (.scope c) s Q:=by
 intro lo r S X V w m B hv a ht;refine BCx9 (wpIn_mono (h lo r S X V w m B hv a ht) fun e a' w' ⟨s',S',X',V',m',hv',h1,h2,h3⟩=> ?_);cases e with
 |goto l=>exact h1.elim
 |normal=>exact ⟨s',S',X',V',m',hv',h1,h2,h3⟩
 |exit id=>exact ⟨s',S',X',V',m',hv',h1,h2,h3⟩
 |ret=>exact ⟨s',S',X',V',m',hv',h1,h2,h3⟩
 |panic ch=>exact ⟨s',S',X',V',m',hv',h1,h2,h3⟩
 |outgrown=>exact ⟨s',S',X',V',m',hv',h1,h2,h3⟩
def WR (Ev:Env P) (c:Code):Nat→St Ev.β→(Exit→St Ev.β→Prop)→Prop
 |0,_,_=>False
 |m+1,s,Q=>W Ev c s (thenW (fun s'=>WR Ev c m s' Q) Q)
theorem W.rounds {c} {Q} {m:Nat} {s} (h:WR Ev c m s Q):W Ev (.loop c) s Q:=by
 intro lo r S X V w m0 B hv a ht;have key:∀n s S0 X0 V0 w0 m1 hv a,WR Ev c n s Q→(Went Ev.L S X V w S0 X0 V0 w0∧MStep m0 m1)→Tie Ev lo r S0 X0 V0 w0 m1 B hv s.rs s.b a→
  Code.roundsIn (Fn r) 0 P c (Beh Ev lo r S X V w m0 B Q) n a w0:=by
  intro n;induction n with
  |zero=>intro s S0 X0 V0 w0 m1 hv a h;exact h.elim
  | succ n ih=>
   intro s S0 X0 V0 w0 m1 hv a h hm ht;rw [roundsIn_succ];refine wpIn_mono (h lo r S0 X0 V0 w0 m1 B hv a ht) fun e a' w' ⟨s',S',X',V',m',hv',h1,h2,h3⟩=> ?_;cases e with
   |normal=>exact ih s' S' X' V' w' m' hv' a' h1 ⟨hm.1.trans h2.1,hm.2.trans h2.2⟩ h3
   |exit id=>exact Beh.from hm ⟨s',S',X',V',m',hv',h1,h2,h3⟩
   |goto l=>exact Beh.from hm ⟨s',S',X',V',m',hv',h1,h2,h3⟩
   |ret=>exact Beh.from hm ⟨s',S',X',V',m',hv',h1,h2,h3⟩
   |panic ch=>exact Beh.from hm ⟨s',S',X',V',m',hv',h1,h2,h3⟩
   |outgrown=>exact Beh.from hm ⟨s',S',X',V',m',hv',h1,h2,h3⟩
 exact wpIn_loop_rounds m (key m s S X V w m0 hv a h ⟨Went.refl ht.rel.slt,Zfb m0⟩ ht)
theorem ALx9 {c} {n} (ih:∀ {tm} {hp} {b} {K} {Q},wpc P X n c tm hp b K→(∀e tm hp b,K e tm hp b→Q e ⟨tm,hp,b⟩)→W Ev c ⟨tm,hp,b⟩ Q):
 ∀ {m} {tm} {hp} {b} {K} {Q},rounds (wpc P X n c) m tm hp b K→(∀e tm hp b,K e tm hp b→Q e ⟨tm,hp,b⟩)→WR Ev c m ⟨tm,hp,b⟩ Q
 |0,tm,hp,b,K,Q,h,hq=>h.elim
 | m+1,tm,hp,b,K,Q,h,hq=>by
  simp only [rounds] at h;refine ih h fun e tm' hp' b' hK=> ?_;cases e with
  |normal=>exact ALx9 ih (m:=m) hK hq
  |exit id=>exact hq _ _ _ _ hK
  |goto l=>exact hq _ _ _ _ hK
  |ret=>exact hq _ _ _ _ hK
  |panic ch=>exact hq _ _ _ _ hK
  |outgrown=>exact hq _ _ _ _ hK
theorem AAy9 (hm:P.follows .mixedOrders=true) (hX:X.Ok):∀ {n} {c} {tm} {hp} {b} {K} {Q},
 wpc P X n c tm hp b K→(∀e tm hp b,K e tm hp b→Q e ⟨tm,hp,b⟩)→W Ev c ⟨tm,hp,b⟩ Q
 |0,c,tm,hp,b,K,Q,h,hq=>h.elim
 | n+1,c,tm,hp,b,K,Q,h,hq=>by
  cases c with
  |skip=>exact W.skip (hq _ _ _ _ h)
  |label l=>exact W.label (hq _ _ _ _ h)
  |exit id=>exact W.exit (hq _ _ _ _ h)
  |goto l=>exact W.goto (hq _ _ _ _ h)
  |ret=>exact W.ret (hq _ _ _ _ h)
  | region id ops d=>
   simp only [wpc] at h;split at h
   ·exact W.mono (hX.wl _ _ _ _ _ h) fun e s h=>hq _ _ _ _ h
   ·exact ARl9 hm hX h fun _ _ _ h=>hq _ _ _ _ h
  | seq x y=>
   simp only [wpc] at h;refine W.seq (AAy9 hm hX h fun e tm' hp' b' hK=> ?_);cases e with
   |normal=>exact AAy9 hm hX hK hq
   |exit id=>exact hq _ _ _ _ hK
   |goto l=>exact hq _ _ _ _ hK
   |ret=>exact hq _ _ _ _ hK
   |panic ch=>exact hq _ _ _ _ hK
   |outgrown=>exact hq _ _ _ _ hK
  | cond x c c'=>
   simp only [wpc] at h;split at h
   ·rename_i t hx;have hs:=APb9 hx;rcases h.elim with ⟨rfl,h⟩|⟨rfl,h⟩<;>rw [hs] at h
    ·exact W.cond (t:=true) hx (AAy9 hm hX h hq)
    ·exact W.cond (t:=false) hx (AAy9 hm hX h hq)
   ·exact h.elim
  | block id c=>
   simp only [wpc] at h;refine W.block (AAy9 hm hX h fun e tm' hp' b' hK=> ?_);cases e with
   | exit id'=>
    simp only [CGq9] at hK;simp only [APy9];split at hK
    ·rename_i he;rw [if_pos he];exact hq _ _ _ _ hK
    ·rename_i he;rw [if_neg he];exact hq _ _ _ _ hK
   |normal=>exact hq _ _ _ _ hK
   |goto l=>exact hq _ _ _ _ hK
   |ret=>exact hq _ _ _ _ hK
   |panic ch=>exact hq _ _ _ _ hK
   |outgrown=>exact hq _ _ _ _ hK
  | loop c=>
   simp only [wpc] at h;split at h
   ·exact W.rounds (ALx9 (fun h hq=>AAy9 hm hX h hq) h hq)
   ·exact W.mono (hX.wl _ _ _ _ _ h) fun e s h=>hq _ _ _ _ h
  |rangeFunc f ps assign body=>exact W.mono (hX.wl _ _ _ _ _ h) fun e s h=>hq _ _ _ _ h
  | scope body=>
   simp only [wpc] at h;refine W.scope (AAy9 hm hX h fun e tm' hp' b' hK=> ?_);cases e with
   |goto l=>exact hK.elim
   |normal=>exact hq _ _ _ _ hK
   |exit id=>exact hq _ _ _ _ hK
   |ret=>exact hq _ _ _ _ hK
   |panic ch=>exact hq _ _ _ _ hK
   |outgrown=>exact hq _ _ _ _ hK
  |refuse why=>exact h.elim
theorem AFw9 {fn} {R:AV→Ev.β→Prop} {e} {tm} {hp} {b:Ev.β} (h:fnK P fn R e tm hp b):ANe9 P fn (fun y hp b=>∃z,SealD hp y z∧R z b) e ⟨tm,hp,b⟩:=by
 unfold fnK at h;obtain ⟨he,h⟩:=h.elim';split at h
 ·rename_i ys hys;obtain ⟨z,hz,h⟩:=ALv9 h;refine ⟨?_,ys,hys,z,hz,h⟩;cases e<;>simp at he ⊢
 ·exact h.elim
def wlW (Ev:Env P):Code→List AV→List Blk→Ev.β→(Exit→List AV→List Blk→Ev.β→Prop)→Prop:=fun c tm hp b K=>W Ev c ⟨tm,hp,b⟩ fun e s=>K e s.tm s.hp s.b
def AAb9 (P:Program) (T:List (Nat×(List AV→(AV→Prop)→Prop))):Prop:=∀k f,T.lookup k=some f→∀args K,f args K→∃x,PCall P k args x∧K x
def AAl9 (P:Program) (T:List (Nat×(List AV→List Blk→(AV→List Blk→Prop)→Prop))):Prop:=∀k f,T.lookup k=some f→∀args hp K,f args hp K→∃x hp',SCall P k args hp x hp'∧K x hp'
theorem AAb9.nil:AAb9 P []:=fun _ _ h=>by cases h
theorem AAl9.nil:AAl9 P []:=fun _ _ h=>by cases h
theorem AAb9.cons {T} {k} {f} (h:∀args K,f args K→∃x,PCall P k args x∧K x) (hT:AAb9 P T):AAb9 P ((k,f)::T):=by
 intro k' f' hl;rw [List.lookup_cons] at hl;split at hl
 ·rename_i he;cases hl;rw [eq_of_beq he];exact h
 ·exact hT k' f' hl
theorem CX.Ok.of {Ev:Env P} {T} {S} {u} (hT:AAb9 P T) (hS:AAl9 P S):CX.Ok Ev ⟨T,S,wlW Ev,Ev.Y,u⟩:=
 ⟨hT,hS,fun _ _ _ _ _ h=>h,rfl⟩
theorem PCall.ofWp {f n} {fn} {c} {args} {x} {T} {S} {u} (hm:P.follows .mixedOrders=true)
 (hT:AAb9 P T) (hS:AAl9 P S) (hf:P.funcs[f]? =some fn) (hb:fn.body=some c) (hn:(fn.name== "runtime.NumGoroutine")=false) (hargs:args.map Zdg=args)
 (h:∀(Ev:Env P) (b:Ev.β),wpc P ⟨T,S,wlW Ev,Ev.Y,u⟩ n c (ACf9 fn args) [] b (fnK P fn fun y _=>y=x)):PCall P f args x:=by
 refine PCall.ofWS hf hb hn hargs fun Ev b=>AAy9 hm (CX.Ok.of hT hS) (h Ev b) fun e tm hp b hK=> ?_;obtain ⟨h1,ys,h2,z,h3,rfl⟩:=AFw9 hK;exact ⟨h1,ys,h2,h3⟩
end
noncomputable def code (fn:Func):Code:=fn.body.getD .skip
def CLh9:Code→Code
 | .seq x _=>x
 |c=>c
def inBlock:Code→Code
 | .block _ c=>c
 |c=>c
def CLi9:Code→Code
 | .loop c=>c
 |c=>c
def AGv9:Code→Code
 | .rangeFunc _ _ a _=>a
 |c=>c
def ATk9:Code→Code
 | .rangeFunc _ _ _ b=>b
 |c=>c
def cidO:Code→Nat
 | .region id _ _=>id+1
 | .seq x y=>match cidO x with
  |0=>cidO y
  |n=>n
 | .block _ c=>cidO c
 | .loop c=>cidO c
 | .scope c=>cidO c
 | .cond _ x _=>cidO x
 | .rangeFunc _ _ a b=>match cidO a with
  |0=>cidO b
  |n=>n
 |_=>0
abbrev WLT (β:Type):=Code→List AV→List Blk→β→(Exit→List AV→List Blk→β→Prop)→Prop
def sub:List Nat→Code→Code
 | [],c=>c
 | n::p,c=>match n,c with
  |0, .seq x _=>sub p x
  |1, .seq _ y=>sub p y
  |2, .block _ c=>sub p c
  |3, .loop c=>sub p c
  |4, .cond _ x _=>sub p x
  |5, .cond _ _ y=>sub p y
  |6, .rangeFunc _ _ a _=>sub p a
  |7, .rangeFunc _ _ _ b=>sub p b
  |8, .scope c=>sub p c
  |_,_=> .skip
def nth (p:List Int) (i:Nat):Int:=p.getD i 0
def LeA (x y:AV):Prop:=x=y∨y= .bad∨(AAk9 x=true∧∃k,(y= .d (.sl k [])∨∃e,y= .own e k []))∨y=x.view
theorem LeA.rfl {x}:LeA x x:= .inl (Eq.refl x)
theorem LeA.bad {x}:LeA x .bad:= .inr (.inl (Eq.refl _))
theorem LeA.nilOwn {x} {e k} (h:AAk9 x=true):LeA x (.own e k []):= .inr (.inr (.inl ⟨h,k, .inr ⟨e,Eq.refl _⟩⟩))
theorem LeA.nilSl {x} {k} (h:AAk9 x=true):LeA x (.d (.sl k [])):= .inr (.inr (.inl ⟨h,k, .inl (Eq.refl _)⟩))
theorem LeA.view {x}:LeA x x.view:= .inr (.inr (.inr (Eq.refl _)))
inductive LeL:List AV→List AV→Prop
 |nil:LeL [] []
 |cons {x y:AV} {xs ys:List AV} (h:LeA x y) (hs:LeL xs ys):LeL (x::xs) (y::ys)
theorem LeL.refl:∀l,LeL l l
 | []=> .nil
 |_::l=> .cons .rfl (LeL.refl l)
theorem LeL.len {xs ys} (h:LeL xs ys):ys.length=xs.length:=by
 induction h with
 |nil=>rfl
 |cons _ _ ih=>simp [ih]
inductive LeH:List Blk→List Blk→Prop
 |nil:LeH [] []
 |cons {p q:List AV} {f g:Bool} {v:Nat} {ps qs:List Blk} (h:LeL p q) (hs:LeH ps qs):LeH (⟨p,f,g,v⟩::ps) (⟨q,f,g,v⟩::qs)
theorem LeH.refl:∀l,LeH l l
 | []=> .nil
 |⟨_,_,_,_⟩::l=> .cons (.refl _) (LeH.refl l)
theorem LeH.len {xs ys} (h:LeH xs ys):ys.length=xs.length:=by
 induction h with
 |nil=>rfl
 |cons _ _ ih=>simp [ih]
section
variable {P:Program} {S S' X X' V V':Pr} {r:Option Nat} {lo:Nat} {yv:Option Nat} {w w':World} {m m':List MB} {A A' B C:List (AV×Value)} {hp hp':List Blk} {tm tm':List AV} {hv hv':List (List Value)} {a a':Act} {Ev:Env P} {s s':St Ev.β} {b:Ev.β} {Q:Exit→St Ev.β→Prop} {c:Code}
theorem LeA.rv {x y:AV} {v} (h:LeA x y) (hr:RV S w m yv x v):RV S w m yv y v:=by
 rcases h with rfl|rfl|⟨h,k,h1⟩|rfl
 ·exact hr
 ·exact .bad
 ·have hv:=AAu9 h hr;subst hv;rcases h1 with rfl|⟨e,rfl⟩
  ·exact .d (.nil k)
  ·exact .ownNil
 ·exact hr.view
theorem LeA.own {x y} {v} (h:LeA x y) (hr:RV S w m yv x v):x=y∨ownB (y,v)=none:=by
 rcases h with rfl|rfl|⟨h,k,h1⟩|rfl
 ·exact .inl (Eq.refl _)
 ·exact .inr (Eq.refl _)
 ·have hv:=AAu9 h hr;subst hv;rcases h1 with rfl|⟨e,rfl⟩
  ·exact .inr (Eq.refl _)
  ·exact .inr (Eq.refl _)
 ·exact .inr (AAt9 _ _)
inductive LP:List (AV×Value)→List (AV×Value)→Prop
 |nil:LP [] []
 |cons {x y:AV} {v:Value} {A A':List (AV×Value)} (h:LeA x y) (hs:LP A A'):LP ((x,v)::A) ((y,v)::A')
theorem LP.refl:∀l,LP l l
 | []=> .nil
 |(_,_)::l=> .cons .rfl (LP.refl l)
theorem LP.append {A A' B B'} (h:LP A A') (h':LP B B'):LP (A++B) (A'++B'):=by
 induction h with
 |nil=>exact h'
 |cons h _ ih=>exact .cons h ih
theorem LeL.zip {xs ys} (h:LeL xs ys):∀(vs:List Value),LP (xs.zip vs) (ys.zip vs):=by
 induction h with
 |nil=>intro vs;exact .nil
 | cons h _ ih=>
  intro vs;cases vs with
  |nil=>exact .nil
  |cons v vs=>exact .cons h (ih vs)
theorem LeH.pairs {ps qs} (h:LeH ps qs):∀hv,LP (AAa9 ps hv) (AAa9 qs hv):=by
 induction h with
 |nil=>intro hv;exact .nil
 | cons h _ ih=>
  intro hv;cases hv with
  |nil=>exact .nil
  | cons v hv=>
   simp only [AAa9,List.zip_cons_cons,List.flatMap_cons];exact (h.zip v).append (ih hv)
theorem Rel.lp (h:LP A A'):∀ {C},Rel S X yv w m (A++C) hp hv→Rel S X yv w m (A'++C) hp hv:=by
 induction h with
 |nil=>intro C h;exact h
 | @cons x y v A1 A2 h1 _ ih=>
  intro C h;have h2:Rel S X yv w m (A1++((x,v)::C)) hp hv:=h.perm (by simpa using (List.perm_middle (a:=(x,v)) (l₁:=A1) (l₂:=C)).symm);have h3:=ih h2;have h4:Rel S X yv w m ((x,v)::(A2++C)) hp hv:=h3.perm List.perm_middle;have hr:RV S w m yv x v:=h4.rv _ (List.mem_cons_self ..);rcases h1.own hr with rfl|hn
  ·exact h4
  ·exact (h4.sub (List.sublist_cons_self _ _)).cons (h1.rv hr) hn
theorem LeH.get {ps qs} (h:LeH ps qs):∀(g:Nat) (q:Blk),qs[g]? =some q→∃p,ps[g]? =some p∧q.fro=p.fro∧q.grow=p.grow∧q.ver=p.ver∧q.cells.length=p.cells.length:=by
 induction h with
 |nil=>intro g q hq;simp at hq
 | cons h _ ih=>
  intro g q hq;cases g with
  |zero=>simp at hq;subst hq;exact ⟨_,rfl,rfl,rfl,rfl,h.len⟩
  |succ g=>simp at hq;simpa using ih g q hq
theorem Rel.leH (h:LeH hp hp') (hr:Rel S X yv w m A hp hv):Rel S X yv w m A hp' hv:=by
 refine ⟨hr.lt,hr.rv,hr.pw,hr.nm,hr.sp,hr.mnd,hr.ml.trans h.len.symm,hr.hl.trans h.len.symm,fun g blk p vs h1 h2 h3=> ?_,hr.gl⟩;obtain ⟨blk0,e1,e2,e3,e4,e5⟩:=h.get g blk h1;obtain ⟨a1,a2,a3,a4,a5,a6,a9,a10⟩:=hr.bl g blk0 p vs e1 h2 h3;exact ⟨a1.trans e5.symm,a2.trans e3.symm,a3.trans e4.symm,a4,a5,a6,by rw [e2];exact a9,by rw [e2];exact a10⟩
theorem Tie.le {pv:List (Nat×Loc)} (h1:LeL tm tm') (h2:LeH hp hp') (ht:Tie Ev lo r S X V w m B hv ⟨tm,hp,pv⟩ b a):Tie Ev lo r S X V w m B hv ⟨tm',hp', []⟩ b a:=by
 refine ⟨⟨h1.len.trans ht.rel.1, ?_,by intro p hp;cases hp⟩,ht.sub,ht.env,ht.round,ht.marks,ht.base⟩;refine Rel.leH h2 ?_;have:=Rel.lp ((h1.zip a.tmps.toList).append ((LP.refl B).append (h2.pairs hv))) (C:= []) (by simpa using ht.rel.2.1);simpa using this
theorem W.cast (h1:LeL tm tm') (h2:LeH hp hp') (h:W Ev c ⟨tm',hp',b⟩ Q):W Ev c ⟨tm,hp,b⟩ Q:=
 fun lo r S X V w m B hv a ht=>h lo r S X V w m B hv a (ht.le h1 h2)
theorem W.castPost (h:W Ev c s fun e s'=>∃tm' hp',LeL s'.tm tm'∧LeH s'.hp hp'∧Q e ⟨tm',hp',s'.b⟩):W Ev c s Q:=by
 intro lo r S X V w m B hv a ht;refine wpIn_mono (h lo r S X V w m B hv a ht) ?_;rintro e a' w' ⟨s',S',X',V',m',hv',⟨tm',hp',h1,h2,hq⟩,h3,ht'⟩;exact ⟨_,S',X',V',m',hv',hq,h3,ht'.le h1 h2⟩
theorem WR.cast {n} (h1:LeL tm tm') (h2:LeH hp hp') (h:WR Ev c n ⟨tm',hp',b⟩ Q):WR Ev c n ⟨tm,hp,b⟩ Q:=by
 cases n with
 |zero=>exact h.elim
 |succ n=>exact W.cast h1 h2 h
def AAn9 (keep:List Nat):Nat→List AV→List AV
 |_, []=> []
 |i,x::l=>(if keep.contains i then x else .bad)::AAn9 keep (i+1) l
theorem AAc9 (keep):∀l i,LeL l (AAn9 keep i l)
 | [],_=> .nil
 |x::l,i=> .cons (by split;exact .rfl;exact .bad) (AAc9 keep l (i+1))
def maskK {β:Type} (n:Nat) (keep:List Nat) (K:Exit→List AV→List Blk→β→Prop):Exit→List AV→List Blk→β→Prop:=fun e tm hp b=>BIf (lowHp n hp) (K e (AAn9 keep 0 (lowTm n tm)) (hp.take n) b) False
theorem W.ofMask {X} {k} {keep} {K} (hm:P.follows .mixedOrders=true) (hX:X.Ok) (h:wpc P X k c tm hp b (maskK hp.length keep K)) (hq:∀e tm hp b,K e tm hp b→Q e ⟨tm,hp,b⟩):W Ev c ⟨tm,hp,b⟩ Q:=by
 refine W.castPost (W.scratch (AAy9 hm hX h fun e tm' hp' b' hK=> ?_));obtain ⟨h1,h2⟩:=hK.elim';exact ⟨h1,_,_,AAc9 keep _ 0,LeH.refl _,hq _ _ _ _ h2⟩
theorem WR.ofMask {X} {n k} (keep) (hm:P.follows .mixedOrders=true) (hX:X.Ok) (h:wpc P X k c tm hp b (maskK hp.length keep (thenK (fun tm hp b=>WR Ev c n ⟨tm,hp,b⟩ Q) fun e tm hp b=>Q e ⟨tm,hp,b⟩))):WR Ev c (n+1) ⟨tm,hp,b⟩ Q:=
 W.ofMask hm hX h fun e tm hp b hK=>by cases e<;>exact hK
def maskT {β:Type} (keep:List Nat) (K:Exit→List AV→List Blk→β→Prop):Exit→List AV→List Blk→β→Prop:=fun e tm hp b=>K e (AAn9 keep 0 tm) hp b
theorem WR.ofMaskT {X} {n k} (keep) (hm:P.follows .mixedOrders=true) (hX:X.Ok) (h:wpc P X k c tm hp b (maskT keep (thenK (fun tm hp b=>WR Ev c n ⟨tm,hp,b⟩ Q) fun e tm hp b=>Q e ⟨tm,hp,b⟩))):WR Ev c (n+1) ⟨tm,hp,b⟩ Q:=
 W.castPost (AAy9 hm hX h fun e tm hp b hK=>⟨AAn9 keep 0 tm,hp,AAc9 _ tm 0,LeH.refl _,by cases e<;>exact hK⟩)
theorem ACx9 (n) (xs):lows n (flatA xs)=true:=by
 unfold flatA;induction xs.flatten with
 |nil=>rfl
 |cons d l ih=>simp only [List.map_cons,lows,AV.low,Bool.true_and];exact ih
def AZv9 (Ev:Env P) (tm:List AV) (Q:Exit→St Ev.β→Prop) (K:List Blk→Ev.β→Prop):Exit→List Blk→Ev.β→Prop
 | .normal,hp,b=>K hp b
 | .ret,hp,b=>Q .ret ⟨tm,hp,b⟩
 | .exit id,hp,b=>Q (.exit id) ⟨tm,hp,b⟩
 | .goto t,hp,b=>Q (.goto t) ⟨tm,hp,b⟩
 |_,_,_=>False
def takeK {β:Type} (n:Nat) (K:Exit→List Blk→β→Prop):Exit→List AV→List Blk→β→Prop:=fun e _ hp b=>BIf (lowHp n hp) (K e (hp.take n) b) False
def wpcY {β:Type} (P:Program) (X:CX β) (k:Nat) (ps:Array Tmp) (assign body:Code) (tm:List AV) (args:List AV) (hp:List Blk) (b:β) (K:Exit→List AV→List Blk→β→Prop):Prop:=
 wpc P X k assign (APa9 (tm.map Zdg) ps (args.map Zdg)) hp b fun e tm' hp' b'=>BIf (match e with| .normal=>true|_=>false) (wpc P X k body tm' hp' b' K) False
theorem YBody.ofWp {X} {k n} {ps} {assign body} {args} {Qy} {K} (hm:P.follows .mixedOrders=true) (hX:X.Ok) (hl:args.length=ps.size)
 (h:wpcY P X k ps assign body tm args hp b K) (hK:∀e tm' hp' b',K e tm' hp' b'→lowHp n hp'=true∧match e with
  | .normal=>Qy true (hp'.take n,b',none)
  | .ret=>Qy false (hp'.take n,b',some .ret)
  | .exit id=>Qy false (hp'.take n,b',some (.exit id))
  | .goto t=>Qy false (hp'.take n,b',some (.goto t))
  |_=>False) (hn:hp.length≤n:=by first|exact Zat _|decide|simp):YBody Ev tm ps assign body n (hp,b,none) args Qy:=by
 refine ⟨rfl,hl,AAy9 hm hX h fun e tm' hp' b' h1=> ?_⟩;obtain ⟨he,h1⟩:=h1.elim';refine ⟨by cases e<;>simp at he ⊢,AAy9 hm hX h1 fun e tm' hp' b' h2=>⟨n,hn,hK e tm' hp' b' h2⟩⟩
theorem YList.step {X} {k n} {ps} {assign body} {x} {xs} (hm:P.follows .mixedOrders=true) (hX:X.Ok) (hl:x.length=ps.size)
 (h:wpcY P X k ps assign body tm x hp b (takeK n (AZv9 Ev tm Q fun hp' b'=>YList (YBody Ev tm ps assign body n) xs (hp',b',none) (AKq9 tm Q)))) (hn:hp.length≤n:=by first|exact Zat _|decide|simp):YList (YBody Ev tm ps assign body n) (x::xs) (hp,b,none) (AKq9 tm Q):=by
 simp only [YList];refine YBody.ofWp (k:=k) (hn:=hn) hm hX hl h fun e tm' hp' b' h1=> ?_;obtain ⟨h1,h2⟩:=h1.elim';refine ⟨h1, ?_⟩;cases e with
 |normal=>simpa [AZv9] using h2
 |ret=>simpa [AKq9,AZv9] using h2
 |exit id=>simpa [AKq9,AZv9] using h2
 |goto t=>simpa [AKq9,AZv9] using h2
 |panic ch=>exact h2.elim
 |outgrown=>exact h2.elim
theorem PCall.ofFn {f n} {fn} {args} {x} {T} {U} {u} (hm:P.follows .mixedOrders=true)
 (hT:AAb9 P T) (hS:AAl9 P U) (hf:P.funcs[f]? =some fn) (hn:(fn.name== "runtime.NumGoroutine")=false) (hargs:args.map Zdg=args)
 (h:∀(Ev:Env P) (b:Ev.β),wpFn P ⟨T,U,wlW Ev,Ev.Y,u⟩ n fn args b (fun y _=>y=x)):PCall P f args x:=by
 cases hb:fn.body with
 |some c=>exact PCall.ofWp hm hT hS hf hb hn hargs fun Ev b=>by have:=h Ev b;unfold wpFn at this;rw [hb] at this;exact this
 | none=>
  have:=h (Env.none P none) ();unfold wpFn at this;rw [hb] at this;exact this.elim
inductive LeT:AV→AV→Prop
 |base {x y:AV} (h:LeA x y):LeT x y
 |tup {xs ys:List AV} (h:LeL xs ys):LeT (.tup xs) (.tup ys)
 |agg {xs ys:List AV} (h:LeL xs ys):LeT (.agg xs) (.agg ys)
theorem LeL.rvs {xs ys:List AV} (h:LeL xs ys):∀(vs:List Value),xs.length=vs.length→(∀(i:Nat) (c:AV) (v:Value),xs[i]? =some c→vs[i]? =some v→RV S w m yv c v)→∀(i:Nat) (c:AV) (v:Value),ys[i]? =some c→vs[i]? =some v→RV S w m yv c v:=by
 induction h with
 |nil=>intro vs _ _ i c v hc;simp at hc
 | cons h _ ih=>
  intro vs hl hr i c v hc hv;cases vs with
  |nil=>simp at hl
  | cons v0 vs=>
   cases i with
   |zero=>simp at hc hv;subst hc;subst hv;exact h.rv (hr 0 _ _ rfl rfl)
   |succ i=>simp at hc hv;exact ih vs (by simpa using hl) (fun i c v h1 h2=>hr (i+1) c v (by simpa using h1) (by simpa using h2)) i c v hc hv
theorem LeT.rv {x y:AV} {v:Value} (h:LeT x y) (hr:RV S w m yv x v):RV S w m yv y v:=by
 cases h with
 |base h=>exact h.rv hr
 | tup h=>
  cases hr with
  |tup hl hr=>exact .tup (h.len.trans hl) fun i c v h1 h2=>h.rvs _ (by rw [Array.length_toList];exact hl) (fun i c v h1 h2=>hr i c v h1 (by simpa using h2)) i c v h1 (by simpa using h2)
 | agg h=>
  cases hr with
  |agg hl hr=>exact .agg (h.len.trans hl) fun i c v h1 h2=>h.rvs _ (by rw [Array.length_toList];exact hl) (fun i c v h1 h2=>hr i c v h1 (by simpa using h2)) i c v h1 (by simpa using h2)
theorem PCall.ofWL {f} {fn} {c} {args} {x} (hf:P.funcs[f]? =some fn) (hb:fn.body=some c) (hn:(fn.name== "runtime.NumGoroutine")=false) (hargs:args.map Zdg=args)
 (hW:∀(Ev:Env P) (b:Ev.β),W Ev c ⟨ACf9 fn args, [],b⟩ (ANe9 P fn fun y hp _=>∃z,SealD hp y z∧LeT z x)):PCall P f args x:=by
 refine ⟨AGu9 hf hb hn,fun S w vs hl hvs hlt hgl=> ?_⟩;have hrel:Rel S (fun b _=>b<w.heap.size) none w [] (args.zip vs++([]++AAa9 [] [])) [] []:=by
  have h0:Rel S (fun b _=>b<w.heap.size) none w [] [] [] []:=⟨fun b i h=>h.elim (hlt b i) id,by simp,List.Pairwise.nil,by simp,by simp,by simp,rfl,rfl,by simp,hgl⟩;have:=h0.pushAll (args.zip vs) (fun p hp=>by
   obtain ⟨j,hj⟩:=Zay.1 hp;rw [List.getElem?_zip_eq_some] at hj;refine ⟨hvs j p.1 p.2 hj.1 hj.2, ?_⟩;have hp1:p.1.view=p.1:=by
    have h1:(args.map Zdg)[j]? =some p.1.view:=by simp [hj.1]
    rw [hargs,hj.1] at h1;exact (Option.some.inj h1).symm
   obtain ⟨p1,p2⟩:=p;simp only at hp1;rw [←hp1];exact AAt9 _ _)
  simpa [AAa9] using this
 refine ADn9 (Ev:=Env.none P none) (V:=fun _ _=>False) (b:=(():Unit)) hf hb hl (hW (Env.none P _) (():Unit)) hrel (fun _ _ h=>h.elim) trivial (Nat.zero_le _) ?_;intro y S' X' V' w' m' hv' hp' v b' hyz htr0 hxs hm hr _ hyv;obtain ⟨z,hy,hz⟩:=hyz;have htr:Tr (fun b i=>¬b<w.heap.size) (fun _=>False) S w S' w':=htr0.mono (fun b i h=>h.resolve_right id) (fun _ h=>h);refine ⟨v,AAz9 S' m',rfl,AFc9 htr (fun b i hb hz=>hz hb) (fun _ h=>h),fun b i hs=> .inl (htr.up b i hs),fun b i hs=> ?_,(hz.rv (ADc9 (B:= []) (T:=AAz9 S' m') (by simpa using hr) (fun _ _ h=> .inl h) hy (fun g _ p hp i hi=> .inr ⟨g,p,hp,rfl,hi⟩) hyv)).view⟩;rcases hs with hs|⟨g,p,hg,rfl,hi⟩
 ·rcases htr.new b i hs with h1|h1|h1
  ·exact .inl h1
  ·exact .inr ⟨Zdn h1,htr.lt b i hs⟩
  ·exact .inr ⟨h1,htr.lt b i hs⟩
 ·have hr':Rel S' X' none w' m' (([]:List (AV×Value))++AAa9 hp' hv') hp' hv':=hr;obtain ⟨blk,us,cur,e,g1,g2,g3,g4,g5,g6,g7,g8,g9,g10,g11,g12⟩:=hr'.block hg;have hlt':p.b<w'.heap.size:=(Zao.1 g8).1;cases hfr:blk.fro with
  | true=>
   have hs:=g12 hfr i hi;rcases htr.new _ _ hs with h1|h1|h1
   ·exact .inl h1
   ·exact .inr ⟨Zdn h1,hlt'⟩
   ·exact .inr ⟨h1,hlt'⟩
  | false=>
   refine .inr ⟨Zdn fun hb=> ?_,hlt'⟩;exact (g11 hfr i).2 (hxs _ _ hb)
theorem CX.Ok.ofWl {Ev:Env P} {T} {U} {u} {wl:WLT Ev.β} (hT:AAb9 P T) (hS:AAl9 P U)
 (hwl:∀c tm hp b K,wl c tm hp b K→W Ev c ⟨tm,hp,b⟩ (fun e s=>K e s.tm s.hp s.b)):CX.Ok Ev ⟨T,U,wl,Ev.Y,u⟩:=⟨hT,hS,hwl,rfl⟩
theorem PCall.ofFnW {f n} {fn} {args} {x} {T} {U} {u:Bool} (wl:∀β:Type,WLT β) (hm:P.follows .mixedOrders=true)
 (hT:AAb9 P T) (hS:AAl9 P U) (hwl:∀(Ev:Env P) c tm hp b K,wl Ev.β c tm hp b K→W Ev c ⟨tm,hp,b⟩ (fun e s=>K e s.tm s.hp s.b)) (hf:P.funcs[f]? =some fn) (hn:(fn.name== "runtime.NumGoroutine")=false) (hargs:args.map Zdg=args)
 (h:∀(Ev:Env P) (b:Ev.β),wpFn P ⟨T,U,wl Ev.β,Ev.Y,u⟩ n fn args b (fun y _=>y=x)):PCall P f args x:=by
 cases hb:fn.body with
 | some c=>
  refine PCall.ofWS hf hb hn hargs fun Ev b=> ?_;have h1:=h Ev b;unfold wpFn at h1;rw [hb] at h1;refine AAy9 hm (CX.Ok.ofWl hT hS (hwl Ev)) h1 fun e tm hp b hK=> ?_;obtain ⟨g1,ys,g2,z,g3,rfl⟩:=AFw9 hK;exact ⟨g1,ys,g2,g3⟩
 | none=>
  have:=h (Env.none P none) ();unfold wpFn at this;rw [hb] at this;exact this.elim
theorem PCall.ofFnL {f n} {fn} {args} {x} {T} {U} {u:Bool} (wl:∀β:Type,WLT β) (hm:P.follows .mixedOrders=true)
 (hT:AAb9 P T) (hS:AAl9 P U) (hwl:∀(Ev:Env P) c tm hp b K,wl Ev.β c tm hp b K→W Ev c ⟨tm,hp,b⟩ (fun e s=>K e s.tm s.hp s.b)) (hf:P.funcs[f]? =some fn) (hn:(fn.name== "runtime.NumGoroutine")=false) (hargs:args.map Zdg=args)
 (h:∀(Ev:Env P) (b:Ev.β),wpFn P ⟨T,U,wl Ev.β,Ev.Y,u⟩ n fn args b (fun y _=>LeT y x)):PCall P f args x:=by
 cases hb:fn.body with
 | some c=>
  refine PCall.ofWL hf hb hn hargs fun Ev b=> ?_;have h1:=h Ev b;unfold wpFn at h1;rw [hb] at h1;refine AAy9 hm (CX.Ok.ofWl hT hS (hwl Ev)) h1 fun e tm hp b hK=> ?_;exact AFw9 hK
 | none=>
  have:=h (Env.none P none) ();unfold wpFn at this;rw [hb] at this;exact this.elim
def fnKS {β:Type} (P:Program) (fn:Func) (R:AV→List Blk→β→Prop):Exit→List AV→List Blk→β→Prop:=fun e tm hp b=>
 BIf (match e with| .ret=>true| .normal=>true|_=>false) (match resAs P hp tm fn.results.toList with
  |some ys=>R (resV ys) hp b
  |none=>False) False
def wpFnS {β:Type} (P:Program) (X:CX β) (n:Nat) (fn:Func) (args:List AV) (b:β) (R:AV→List Blk→β→Prop):Prop:=
 match fn.body with
 |some c=>wpc P X n c (ACf9 fn args) [] b (fnKS P fn R)
 |none=>False
theorem AFa9 {fn} {R:AV→List Blk→Ev.β→Prop} {e} {tm} {hp} {b:Ev.β} (h:fnKS P fn R e tm hp b):ANe9 P fn R e ⟨tm,hp,b⟩:=by
 unfold fnKS at h;obtain ⟨he,h⟩:=h.elim';split at h
 ·rename_i ys hys;refine ⟨?_,ys,hys,h⟩;cases e<;>simp at he ⊢
 ·exact h.elim
theorem FCall.ofFnW {f n} {fn} {args} {x} {hp1} {T} {U:List (Nat×(List AV→List Blk→(AV→List Blk→Prop)→Prop))} {u:Bool} (wl:∀β:Type,WLT β) (hm:P.follows .mixedOrders=true)
 (hT:AAb9 P T) (hS:AAl9 P U) (hwl:∀Ev:Env P,∀c tm hp b K,wl Ev.β c tm hp b K→W Ev c ⟨tm,hp,b⟩ (fun e s=>K e s.tm s.hp s.b)) (hf:P.funcs[f]? =some fn) (hn:(fn.name== "runtime.NumGoroutine")=false) (hargs:args.map Zdg=args) (hfro:hp1.all (fun b=> !b.fro)=true)
 (h:∀(Ev:Env P) (b:Ev.β),wpFnS P ⟨T,U,wl Ev.β,Ev.Y,u⟩ n fn args b fun y hp _=>y=x∧hp=hp1):FCall P f args x hp1:=by
 cases hb:fn.body with
 | none=>
  have:=h (Env.none P none) (():Unit);simp only [wpFnS,hb] at this
 | some c=>
  refine FCall.ofW hf hb hn hargs hfro fun Ev b=> ?_;have h1:=h Ev b;simp only [wpFnS,hb] at h1;exact AAy9 hm (CX.Ok.ofWl hT hS (hwl Ev)) h1 fun e tm hp b hK=>AFa9 hK
inductive LeX:AV→AV→Prop where
 |le {x y:AV} (h:LeT x y):LeX x y
 |full (k:Nat) (xs:List (List Dv)):LeX (.full k xs) (.d (.sl k xs))
theorem LeX.rv {S} {w} {m} {yv} {x y:AV} {v} (h:LeX x y) (hr:RV S w m yv x v):RV S w m yv y v:=by
 cases h with
 |le h=>exact h.rv hr
 | full=>cases hr with
  |full h=>exact .d h
end
inductive Ty where
 |int (k:IntKind)
 |bool
 |str
 |sl (r:List Ty)
mutual
inductive HasTy:Ty→Dv→Prop
 |int (k:IntKind) (n:Int) (h:(Lit.int k n).wf=true):HasTy (.int k) (.s (.int k n))
 |bool (b:Bool):HasTy .bool (.s (.bool b))
 |str (s:ByteArray) (h:s.size≤maxLen):HasTy .str (.s (.string s))
 |sl (r:List Ty) (xs:List (List Dv)) (hl:xs.length≤maxLen) (h:∀row,row∈xs→AHj9 r row):HasTy (.sl r) (.sl r.length xs)
inductive AHj9:List Ty→List Dv→Prop
 |nil:AHj9 [] []
 |cons {t:Ty} {x:Dv} {ts:List Ty} {xs:List Dv} (h:HasTy t x) (hs:AHj9 ts xs):AHj9 (t::ts) (x::xs)
end
def BGu9 (P:Program) (g:TypeId→Option (List Ty)):List Field→Nat→Option (List Ty)
 | [],_=>some []
 | f ::fs,off=>if f.offset=off then match g f.type with
  |some r=>if P.cellsOf f.type=r.length then (BGu9 P g fs (off+r.length)).map (r++ ·) else none
  |none=>none
  else none
def flat (P:Program):Nat→TypeId→Option (List Ty)
 |0,_=>none
 | n+1,t=>match P.underlying t with
  |some .bool=>some [.bool]
  |some (.int k)=>some [.int k]
  |some .string=>some [.str]
  | some (.slice e)=>match flat P n e with
   |some r=>if P.cellsOf e=r.length then some [.sl r] else none
   |none=>none
  | some (.struct fs)=>match BGu9 P (flat P n) fs.toList 0 with
   |some r=>if P.cellsOf t=r.length then some r else none
   |none=>none
  | some (.array k e)=>match flat P n e with
   |some r=>if P.cellsOf e=r.length∧P.cellsOf t=k*r.length then some (Zam k r).flatten else none
   |none=>none
  |_=>none
inductive Rw (S:Pr) (w:World):List Ty→List Dv→List Value→Prop
 |nil:Rw S w [] [] []
 |cons {t:Ty} {x:Dv} {v:Value} {ts:List Ty} {xs:List Dv} {vs:List Value} (h:HasTy t x) (hr:DR S w x v) (h1:v.oneCell'=true) (hs:Rw S w ts xs vs):Rw S w (t::ts) (x::xs) (v::vs)
section
variable {S:Pr} {w:World}
theorem Rw.tys {ts} {xs} {vs:List Value} (h:Rw S w ts xs vs):AHj9 ts xs:=by
 induction h with
 |nil=>exact .nil
 |cons h _ _ _ ih=>exact .cons h ih
theorem Rw.len {ts} {xs} {vs:List Value} (h:Rw S w ts xs vs):xs.length=ts.length∧vs.length=ts.length:=by
 induction h with
 |nil=>exact ⟨rfl,rfl⟩
 |cons _ _ _ _ ih=>simp [ih.1,ih.2]
theorem Rw.append {ts ts'} {xs xs'} {vs vs'} (h:Rw S w ts xs vs) (h':Rw S w ts' xs' vs'):Rw S w (ts++ts') (xs++xs') (vs++vs'):=by
 induction h with
 |nil=>exact h'
 |cons h hr h1 _ ih=>exact .cons h hr h1 ih
theorem Rw.at {ts} {xs} {vs} (h:Rw S w ts xs vs):∀(j:Nat) (c:Dv),xs[j]? =some c→∃v,vs[j]? =some v∧DR S w c v∧v.oneCell'=true:=by
 induction h with
 |nil=>intro j c h;simp at h
 | cons h hr h1 _ ih=>
  intro j c hc;cases j with
  |zero=>simp at hc;subst hc;exact ⟨_,rfl,hr,h1⟩
  |succ j=>simpa using ih j c (by simpa using hc)
end
theorem BFe9 {α:Type} {Q:Nat→α→Prop}:∀(n:Nat),(∀i,i<n→∃x,Q i x)→∃xs:List α,xs.length=n∧∀i x,xs[i]? =some x→Q i x
 |0,_=>⟨[],rfl,fun i x h=>by simp at h⟩
 | n+1,h=>by
  obtain ⟨xs,h1,h2⟩:=BFe9 n fun i hi=>h i (by omega);obtain ⟨x,hx⟩:=h n (by omega);refine ⟨xs++ [x],by simp [h1],fun i y hy=> ?_⟩;rcases Nat.lt_or_ge i n with hi|hi
  ·rw [Zaw (by omega)] at hy;exact h2 i y hy
  ·rw [List.getElem?_append_right (by omega)] at hy;cases hk:i - xs.length with
   | zero=>
    rw [hk] at hy;simp at hy;subst hy;have:i=n:=by omega
    subst this;exact hx
   |succ k=>rw [hk] at hy;simp at hy
theorem BHw9 {w:World} {a:Addr} {v:Value} (h:w.cell? a=some v):a.block<w.heap.size:=by
 unfold World.cell? at h;cases hh:w.heap[a.block]? with
 |none=>rw [hh] at h;cases h
 |some o=>exact (Zao.1 hh).1
section
variable {H:Type} {enc:TypeId×Value→H} {P:Program} {w:World} {spare:Nat→Bool} {held:Bool}
theorem ANw9 {g} {fuel} (ih:∀t cs x (tys:List Ty),g t=some tys→DataW.trod enc P w 0 spare held fuel t cs=some x→∃row,Rw (fun b _=>b<w.heap.size) w tys row cs):
 ∀(fs:List Field) (off:Nat) (cs:List Value) (tys:List Ty),BGu9 P g fs off=some tys→
 (∀f,f∈fs→∃x,DataW.trod enc P w 0 spare held fuel f.type ((cs.drop f.offset).take (P.cellsOf f.type))=some x)→cs.length=off+tys.length→
 ∃row,Rw (fun b _=>b<w.heap.size) w tys row (cs.drop off)
 | [],off,cs,tys,h,_,hl=>by
  rw [BGu9] at h;cases h;rw [List.drop_eq_nil_of_le (by simp at hl;omega)];exact ⟨[], .nil⟩
 | f::fs,off,cs,tys,h,hf,hl=>by
  rw [BGu9] at h;split at h<;>try (cases h;done)
  rename_i ho;split at h<;>try (cases h;done)
  rename_i r hr;split at h<;>try (cases h;done)
  rename_i hc;simp only [Zap] at h;obtain ⟨tys',h1,rfl⟩:=h;obtain ⟨x,hx⟩:=hf f (List.mem_cons_self ..);obtain ⟨row,h2⟩:=ih f.type _ _ r hr hx;obtain ⟨row',h3⟩:=ANw9 ih fs (off+r.length) cs tys' h1 (fun f hm=>hf f (List.mem_cons_of_mem _ hm)) (by simp at hl;omega);refine ⟨row++row', ?_⟩;have e:cs.drop off=(cs.drop off).take r.length++cs.drop (off+r.length):=by
   rw [←List.drop_drop,List.take_append_drop]
  rw [e];rw [ho,hc] at h2;exact h2.append h3
theorem AIs9:∀n fuel (t:TypeId) (cs:List Value) (x:DataW H×List MemPlace) (tys:List Ty),flat P n t=some tys→DataW.trod enc P w 0 spare held fuel t cs=some x→
 ∃row,Rw (fun b _=>b<w.heap.size) w tys row cs
 |0,_,_,_,_,_,h,_=>by simp [flat] at h
 | n+1,fuel,t,cs,x,tys,h,ht=>by
  rw [flat] at h;split at h
  ·rename_i hu;cases h;obtain ⟨b,rfl,rfl⟩:=DataW.trod_bool hu ht;exact ⟨_, .cons (.bool b) (.s _) rfl .nil⟩
  ·rename_i k hu;cases h;obtain ⟨m,rfl,rfl,hw⟩:=DataW.trod_int hu ht;exact ⟨_, .cons (.int k m hw) (.s _) rfl .nil⟩
  ·rename_i hu;cases h;obtain ⟨s,rfl,rfl,hw⟩:=DataW.trod_string hu ht;exact ⟨_, .cons (.str s hw) (.s _) rfl .nil⟩
  ·rename_i e hu;split at h<;>try (cases h;done)
   rename_i r hr;split at h<;>try (cases h;done)
   rename_i hc;cases h;rcases DataW.trod_slice hu ht with ⟨rfl,rfl⟩|⟨a,len,cap,elems,rest,m,rfl,rfl,rfl,_,hlc,hcm,hel,hes,_,_⟩
   ·exact ⟨[.sl r.length []], .cons (.sl r [] (Nat.zero_le _) (fun row hr=>by cases hr)) (.nil _) rfl .nil⟩
   ·have hrow:∀i,i<len→∃row,∃cs':List Value,(∀j,j<r.length→w.cell? ((a.add (i*r.length)).add j)=cs'[j]?)∧cs'.length=r.length∧Rw (fun b _=>b<w.heap.size) w r row cs':=by
     intro i hi;have h1:=hes i hi;have h2:∃y,elems[i]? =some y:=⟨elems[i]'(by omega),by simp⟩;obtain ⟨y,hy⟩:=h2;rw [hy,hc] at h1;simp only [Option.bind_eq_some_iff] at h1;obtain ⟨cs',h3,h4⟩:=h1;obtain ⟨row,h5⟩:=AIs9 n m e cs' y r hr h4;have h6:=World.cells?_some h3;exact ⟨row,cs',h6.2.2,h6.2.1,h5⟩
    obtain ⟨xs,hxl,hxs⟩:=BFe9 len hrow;refine ⟨[.sl r.length xs], .cons (.sl r xs (by omega) fun row hm=> ?_) ?_ rfl .nil⟩
    ·obtain ⟨i,hi⟩:=Zay.1 hm;obtain ⟨_,_,_,h⟩:=hxs i row hi;exact h.tys
    ·subst hxl;have key:∀i row j c,xs[i]? =some row→row[j]? =some c→a.spot=none∧∃v,w.cell? ⟨a.block,a.off+(i*r.length+j),none⟩=some v∧DR (fun b _=>b<w.heap.size) w c v∧v.oneCell'=true:=by
      intro i row j c hi hj;have hil:i<xs.length:=(Zaf.1 hi).1;obtain ⟨cs',g1,g2,g3⟩:=hxs i row hi;obtain ⟨v,g4,g5,g6⟩:=g3.at j c hj;have hjl:j<r.length:=by
       have:=(Zaf.1 hj).1;have:=g3.len.1;omega
      have g7:=g1 j hjl;rw [g4] at g7;have hsp:a.spot=none:=by
       cases hx0:xs[0]? with
       |none=>rw [List.getElem?_eq_none_iff] at hx0;omega
       | some row0=>
        obtain ⟨cs0,e1,e2,e3⟩:=hxs 0 row0 hx0;have e4:=e1 0 (by omega);have e5:∃v0,cs0[0]? =some v0:=⟨cs0[0]'(by omega),by simp⟩;obtain ⟨v0,e5⟩:=e5;rw [e5] at e4;have:=World.cell?_spot e4;simpa [Addr.add] using this
      refine ⟨hsp,v, ?_,g5,g6⟩;obtain ⟨ab,ao,ar⟩:=a;simp only at hsp;subst hsp;rw [WideShapes.add_plain,WideShapes.add_plain] at g7;rw [←g7,Nat.add_assoc]
     refine .sl r.length xs a cap (fun i j=>(w.cell? ⟨a.block,a.off+(i*r.length+j),none⟩).getD default) ?_ ?_ ?_ ?_ ?_ hlc ?_
     ·intro i row hi;obtain ⟨_,_,_,h⟩:=hxs i row hi;exact h.len.1
     ·intro i row j c hi hj;obtain ⟨_,v,hv,_⟩:=key i row j c hi hj;exact BHw9 (a:=⟨a.block,a.off+(i*r.length+j),none⟩) hv
     ·intro i row j c hi hj;obtain ⟨_,v,hv,_⟩:=key i row j c hi hj;rw [hv];rfl
     ·intro i row j c hi hj;obtain ⟨_,v,hv,h,_⟩:=key i row j c hi hj;rw [hv];exact h
     ·intro i row j c hi hj;obtain ⟨_,v,hv,_,h⟩:=key i row j c hi hj;rw [hv];exact h
     ·cases hx:xs with
      |nil=>exact .inr (.inr rfl)
      | cons row0 xs0=>
       cases hrl:r with
       |nil=>exact .inr (.inl rfl)
       | cons r0 rs=>
        left;have h0:xs[0]? =some row0:=by rw [hx];rfl
        obtain ⟨_,_,_,h⟩:=hxs 0 row0 h0;have hl:=h.len.1;have:∃c,row0[0]? =some c:=⟨row0[0]'(by rw [hl,hrl];simp),by simp⟩;obtain ⟨c,hc'⟩:=this;exact (key 0 row0 0 c h0 hc').1
  ·rename_i fs hu;split at h<;>try (cases h;done)
   rename_i r hr;split at h<;>try (cases h;done)
   rename_i hc;cases h;obtain ⟨xs,m,rfl,rfl,hl,hxl,hf⟩:=DataW.trod_struct hu ht;have:=ANw9 (fun t cs x tys h1 h2=>AIs9 n m t cs x tys h1 h2) fs.toList 0 cs tys hr (fun f hm=>by
    obtain ⟨i,hi⟩:=Zay.1 hm;have h1:=hf i f (by simpa using hi);have hil:i<fs.size:=by
     have:=(Zaf.1 hi).1;simpa using this
    exact ⟨xs[i]'(by omega),by rw [h1];simp⟩) (by omega)
   simpa using this
  ·rename_i k e hu;split at h<;>try (cases h;done)
   rename_i r hr;split at h<;>try (cases h;done)
   rename_i hc;cases h;obtain ⟨xs,m,rfl,rfl,hl,hxl,hf⟩:=DataW.trod_array hu ht;have key:∀k',k'≤k→∃row,Rw (fun b _=>b<w.heap.size) w (Zam k' r).flatten row (cs.take (k'*r.length)):=by
    intro k';induction k' with
    |zero=>intro _;exact ⟨[],by simpa using Rw.nil⟩
    | succ k' ih=>
     intro hk;obtain ⟨row,h1⟩:=ih (by omega);have h2:=hf k' (by omega);rw [hc.1] at h2;have h3:xs[k']? =some (xs[k']'(by omega)):=by simp
     rw [h3] at h2;obtain ⟨row2,h4⟩:=AIs9 n m e _ _ r hr h2;refine ⟨row++row2, ?_⟩;have e1:(Zam (k'+1) r).flatten=(Zam k' r).flatten++r:=by
      rw [List.replicate_succ'];simp
     have e2:cs.take ((k'+1)*r.length)=cs.take (k'*r.length)++(cs.drop (k'*r.length)).take r.length:=by
      rw [Nat.succ_mul,List.take_add]
     rw [e1,e2];exact h1.append h4
   obtain ⟨row,h1⟩:=key k (Zat _);refine ⟨row, ?_⟩
   rwa [List.take_of_length_le (by omega)] at h1
  ·cases h
end
end Go.Proofs.YthcbbmnjikhihaaGreat.Am
namespace Go.Proofs.YthcbbmnjikhihaaGreat.Am
open Go Go.RowKit Go.WideShapes Go.ChangeShapes Tryz
open AV renaming view → Zdg
open _root_.Array renaming getElem?_eq_some_iff → Zao
open Bool renaming and_eq_true → Zal, or_eq_true → Zfg
open Go.IntKind renaming wrap → Zac
open List renaming all_eq_true → Zbk, getElem?_append_left → Zaw, getElem?_eq_some_iff → Zaf, getElem?_take → Zbd, mem_append → Zca, mem_cons → Zbu, mem_iff_getElem? → Zay, mem_map → Zbf, mem_range → Zcs, range → Zbs, replicate → Zam
open MStep renaming refl → Zfb
open Nat renaming eq_of_beq_eq_true → Zdz, le_of_not_lt → Zdn, le_refl → Zat
open Option renaming map_eq_some_iff → Zap
open Go.World renaming putObj_heap_other → Zcr
open AV (bad)
set_option linter.unusedVariables false
section
variable {H:Type} {enc:TypeId×Value→H} {P:Program}
theorem AKe9 (hl:laidOutB P=true) {W W'} {sp} (hb:Below W.heap.size W W'):∀ {ts} {vs} {ds} {ps},
 (ts.all fun t=>P.readableRec t&&decide (t<P.types.size))=true→DataW.TrodAll enc P W 0 (fun _=>true) true ts vs ds ps→(∀x∈ps,x.block<W.heap.size)→(∀x∈ps,sp x.block=true)→
 DataW.TrodAll enc P W' 0 sp true ts vs ds ps
 | [], [], [],ps,_,h,_,_=>h
 | t::ts,v::vs,d::ds,ps,hr,h,hlt,hsp=>by
  obtain ⟨p,q,h1,h2,rfl⟩:=h;simp only [List.all_cons,Zal,decide_eq_true_eq] at hr;exact ⟨p,q,WideElems.Trod_stays hl hr.1.1 hr.1.2 h1 (fun x hx=>hb.same (hlt x (by simp [hx]))) (fun x hx=>hsp x (by simp [hx])),
   AKe9 hl hb hr.2 h2 (fun x hx=>hlt x (by simp [hx])) (fun x hx=>hsp x (by simp [hx])),rfl⟩
theorem ANp9 {W} {b} {sp} {hd}:∀ {ts} {vs} {ds} {ps},DataW.TrodAll enc P W b sp hd ts vs ds ps→ds.length=ts.length
 | [], [], [],_,_=>rfl
 | t::ts,v::vs,d::ds,_,h=>by
  obtain ⟨p,q,_,h2,_⟩:=h;simp [ANp9 h2]
theorem BWl9 {f} {s:ChangeSpec} {apart fresh handsOn again:Bool} {W W':World} {args:Array Value} {ds gs:List (DataW H)} {before:List MemPlace} {tb:TypeId}
 (hl:laidOutB P=true) (hvars:s.vars= []) (hres:f.resultTypes=#[tb]) (htb:P.underlying tb=some .bool)
 (hread:(f.params.toList.all fun t=>P.readableRec t&&decide (t<P.types.size))=true)
 (hfn:∀ds:List (DataW H),ds.length=f.params.size→s.fn H ds= {results:= [.lit (.bool true)],args:=ds})
 (hW:DataW.Whole enc P f.params.toList s.vars apart W args.toList ds gs before) (hb:Below W.heap.size W W'):
 s.post enc P f apart fresh handsOn again W args (.bool true) W':=by
 have hlt:∀p∈before,p.block<W.heap.size:=fun p hp=>hW.lt p hp;have hold:∀p∈before,(fun b=>decide (b<W.heap.size)) p.block=true:=fun p hp=>by simpa using hlt p hp
 have hW0:=hW;obtain ⟨p,q,hA,hV,rfl,hz,hn⟩:=hW0;rw [hvars] at hV;obtain ⟨rfl,rfl⟩:=trodVars_none hV;have hlen:ds.length=f.params.size:=by
  have:=ANp9 hA;simpa using this
 have hspec:=hfn ds hlen;simp only [List.append_nil] at*;have hargs:∀sp:Nat→Bool,(∀x∈p,sp x.block=true)→DataW.TrodAll enc P W' 0 sp true f.params.toList args.toList ds p:=
  fun sp hsp=>AKe9 hl hb hread hA hlt hsp
 have hr:∀b sp hd,DataW.TrodAll enc P W' b sp hd f.resultTypes.toList ((Value.bool true).resultList f.resultTypes.size) [DataW.lit (.bool true)] []:=by
  intro b sp hd;rw [hres];exact trodAll_cons_mk (shut_bool htb _) trodAll_mk0
 refine ⟨ds, [],p, [],p, [],by simpa using hW, ?_, ?_, ?_, ?_,fun _=> ?_⟩
 ·simp only [List.append_nil,hspec];exact hr _ _ _
 ·simp only [List.append_nil,hspec];exact hargs _ hold
 ·simp only [List.append_nil,hspec,hvars];exact rfl
 ·exact World.keptBut_mono (fun x hx=>⟨hx, .inr (.inl hx)⟩) (hb.frame (· ∈p))
 ·refine ⟨ok_one hres rfl (okWide_bool_mk htb _), [DataW.lit (.bool true)]++ds, [],p,⟨p, [], ?_, ?_,by simp, ?_, ?_⟩,fun x hx _=>hx⟩
  ·have:=trodAll_append (hargs (fun _=>true) (fun _ _=>rfl)) (hr 0 (fun _=>true) true);simpa using this
  ·rw [hvars];rfl
  ·intro b off hp;rw [hb.frozen (hlt _ hp)];exact hz b off hp
  ·intro ha;exact hn ha
inductive ArgsR (S:Pr) (w:World):List AV→List Value→Prop
 |nil:ArgsR S w [] []
 |cons {x:AV} {v:Value} {xs:List AV} {vs:List Value} (h:RV S w [] none x v) (hs:ArgsR S w xs vs):ArgsR S w (x::xs) (v::vs)
theorem ArgsR.at {S} {w} {xs:List AV} {vs:List Value} (h:ArgsR S w xs vs):xs.length=vs.length∧∀(i:Nat) (x:AV) (v:Value),xs[i]? =some x→vs[i]? =some v→RV S w [] none x v:=by
 induction h with
 |nil=>exact ⟨rfl,fun i x v h=>by simp at h⟩
 | cons h _ ih=>
  refine ⟨by simp [ih.1],fun i x v h1 h2=> ?_⟩;cases i with
  |zero=>simp at h1 h2;subst h1;subst h2;exact h
  |succ i=>exact ih.2 i x v (by simpa using h1) (by simpa using h2)
abbrev AllOf (w:World):Pr:=fun b _=>b<w.heap.size
theorem BNj9 {fid} {f} {s:ChangeSpec} {apart fresh handsOn again:Bool} {W:World} {args:Array Value} {ds gs:List (DataW H)} {before:List MemPlace} {tb:TypeId}
 (hl:laidOutB P=true) (hvars:s.vars= []) (hres:f.resultTypes=#[tb]) (htb:P.underlying tb=some .bool)
 (hread:(f.params.toList.all fun t=>P.readableRec t&&decide (t<P.types.size))=true)
 (hfn:∀ds:List (DataW H),ds.length=f.params.size→s.fn H ds= {results:= [.lit (.bool true)],args:=ds})
 (hW:DataW.Whole enc P f.params.toList s.vars apart W args.toList ds gs before)
 (avs:List AV) (ha:ArgsR (AllOf W) W avs args.toList) (hp:PCall P fid avs (.d (.s (.bool true)))) (hgl:Glob (AllOf W) W):
 Calls P fid args W fun e W'=>∃v,e= .returned v∧s.post enc P f apart fresh handsOn again W args v W':=by
 obtain ⟨h1,h2⟩:=ha.at;have:=callsIn_wide.1 (hp.2 (AllOf W) W args.toList h1 h2 (fun b i h=>h) hgl);refine Calls.mono this ?_;rintro e W' ⟨v,S',rfl,hb,_,_,hr⟩;refine ⟨v,rfl, ?_⟩;have hv:v= .bool true:=by
  have:Zdg (.d (.s (.bool true)))= .d (.s (.bool true)):=rfl;rw [this] at hr;cases hr with
  |d h=>cases h;rfl
 subst hv;exact BWl9 hl hvars hres htb hread hfn hW hb
theorem BQc9 {W} {b0 n:Nat} {r:Reach} {sp:Nat→Bool} {hd:Bool} {t e} {v} {d:DataW H} {ps:List MemPlace} {ty} (hu:P.underlying t=some (.slice e)) (hf:flat P n t=some [ty])
 (hval:Value.okWide P W r b0 t v) (h:DataW.Trod enc P W 0 sp hd t v d ps):∃x,HasTy ty x∧RV (AllOf W) W [] none (.d x) v:=by
 obtain ⟨fuel,h⟩:=h;obtain ⟨a,len,cap,rfl⟩:=okWide_slice hu hval;obtain ⟨row,hr⟩:=AIs9 n fuel t _ _ _ hf h;cases hr with
 |cons h hr h1 hs=>exact ⟨_,h, .d hr⟩
theorem AYx9 {W} {b0:Nat} {r:Reach} {sp:Nat→Bool} {hd:Bool} {t} {k} {v} {d:DataW H} {ps:List MemPlace} (hu:P.underlying t=some (.int k))
 (hval:Value.okWide P W r b0 t v) (h:DataW.Trod enc P W 0 sp hd t v d ps):∃x,(Lit.int k x).wf=true∧RV (AllOf W) W [] none (.d (.s (.int k x))) v:=by
 obtain ⟨x,rfl,_,_,hw⟩:=open_int hu hval h;exact ⟨x,hw, .d (.s _)⟩
theorem BTa9 {W} {b0 n:Nat} {r:Reach} {sp:Nat→Bool} {hd:Bool} {t} {v} {d:DataW H} {ps:List MemPlace} {tys} (hu:(∃fs,P.underlying t=some (.struct fs))∨∃k e,P.underlying t=some (.array k e)) (hf:flat P n t=some tys)
 (hval:Value.okWide P W r b0 t v) (h:DataW.Trod enc P W 0 sp hd t v d ps):∃row,AHj9 tys row∧RV (AllOf W) W [] none (.agg (row.map .d)) v:=by
 obtain ⟨fuel,h⟩:=h;have:∃cs,v= .agg cs:=by
  unfold Value.okWide at hval;rcases hu with ⟨fs,hu⟩|⟨k,e,hu⟩<;>rw [hu] at hval<;>obtain ⟨cs,h,_⟩:=hval<;>exact ⟨cs,h⟩
 obtain ⟨cs,rfl⟩:=this;obtain ⟨row,hr⟩:=AIs9 n fuel t _ _ _ hf h;refine ⟨row,hr.tys, .agg ?_ fun i c v h1 h2=> ?_⟩
 ·have:=hr.len;simp [Value.cells] at this;simp;omega
 ·simp only [List.getElem?_map,Zap] at h1;obtain ⟨x,h1,rfl⟩:=h1;obtain ⟨v',h3,h4,_⟩:=hr.at i x h1;simp [Value.cells] at h3;rw [h2] at h3;cases h3;exact .d h4
end
end Go.Proofs.YthcbbmnjikhihaaGreat.Am
namespace Go.Proofs.YthcbbmnjikhihaaGreat.Am
open Go Go.RowKit Go.Proofs Go.ChangeShapes Go.WideShapes Go.ChangeAt Tryz
open AV renaming view → Zdg
open _root_.Array renaming getElem?_eq_some_iff → Zao
open Bool renaming and_eq_true → Zal, or_eq_true → Zfg
open Go.IntKind renaming wrap → Zac
open List renaming all_eq_true → Zbk, getElem?_append_left → Zaw, getElem?_eq_some_iff → Zaf, getElem?_take → Zbd, mem_append → Zca, mem_cons → Zbu, mem_iff_getElem? → Zay, mem_map → Zbf, mem_range → Zcs, range → Zbs, replicate → Zam
open MStep renaming refl → Zfb
open Nat renaming eq_of_beq_eq_true → Zdz, le_of_not_lt → Zdn, le_refl → Zat
open Option renaming map_eq_some_iff → Zap
open Go.World renaming putObj_heap_other → Zcr
open AV (bad)
set_option linter.unusedVariables false
section
end
end Go.Proofs.YthcbbmnjikhihaaGreat.Am
namespace Go.Proofs.YthcbbmnjikhihaaGreat.Am
open Go Go.RowKit Tryz
open AV renaming view → Zdg
open _root_.Array renaming getElem?_eq_some_iff → Zao
open Bool renaming and_eq_true → Zal, or_eq_true → Zfg
open Go.IntKind renaming wrap → Zac
open List renaming all_eq_true → Zbk, getElem?_append_left → Zaw, getElem?_eq_some_iff → Zaf, getElem?_take → Zbd, mem_append → Zca, mem_cons → Zbu, mem_iff_getElem? → Zay, mem_map → Zbf, mem_range → Zcs, range → Zbs, replicate → Zam
open MStep renaming refl → Zfb
open Nat renaming eq_of_beq_eq_true → Zdz, le_of_not_lt → Zdn, le_refl → Zat
open Option renaming map_eq_some_iff → Zap
open Go.World renaming putObj_heap_other → Zcr
open AV (bad)
set_option linter.unusedVariables false
set_option linter.unusedSimpArgs false
section
end
inductive LeV:AV→AV→Prop
 |rfl {x:AV}:LeV x x
 |bad {x:AV}:LeV x .bad
 |nil {x:AV} {k:Nat} (h:AAk9 x=true):LeV x (.d (.sl k []))
 |full {k:Nat} {xs:List (List Dv)}:LeV (.full k xs) (.d (.sl k xs))
 |agg {xs ys:List AV} (hl:xs.length=ys.length) (h:∀(i:Nat) (x y:AV),xs[i]? =some x→ys[i]? =some y→LeV x y):LeV (.agg xs) (.agg ys)
 |tup {xs ys:List AV} (hl:xs.length=ys.length) (h:∀(i:Nat) (x y:AV),xs[i]? =some x→ys[i]? =some y→LeV x y):LeV (.tup xs) (.tup ys)
inductive LeVs:List AV→List AV→Prop
 |nil:LeVs [] []
 |cons {x y:AV} {xs ys:List AV} (h:LeV x y) (hs:LeVs xs ys):LeVs (x::xs) (y::ys)
theorem LeVs.len {xs ys:List AV} (h:LeVs xs ys):xs.length=ys.length:=by
 induction h with
 |nil=>rfl
 |cons _ _ ih=>simp [ih]
theorem LeVs.at {xs ys} (h:LeVs xs ys):∀(i:Nat) (x y:AV),xs[i]? =some x→ys[i]? =some y→LeV x y:=by
 induction h with
 |nil=>intro i x y h;simp at h
 | cons h _ ih=>
  intro i x y h1 h2;cases i with
  |zero=>simp at h1 h2;subst h1;subst h2;exact h
  |succ i=>exact ih i x y (by simpa using h1) (by simpa using h2)
theorem LeVs.refl:∀xs:List AV,LeVs xs xs
 | []=> .nil
 |_::xs=> .cons .rfl (LeVs.refl xs)
theorem LeV.aggs {xs ys} (h:LeVs xs ys):LeV (.agg xs) (.agg ys):= .agg h.len h.at
theorem LeV.tups {xs ys} (h:LeVs xs ys):LeV (.tup xs) (.tup ys):= .tup h.len h.at
theorem LeV.rv {S} {w} {m} {yv} {x y} (h:LeV x y):∀ {v},RV S w m yv x v→RV S w m yv y v:=by
 induction h with
 |rfl=>exact fun h=>h
 |bad=>exact fun _=> .bad
 |nil h=>exact fun hr=>(LeA.nilSl h).rv hr
 |full=>exact fun hr=>(LeX.full _ _).rv hr
 | agg hl h ih=>
  intro v hr;cases hr with
  | agg hl' hr=>
   refine .agg (hl.symm.trans hl') fun i c v h1 h2=> ?_;have hi:=(Zaf.1 h1).1;exact ih i _ c (List.getElem?_eq_getElem (by omega)) h1 (hr i _ v (List.getElem?_eq_getElem (by omega)) h2)
 | tup hl h ih=>
  intro v hr;cases hr with
  | tup hl' hr=>
   refine .tup (hl.symm.trans hl') fun i c v h1 h2=> ?_;have hi:=(Zaf.1 h1).1;exact ih i _ c (List.getElem?_eq_getElem (by omega)) h1 (hr i _ v (List.getElem?_eq_getElem (by omega)) h2)
section
variable {P:Program}
theorem PCall.leArgsV {f} {args args':List AV} {x} (h:LeVs args args') (hp:PCall P f args' x):PCall P f args x:=by
 refine ⟨hp.1,fun S w vs hl hvs hlt hgl=>hp.2 S w vs (h.len▸hl) (fun i y v h1 h2=> ?_) hlt hgl⟩;have hi:=(Zaf.1 h1).1;have hi':i<args.length:=h.len▸hi;exact (h.at i _ y (List.getElem?_eq_getElem hi') h1).rv (hvs i _ v (List.getElem?_eq_getElem hi') h2)
theorem PCall.ofWV {f} {fn} {c} {args} {x} (hf:P.funcs[f]? =some fn) (hb:fn.body=some c) (hn:(fn.name== "runtime.NumGoroutine")=false) (hargs:args.map Zdg=args)
 (hW:∀(Ev:Env P) (b:Ev.β),W Ev c ⟨ACf9 fn args, [],b⟩ (ANe9 P fn fun y hp _=>∃z,SealD hp y z∧LeV z x)):PCall P f args x:=by
 refine ⟨AGu9 hf hb hn,fun S w vs hl hvs hlt hgl=> ?_⟩;have hrel:Rel S (fun b _=>b<w.heap.size) none w [] (args.zip vs++([]++AAa9 [] [])) [] []:=by
  have h0:Rel S (fun b _=>b<w.heap.size) none w [] [] [] []:=⟨fun b i h=>h.elim (hlt b i) id,by simp,List.Pairwise.nil,by simp,by simp,by simp,rfl,rfl,by simp,hgl⟩;have:=h0.pushAll (args.zip vs) (fun p hp=>by
   obtain ⟨j,hj⟩:=Zay.1 hp;rw [List.getElem?_zip_eq_some] at hj;refine ⟨hvs j p.1 p.2 hj.1 hj.2, ?_⟩;have hp1:p.1.view=p.1:=by
    have h1:(args.map Zdg)[j]? =some p.1.view:=by simp [hj.1]
    rw [hargs,hj.1] at h1;exact (Option.some.inj h1).symm
   obtain ⟨p1,p2⟩:=p;simp only at hp1;rw [←hp1];exact AAt9 _ _)
  simpa [AAa9] using this
 refine ADn9 (Ev:=Env.none P none) (V:=fun _ _=>False) (b:=(():Unit)) hf hb hl (hW (Env.none P _) (():Unit)) hrel (fun _ _ h=>h.elim) trivial (Nat.zero_le _) ?_;intro y S' X' V' w' m' hv' hp' v b' hyz htr0 hxs hm hr _ hyv;obtain ⟨z,hy,hz⟩:=hyz;have htr:Tr (fun b i=>¬b<w.heap.size) (fun _=>False) S w S' w':=htr0.mono (fun b i h=>h.resolve_right id) (fun _ h=>h);refine ⟨v,AAz9 S' m',rfl,AFc9 htr (fun b i hb hz=>hz hb) (fun _ h=>h),fun b i hs=> .inl (htr.up b i hs),fun b i hs=> ?_,(hz.rv (ADc9 (B:= []) (T:=AAz9 S' m') (by simpa using hr) (fun _ _ h=> .inl h) hy (fun g _ p hp i hi=> .inr ⟨g,p,hp,rfl,hi⟩) hyv)).view⟩;rcases hs with hs|⟨g,p,hg,rfl,hi⟩
 ·rcases htr.new b i hs with h1|h1|h1
  ·exact .inl h1
  ·exact .inr ⟨Zdn h1,htr.lt b i hs⟩
  ·exact .inr ⟨h1,htr.lt b i hs⟩
 ·have hr':Rel S' X' none w' m' (([]:List (AV×Value))++AAa9 hp' hv') hp' hv':=hr;obtain ⟨blk,us,cur,e,g1,g2,g3,g4,g5,g6,g7,g8,g9,g10,g11,g12⟩:=hr'.block hg;have hlt':p.b<w'.heap.size:=(Zao.1 g8).1;cases hfr:blk.fro with
  | true=>
   have hs:=g12 hfr i hi;rcases htr.new _ _ hs with h1|h1|h1
   ·exact .inl h1
   ·exact .inr ⟨Zdn h1,hlt'⟩
   ·exact .inr ⟨h1,hlt'⟩
  | false=>
   refine .inr ⟨Zdn fun hb=> ?_,hlt'⟩;exact (g11 hfr i).2 (hxs _ _ hb)
theorem PCall.ofFnV {f n} {fn} {args} {x} {T} {U} {u:Bool} (wl:∀β:Type,WLT β) (hm:P.follows .mixedOrders=true)
 (hT:AAb9 P T) (hS:AAl9 P U) (hwl:∀(Ev:Env P) c tm hp b K,wl Ev.β c tm hp b K→W Ev c ⟨tm,hp,b⟩ (fun e s=>K e s.tm s.hp s.b)) (hf:P.funcs[f]? =some fn) (hn:(fn.name== "runtime.NumGoroutine")=false) (hargs:args.map Zdg=args)
 (h:∀(Ev:Env P) (b:Ev.β),wpFn P ⟨T,U,wl Ev.β,Ev.Y,u⟩ n fn args b (fun y _=>LeV y x)):PCall P f args x:=by
 cases hb:fn.body with
 | some c=>
  refine PCall.ofWV hf hb hn hargs fun Ev b=> ?_;have h1:=h Ev b;unfold wpFn at h1;rw [hb] at h1;refine AAy9 hm (CX.Ok.ofWl hT hS (hwl Ev)) h1 fun e tm hp b hK=> ?_;obtain ⟨g1,ys,g2,z,g3,g4⟩:=AFw9 hK;exact ⟨g1,ys,g2,z,g3,g4⟩
 | none=>
  have:=h (Env.none P none) ();unfold wpFn at this;rw [hb] at this;exact this.elim
end
section
end
end Go.Proofs.YthcbbmnjikhihaaGreat.Am
namespace Go.Proofs.YthcbbmnjikhihaaGreat.Am
open Go Go.RowKit Go.Proofs Tryz
open AV renaming view → Zdg
open _root_.Array renaming getElem?_eq_some_iff → Zao
open Bool renaming and_eq_true → Zal, or_eq_true → Zfg
open Go.IntKind renaming wrap → Zac
open List renaming all_eq_true → Zbk, getElem?_append_left → Zaw, getElem?_eq_some_iff → Zaf, getElem?_take → Zbd, mem_append → Zca, mem_cons → Zbu, mem_iff_getElem? → Zay, mem_map → Zbf, mem_range → Zcs, range → Zbs, replicate → Zam
open MStep renaming refl → Zfb
open Nat renaming eq_of_beq_eq_true → Zdz, le_of_not_lt → Zdn, le_refl → Zat
open Option renaming map_eq_some_iff → Zap
open Go.World renaming putObj_heap_other → Zcr
open AV (bad)
set_option linter.unusedVariables false
def BKj9 (b:List Int):List (List Dv):=b.map fun x=> [u8 x]
theorem AAw9 {x} (h0: -9223372036854775808≤x) (h1:x<9223372036854775808):Zac .i64 x=x:=by
 simp only [Zac];simp [IntKind.signed,IntKind.bits];omega
theorem LeL.at {x y} (pre post) (h:LeA x y):LeL (pre++x::post) (pre++y::post):=by
 induction pre with
 |nil=>exact .cons h (LeL.refl _)
 |cons a pre ih=>exact .cons .rfl ih
end Go.Proofs.YthcbbmnjikhihaaGreat.Am
namespace Go.Proofs.YthcbbmnjikhihaaGreat.Am
open Go Go.RowKit Tryz
open AV renaming view → Zdg
open _root_.Array renaming getElem?_eq_some_iff → Zao
open Bool renaming and_eq_true → Zal, or_eq_true → Zfg
open Go.IntKind renaming wrap → Zac
open List renaming all_eq_true → Zbk, getElem?_append_left → Zaw, getElem?_eq_some_iff → Zaf, getElem?_take → Zbd, mem_append → Zca, mem_cons → Zbu, mem_iff_getElem? → Zay, mem_map → Zbf, mem_range → Zcs, range → Zbs, replicate → Zam
open MStep renaming refl → Zfb
open Nat renaming eq_of_beq_eq_true → Zdz, le_of_not_lt → Zdn, le_refl → Zat
open Option renaming map_eq_some_iff → Zap
open Go.World renaming putObj_heap_other → Zcr
open AV (bad)
set_option linter.unusedVariables false
inductive LeF:AV→AV→Prop
 |v {x y:AV} (h:LeV x y):LeF x y
 |nilFull {x:AV} {k:Nat} (h:AAk9 x=true):LeF x (.full k [])
theorem LeF.rfl {x}:LeF x x:= .v .rfl
section
variable {P:Program} {S S' T V:Pr} {yv:Option Nat} {w w':World} {m m':List MB} {hp hp' hp1:List Blk} {hv':List (List Value)}
theorem LeF.rv {x y:AV} {v} (h:LeF x y) (hr:RV S w m yv x v):RV S w m yv y v:=by
 cases h with
 |v h=>exact h.rv hr
 | nilFull h=>
  have:=AAu9 h hr;subst this;exact RV.full (xs:= []) (.nil _)
theorem FCall.ofWF {f} {fn} {c} {args} {x} (hf:P.funcs[f]? =some fn) (hb:fn.body=some c) (hn:(fn.name== "runtime.NumGoroutine")=false) (hargs:args.map Zdg=args) (hfro:hp1.all (fun b=> !b.fro)=true)
 (hW:∀(Ev:Env P) (b:Ev.β),W Ev c ⟨ACf9 fn args, [],b⟩ (ANe9 P fn fun y hp _=>LeF y x∧hp=hp1)):FCall P f args x hp1:=by
 refine ⟨AGu9 hf hb hn,fun S w vs hl hvs hlt hgl=> ?_⟩;have hrel:Rel S (fun b _=>b<w.heap.size) none w [] (args.zip vs++([]++AAa9 [] [])) [] []:=by
  have h0:Rel S (fun b _=>b<w.heap.size) none w [] [] [] []:=⟨fun b i h=>h.elim (hlt b i) id,by simp,List.Pairwise.nil,by simp,by simp,by simp,rfl,rfl,by simp,hgl⟩;have:=h0.pushAll (args.zip vs) (fun p hp=>by
   obtain ⟨j,hj⟩:=Zay.1 hp;rw [List.getElem?_zip_eq_some] at hj;refine ⟨hvs j p.1 p.2 hj.1 hj.2, ?_⟩;have hp1:p.1.view=p.1:=by
    have h1:(args.map Zdg)[j]? =some p.1.view:=by simp [hj.1]
    rw [hargs,hj.1] at h1;exact (Option.some.inj h1).symm
   obtain ⟨p1,p2⟩:=p;simp only at hp1;rw [←hp1];exact AAt9 _ _)
  simpa [AAa9] using this
 refine ADn9 (Ev:=Env.none P none) (V:=fun _ _=>False) (b:=(():Unit)) hf hb hl (hW (Env.none P _) (():Unit)) hrel (fun _ _ h=>h.elim) trivial (Nat.zero_le _) ?_;intro y S' X' V' w' m' hv' hp' v b' hy htr0 hxs hm hr _ hyv;obtain ⟨hle,rfl⟩:=hy;have htr:Tr (fun b i=>¬b<w.heap.size) (fun _=>False) S w S' w':=htr0.mono (fun b i h=>h.resolve_right id) (fun _ h=>h);have hr':Rel S' X' none w' m' (AAa9 hp' hv') hp' hv':=by
  have h0:=hr;simp only [List.nil_append] at h0;exact h0
 refine ⟨v,S',m',hv',rfl,AFc9 htr (fun b i hb hz=>hz hb) (fun _ h=>h),htr.up,fun b i hs=> ?_,fun p hp=> ?_,(hr'.lessX hxs).cons (hle.rv hyv).view (AAt9 _ _)⟩
 ·rcases htr.new b i hs with h1|h1|h1
  ·exact .inl h1
  ·exact .inr ⟨Zdn h1,htr.lt b i hs⟩
  ·exact .inr ⟨h1,htr.lt b i hs⟩
 ·obtain ⟨g,hg⟩:=Zay.1 hp;have hr2:Rel S' X' none w' m' (([]:List (AV×Value))++AAa9 hp' hv') hp' hv':=hr';obtain ⟨blk,us,cur,e,g1,g2,g3,g4,g5,g6,g7,g8,g9,g10,g11,g12⟩:=hr2.block hg;have hfr:blk.fro=false:=by
   have:=Zbk.1 hfro blk (List.mem_of_getElem? g1);simpa using this
  exact Zdn fun hb=>(g11 hfr 0).2 (hxs _ _ hb)
theorem FCall.ofFnF {f n} {fn} {args} {x} {hp1} {T} {U:List (Nat×(List AV→List Blk→(AV→List Blk→Prop)→Prop))} {u:Bool} (wl:∀β:Type,WLT β) (hm:P.follows .mixedOrders=true)
 (hT:AAb9 P T) (hS:AAl9 P U) (hwl:∀Ev:Env P,∀c tm hp b K,wl Ev.β c tm hp b K→W Ev c ⟨tm,hp,b⟩ (fun e s=>K e s.tm s.hp s.b)) (hf:P.funcs[f]? =some fn) (hn:(fn.name== "runtime.NumGoroutine")=false) (hargs:args.map Zdg=args) (hfro:hp1.all (fun b=> !b.fro)=true)
 (h:∀(Ev:Env P) (b:Ev.β),wpFnS P ⟨T,U,wl Ev.β,Ev.Y,u⟩ n fn args b fun y hp _=>LeF y x∧hp=hp1):FCall P f args x hp1:=by
 cases hb:fn.body with
 | none=>
  have:=h (Env.none P none) (():Unit);simp only [wpFnS,hb] at this
 | some c=>
  refine FCall.ofWF hf hb hn hargs hfro fun Ev b=> ?_;have h1:=h Ev b;simp only [wpFnS,hb] at h1;exact AAy9 hm (CX.Ok.ofWl hT hS (hwl Ev)) h1 fun e tm hp b hK=>AFa9 hK
theorem AAl9.cons {P} {k} {f} {T} (h:∀args hp K,f args hp K→∃x hp',SCall P k args hp x hp'∧K x hp') (hT:AAl9 P T):AAl9 P ((k,f)::T):=by
 intro j g hj;simp only [List.lookup] at hj;split at hj
 ·rename_i he;have:j=k:=by simpa using he
  subst this;cases hj;exact h
 ·exact hT j g hj
end
def blkG (cs:List AV) (v:Nat):Blk:=⟨cs,false,true,v⟩
def ATo9 (P:Program) (f k:Nat):Prop:=∀xs:List (List Dv),xs.length≤1000000→FCall P f [.d (.sl k xs)] (if xs.isEmpty then .full k [] else .gref 0 0 xs.length k) (if xs.isEmpty then [] else [blkG (flatA xs) 0])
theorem LeH.at {p q} {f g} {v} (pre post) (h:LeL p q):LeH (pre++⟨p,f,g,v⟩::post) (pre++⟨q,f,g,v⟩::post):=by
 induction pre with
 |nil=>exact .cons h (LeH.refl _)
 |cons a pre ih=>obtain ⟨c,x,y,z⟩:=a;exact .cons (LeL.refl _) ih
def plain1:AV→Bool
 | .d (.s _)=>true
 |_=>false
def AZw9:AV→Bool
 | .d (.s _)=>true
 | .tup cs=>cs.all plain1
 |_=>false
section
variable {P:Program} {S S' X:Pr} {yv yv':Option Nat} {w w':World} {m m':List MB} {B:List (AV×Value)} {hp:List Blk} {hv:List (List Value)}
theorem RV.plain1 {x} {v} (hx:plain1 x=true) (h:RV S w m yv x v):RV S' w' m' yv' x v:=by
 cases h with
 | d h=>cases h with
  |s v=>exact .d (.s v)
  |sl=>cases hx
  |nil=>cases hx
  |pt=>cases hx
  |fn=>cases hx
 |_=>cases hx
theorem RV.plain {x} {v} (hx:AZw9 x=true) (h:RV S w m yv x v):RV S' w' m' yv' x v:=by
 cases h with
 | d h=>cases h with
  |s v=>exact .d (.s v)
  |sl=>cases hx
  |nil=>cases hx
  |pt=>cases hx
  |fn=>cases hx
 | tup hl h=>
  rename_i cs vs;simp only [AZw9,Zbk] at hx;exact .tup hl fun i c v h1 h2=>(h i c v h1 h2).plain1 (hx c (List.mem_of_getElem? h1))
 |_=>cases hx
theorem BFi9 {x} {v} (hx:AZw9 x=true):ownB (x,v)=none:=by
 cases x<;>first|rfl|cases hx
theorem BDw9 {x} (hx:AZw9 x=true):x.view=x:=by
 cases x<;>first|rfl|cases hx
theorem PCall.borrow {f} {args args'} {r:AV} (h:PCall P f args' r) (hr:AZw9 r=true) (hl':args.length=args'.length)
 (hs:∀(i:Nat) (c y:AV),args[i]? =some c→args'[i]? =some y→SealD hp c y):SCall P f args hp r hp:=by
 refine ⟨h.1,fun S X yv w m B hv vs hl hrel=> ?_⟩;have hr0:Rel S X yv w m (B++AAa9 hp hv) hp hv:=hrel.sub (List.sublist_append_right _ _);have hargs:∀(i:Nat) (x:AV) (v:Value),args'[i]? =some x→vs[i]? =some v→RV (AAz9 S m) w [] none x v:=by
  intro i x v h1 h2;have hi:i<args.length:=by rw [hl'];exact (Zaf.1 h1).1
  have h3:args[i]? =some args[i]:=by simp [hi]
  have hm:(args[i],v)∈args.zip vs:=Zay.2 ⟨i,by rw [List.getElem?_zip_eq_some];exact ⟨h3,h2⟩⟩;exact ADc9 (B:=B) hr0 (fun _ _ h=> .inl h) (hs i _ _ h3 h1) (fun g _ p hp i hi=> .inr ⟨g,p,hp,rfl,hi⟩) (hrel.rv _ (List.mem_append_left _ hm))
 have hlt:∀b i,AAz9 S m b i→b<w.heap.size:=by
  rintro b i (hb|⟨g,p,hg,rfl,hi⟩)
  ·exact hrel.lt b i (.inl hb)
  ·exact hrel.mLt p (List.mem_of_getElem? hg)
 have hgl:Glob (AAz9 S m) w:=fun g j v hv=>by
  obtain ⟨h1,h2,h3⟩:=hrel.gl g j v hv;exact ⟨.inl h1,h2,h3⟩
 refine CallsIn.mono (h.2 (AAz9 S m) w vs (by rw [←hl',hl]) hargs hlt hgl) ?_;rintro e w' ⟨v,S',rfl,hb,h1,h2,h3⟩;refine ⟨v,S,m,hv,rfl,Gs.below hrel hb ⟨fun _ _ h=>h,fun _ _ h=> .inl h⟩, ?_⟩;rw [BDw9 hr] at h3 ⊢;exact (hr0.below hb (fun _ _ h=>h) (fun _ _ h=> .inl h)).cons (h3.plain hr) (BFi9 hr)
end
def lendC (c:List AV→(AV→Prop)→Prop) (args:List AV) (hp:List Blk) (K:AV→List Blk→Prop):Prop:=
 AGh9 hp 200 args fun args'=>c args' fun x=>BIf (AZw9 x) (K x hp) False
theorem AFr9 {P:Program} {f:Nat} {c:List AV→(AV→Prop)→Prop} (hc:∀args K,c args K→∃x,PCall P f args x∧K x):
 ∀args hp K,lendC c args hp K→∃x hp',SCall P f args hp x hp'∧K x hp':=by
 intro args hp K h;obtain ⟨ys,hl,hs,h1⟩:=ABu9 h;obtain ⟨x,hx,h2⟩:=hc _ _ h1;obtain ⟨hpl,hK⟩:=h2.elim';exact ⟨x,hp,hx.borrow hpl hl hs,hK⟩
def SemV (x y:AV):Prop:=∀S w m yv v,RV S w m yv x v→RV S w m yv y v
theorem SemV.rfl {x}:SemV x x:=fun _ _ _ _ _ h=>h
theorem SemV.ofLeV {x y} (h:LeV x y):SemV x y:=fun _ _ _ _ _ hr=>h.rv hr
inductive SemVs:List AV→List AV→Prop
 |nil:SemVs [] []
 |cons {x y:AV} {xs ys:List AV} (h:SemV x y) (hs:SemVs xs ys):SemVs (x::xs) (y::ys)
theorem SemVs.len {xs ys} (h:SemVs xs ys):xs.length=ys.length:=by
 induction h with
 |nil=>rfl
 |cons _ _ ih=>simp [ih]
theorem SemVs.at {xs ys} (h:SemVs xs ys):∀(i:Nat) (x y:AV),xs[i]? =some x→ys[i]? =some y→SemV x y:=by
 induction h with
 |nil=>intro i x y h;simp at h
 | cons h _ ih=>
  intro i x y h1 h2;cases i with
  |zero=>simp at h1 h2;subst h1;subst h2;exact h
  |succ i=>exact ih i x y (by simpa using h1) (by simpa using h2)
theorem PCall.semArgs {P} {f:Nat} {args args':List AV} {x:AV} (h:SemVs args args') (hp:PCall P f args' x):PCall P f args x:=by
 refine ⟨hp.1,fun S w vs hl hvs hlt hgl=>hp.2 S w vs (h.len▸hl) (fun i y v h1 h2=> ?_) hlt hgl⟩;have hi:=(Zaf.1 h1).1;have hi':i<args.length:=h.len▸hi;exact h.at i _ y (List.getElem?_eq_getElem hi') h1 _ _ _ _ _ (hvs i _ v (List.getElem?_eq_getElem hi') h2)
def semC (c:List AV→(AV→Prop)→Prop) (args:List AV) (K:AV→Prop):Prop:=∃args':List AV,SemVs args args'∧c args' K
theorem CCs9 {P} {f:Nat} {c:List AV→(AV→Prop)→Prop} (hc:∀args K,c args K→∃x,PCall P f args x∧K x):∀args K,semC c args K→∃x,PCall P f args x∧K x:=by
 rintro args K ⟨args',hl,h⟩;obtain ⟨x,hx,h2⟩:=hc _ _ h;exact ⟨x,hx.semArgs hl,h2⟩
inductive ATp9:Dv→Dv→Prop
 |rfl {c:Dv}:ATp9 c c
 |nil {k:Nat}:ATp9 (.s (.slice none 0 0)) (.sl k [])
inductive AHo9:List Dv→List Dv→Prop
 |nil:AHo9 [] []
 |cons {x y:Dv} {xs ys:List Dv} (h:ATp9 x y) (hs:AHo9 xs ys):AHo9 (x::xs) (y::ys)
inductive AKs9:List (List Dv)→List (List Dv)→Prop
 |nil:AKs9 [] []
 |cons {x y:List Dv} {xs ys:List (List Dv)} (h:AHo9 x y) (hs:AKs9 xs ys):AKs9 (x::xs) (y::ys)
theorem ATp9.dr {S} {w} {c d:Dv} {v} (h:ATp9 c d) (hr:DR S w c v):DR S w d v:=by
 cases h with
 |rfl=>exact hr
 | nil=>cases hr with
  |s=>exact .nil _
theorem AHo9.len {xs ys} (h:AHo9 xs ys):xs.length=ys.length:=by
 induction h with
 |nil=>rfl
 |cons _ _ ih=>simp [ih]
theorem AHo9.at {xs ys} (h:AHo9 xs ys):∀(i:Nat) (y:Dv),ys[i]? =some y→∃x,xs[i]? =some x∧ATp9 x y:=by
 induction h with
 |nil=>intro i y h;simp at h
 | cons h _ ih=>
  intro i y h1;cases i with
  |zero=>simp at h1;subst h1;exact ⟨_,by simp,h⟩
  |succ i=>simpa using ih i y (by simpa using h1)
theorem AKs9.len {xs ys} (h:AKs9 xs ys):xs.length=ys.length:=by
 induction h with
 |nil=>rfl
 |cons _ _ ih=>simp [ih]
theorem AKs9.at {xs ys} (h:AKs9 xs ys):∀(i:Nat) (y:List Dv),ys[i]? =some y→∃x,xs[i]? =some x∧AHo9 x y:=by
 induction h with
 |nil=>intro i y h;simp at h
 | cons h _ ih=>
  intro i y h1;cases i with
  |zero=>simp at h1;subst h1;exact ⟨_,by simp,h⟩
  |succ i=>simpa using ih i y (by simpa using h1)
theorem AKs9.dr {S} {w} {k} {xs ys:List (List Dv)} {v} (h:AKs9 xs ys) (hr:DR S w (.sl k xs) v):DR S w (.sl k ys) v:=by
 have hlen:=h.len;have two:∀(i:Nat) (row:List Dv) (j:Nat) (c:Dv),ys[i]? =some row→row[j]? =some c→∃row' c',xs[i]? =some row'∧row'[j]? =some c'∧ATp9 c' c:=by
  intro i row j c h1 h2;obtain ⟨row',g1,g2⟩:=h.at i row h1;obtain ⟨c',g3,g4⟩:=g2.at j c h2;exact ⟨row',c',g1,g3,g4⟩
 cases hr with
 | sl _ _ a cap vals hk hs hc hr h1 hcap hsp=>
  rw [hlen];refine .sl k ys a cap vals (fun i row g=> ?_) (fun i row j c g g'=> ?_) (fun i row j c g g'=> ?_) (fun i row j c g g'=> ?_) (fun i row j c g g'=> ?_) (hlen▸hcap) ?_
  ·obtain ⟨row',g1,g2⟩:=h.at i row g;rw [←g2.len];exact hk i row' g1
  ·obtain ⟨r',c',g1,g2,g3⟩:=two i row j c g g';exact hs i r' j c' g1 g2
  ·obtain ⟨r',c',g1,g2,g3⟩:=two i row j c g g';exact hc i r' j c' g1 g2
  ·obtain ⟨r',c',g1,g2,g3⟩:=two i row j c g g';exact g3.dr (hr i r' j c' g1 g2)
  ·obtain ⟨r',c',g1,g2,g3⟩:=two i row j c g g';exact h1 i r' j c' g1 g2
  ·rcases hsp with h'|h'|h'
   ·exact .inl h'
   ·exact .inr (.inl h')
   ·subst h';exact .inr (.inr (List.length_eq_zero_iff.1 (by rw [←hlen];rfl)))
 | nil=>
  have:ys= []:=List.length_eq_zero_iff.1 (by rw [←hlen];rfl);subst this;exact .nil k
theorem SemV.rows {k} {xs ys} (h:AKs9 xs ys):SemV (.full k xs) (.d (.sl k ys)):=by
 intro S w m yv v hr;cases hr with
 |full hd=>exact .d (h.dr hd)
open Go.Maps (Keyed)
open Go.WideElems (Fit rd rg pl)
open Go.ChangeMaps (setBlock)
abbrev MC:=List (Lit×AV)
structure MapC where
 b:Nat
 k:TypeId
 es:MC
def heldR (v:Value):Option (DataW Value×List MemPlace):=some (.held v, [])
inductive Ents (S:Pr) (w:World):MC→List (Lit×DataW Value)→Prop
 |nil:Ents S w [] []
 |cons {k:Lit} {x:AV} {v:Value} {es:MC} {L:List (Lit×DataW Value)} (h:RV S w [] none x v) (hc:x.closed=true) (hr:Ents S w es L):Ents S w ((k,x)::es) ((k, .held v)::L)
def insK (x:Lit×AV):MC→MC
 | []=> [x]
 |y::r=>if x.1.before y.1 then x::y::r else y::insK x r
def delK (k:Lit) (es:MC):MC:=es.filter fun p=> !p.1.sameKey k
def putK (k:Lit) (x:AV) (es:MC):MC:=insK (k,x) (delK k es)
def atK (k:Lit) (z:AV) (es:MC):AV:=match es.find? fun p=>p.1.sameKey k with|some p=>p.2|none=>z
def hasK (k:Lit) (es:MC):Bool:=es.any fun p=>p.1.sameKey k
section
variable {P:Program} {S S':Pr} {w w' w0:World} {es:MC} {L:List (Lit×DataW Value)}
theorem Ents.length (h:Ents S w es L):L.length=es.length:=by
 induction h with
 |nil=>rfl
 |cons _ _ _ ih=>simp [ih]
theorem Ents.mono (h:Ents S w es L) (hv:∀x v,RV S w [] none x v→RV S' w' [] none x v):Ents S' w' es L:=by
 induction h with
 |nil=>exact .nil
 |cons h hc _ ih=>exact .cons (hv _ _ h) hc ih
theorem Ents.ins (h:Ents S w es L) {k} {x} {v} (hx:RV S w [] none x v) (hc:x.closed=true):Ents S w (insK (k,x) es) (DataW.insert (k, .held v) L):=by
 induction h with
 |nil=>exact .cons hx hc .nil
 | cons h hc' hr ih=>
  simp only [insK,DataW.insert];split
  ·exact .cons hx hc (.cons h hc' hr)
  ·exact .cons h hc' ih
theorem Ents.del (h:Ents S w es L) (k):Ents S w (delK k es) (L.filter fun p=> !p.1.sameKey k):=by
 induction h with
 |nil=>exact .nil
 | cons h hc hr ih=>
  simp only [delK,List.filter_cons] at ih ⊢;split
  ·exact .cons h hc ih
  ·exact ih
theorem Ents.at (h:Ents S w es L) (k) {z} {zv} (hz:RV S w [] none z zv):∃v,(DataW.map L).atKey k (.held zv)= .held v∧RV S w [] none (atK k z es) v:=by
 induction h with
 |nil=>exact ⟨zv,rfl,hz⟩
 | @cons k' x v es L h hc hr ih=>
  simp only [DataW.atKey,atK,List.find?_cons] at ih ⊢;cases k'.sameKey k
  ·exact ih
  ·exact ⟨v,rfl,h⟩
theorem Ents.has (h:Ents S w es L) (k):Maps.has (DataW.map L) k=hasK k es:=by
 induction h with
 |nil=>rfl
 |cons h hc hr ih=>simp only [Maps.has,hasK,List.any_cons] at ih ⊢;rw [ih]
def MapIs (P:Program) (S:Pr) (w:World) (c:MapC):Prop:=∃L,w.ownsMap P c.k heldR c.b c.es.length (DataW.map L)∧Ents S w c.es L
theorem MapIs.obj {c} (h:MapIs P S w c):∃es cl,w.heap[c.b]? =some (Obj.map es cl):=by
 obtain ⟨L,⟨es,cl,h1,_⟩,_⟩:=h;exact ⟨es,cl,h1⟩
theorem MapIs.lt {c} (h:MapIs P S w c):c.b<w.heap.size:=by
 obtain ⟨es,cl,h1⟩:=h.obj;exact (Zao.1 h1).1
theorem MapIs.mono {c} (h:MapIs P S w c) (ho:∀es cl,w.heap[c.b]? =some (Obj.map es cl)→w'.heap[c.b]? =some (Obj.map es cl)) (hv:∀x v,RV S w [] none x v→RV S' w' [] none x v):MapIs P S' w' c:=by
 obtain ⟨L,⟨es,cl,h1,h2,h3,h4⟩,h5⟩:=h;exact ⟨L,⟨es,cl,ho _ _ h1,h2,h3,h4⟩,h5.mono hv⟩
theorem ARq9 {k} {b n} (h:w.ownsMap P k heldR b n (DataW.map L)):w.ownsMap P k heldR b L.length (DataW.map L):=by
 obtain ⟨es,cl,h1,h2,h3,h4⟩:=h;cases h4;exact ⟨es,cl,h1,h2,by rw [Go.length_sorted];simp,rfl⟩
structure MapsE (P:Program) (N:Nat) (w0:World) (lent:List Nat) (β:List MapC) (S:Pr) (w:World):Prop where
 is:∀c∈β,MapIs P S w c
 nd:(β.map MapC.b).Nodup
 mine:∀c∈β,N≤c.b∨c.b∈lent
 kept:∀b o,b<N→b∉lent→ANj9 o=true→w0.heap[b]? =some o→w.heap[b]? =some o
 lt:∀b i,S b i→b<w.heap.size
theorem MapsE.tr {N} {lent} {β} {Z} (h:MapsE P N w0 lent β S w) (ht:Tr Z (fun _=>False) S w S' w'):MapsE P N w0 lent β S' w':=by
 have ho:∀b o,ANj9 o=true→w.heap[b]? =some o→w'.heap[b]? =some o:=fun b o hm h1=>(ht.objs b _ h1 (AMe9 hm)).resolve_right fun h=>h.elim (fun h=>h.1) fun h=>h.1;exact ⟨fun c hc=>(h.is c hc).mono (fun es cl h=>ho c.b _ rfl h) fun x v hx=>hx.tr ht,h.nd,h.mine,fun b o h1 h2 hm h3=>ho b o hm (h.kept b o h1 h2 hm h3),ht.lt⟩
theorem RV.putObj {x} {v} {d} {o o'} (h:RV S w [] none x v) (hd:w.heap[d]? =some o) (ho:o.isCells=false) (hS:∀b i,S b i→b<w.heap.size):RV S (w.putObj d o') [] none x v:=
 h.tr0 (Z:=fun _ _=>False) (AIc9 hd ho hS)
theorem MapsE.putObj {N} {lent} {β} (h:MapsE P N w0 lent β S w) {d} {o} (o') (hd:w.heap[d]? =some o) (ho:o.isCells=false) (hm:ANj9 o=false):MapsE P N w0 lent β S (w.putObj d o'):=by
 have hk:∀b o1,ANj9 o1=true→w.heap[b]? =some o1→(w.putObj d o').heap[b]? =some o1:=fun b o1 hm1 h1=>by
  have hne:b≠d:=by rintro rfl;rw [hd] at h1;cases h1;rw [hm] at hm1;cases hm1
  rw [Zcr hne];exact h1
 exact ⟨fun c hc=>(h.is c hc).mono (fun es cl h=>hk c.b _ rfl h) fun x v hx=>hx.putObj hd ho h.lt,h.nd,h.mine,fun b o1 h1 h2 hm1 h3=>hk b o1 hm1 (h.kept b o1 h1 h2 hm1 h3),fun b i h1=>by simpa using h.lt b i h1⟩
def Env.mapped (P:Program) (yl:Option Nat) (N:Nat) (w0:World) (lent:List Nat) {γ:Type} (f:γ→List MapC):Env P:=
 { β:=γ,N:=N,yl:=yl,L:=fun x=>x=0,E:=fun g S _ w=>MapsE P N w0 lent (f g) S w,Y:=fun _ _ _=>False,Llt:=fun h=>by omega,Ymono:=fun h _=>h,
   stable:=fun h ht=>h.tr ht,stableO:=fun o' h _ hd ho hm=>h.putObj o' hd ho hm,yok:=fun h=>h.elim}
end
section
variable {P:Program} {S X V:Pr} {w w' w0:World} {Ev:Env P} {lo:Nat} {r:Option Nat} {m:List MB} {B:List (AV×Value)} {hv:List (List Value)} {s:RS} {a:Act} {yl:Option Nat} {N:Nat} {lent:List Nat} {γ:Type} {f:γ→List MapC} {o:Oper}
theorem Tie.putQ {b} (h:Tie Ev lo r S X V w m B hv s b a) (d) {x:AV} {v:Value} (hx:RV S w [] none x v):Tie Ev lo r S X V w m B hv {tm:=putA s.tm d x.view,hp:=s.hp,pv:=pvPut s.pv d} b (a.put d v):=
 ⟨⟨by rw [AAx9,ADe9];exact h.rel.1,(h.rel.2.1.cons hx.opened.view (AAt9 _ _)).putTmp h.rel.1 d,ACn9 h.rel.2.2 d v⟩,h.sub,h.env,h.round,by rw [ACl9];exact h.marks,h.base⟩
theorem BMh9 (hS:∀b i,S b i→b<w.heap.size) {d} {es es'} {cl cl'} (hd:w.heap[d]? =some (Obj.map es cl)):Tr X (fun x=>x=0) S w S (w.putObj d (.map es' cl')):=by
 have h:=AIc9 (Z:=X) (o':= .map es' cl') hd rfl hS;refine ⟨rfl,rfl,rfl,h.size,h.cells,fun b o hb ho=> ?_,h.same,h.up,h.new,h.lt⟩;by_cases hbd:b=d
 ·subst hbd;rw [hd] at hb;cases hb;exact .inr (.inr ⟨rfl,_,World.putObj_heap_same (Zao.1 hd).1, .map es cl es' cl'⟩)
 ·rw [Zcr hbd];exact .inl hb
theorem Tie.putMap {b b':γ} (h:Tie (Env.mapped P yl N w0 lent f) lo r S X V w m B hv s b a) {d} {es es'} {cl cl'} (hd:w.heap[d]? =some (Obj.map es cl))
 (hE:MapsE P N w0 lent (f b') S (w.putObj d (.map es' cl'))):Tie (Env.mapped P yl N w0 lent f) lo r S X V (w.putObj d (.map es' cl')) m B hv s b' a:=by
 refine ⟨⟨h.rel.1,h.rel.2.1.putObj hd rfl,h.rel.2.2⟩,h.sub,hE,fun l0 hl0=> ?_, ?_,h.base.1,by simpa using h.base.2⟩
 ·obtain ⟨rc,h1⟩:=h.round l0 hl0;exact ⟨rc,ABk9 h1 (by rintro rfl;rw [hd] at h1;cases h1)⟩
 ·obtain ⟨bs,h1,h2,h3⟩:=h.marks;refine ⟨bs,h1,h2,fun b hb=>⟨(h3 b hb).1,ABk9 (h3 b hb).2 ?_⟩⟩;rintro rfl;have h4:=(h3 _ hb).2;rw [hd] at h4;cases h4
theorem ASm9 {g} {c} {t e} {mo xo} {ok:Bool} (hop:o.op= .lookup t mo xo ok) (hc:c∈f g) (hm:evalA s.tm mo= .d (.s (.map (some c.b)))) {key:Value} (hx:(evalA s.tm xo).toVal? =some key)
 (K:Keyed P c.k) (ht:P.underlying t=some (.map c.k e)) {kl:Lit} (hk:keyOf P c.k key=some kl) {z:AV} {zv:Value} (hz:∀w,(zeroValue e).run P w= .ok zv w) (hzv:∀S w,RV S w [] none z zv) (hzc:z.closed=true):
 EnvOk (Env.mapped P yl N w0 lent f) o s g fun s' g'=>s'= {tm:=putA s.tm o.dst (if ok then .tup [atK kl z c.es, .d (.s (.bool (hasK kl c.es)))] else atK kl z c.es).view,hp:=s.hp,pv:=pvPut s.pv o.dst}∧g'=g:=by
 intro lo r S X V w m B hv a K' Q h hK;obtain ⟨Ld,hown,hent⟩:=h.env.is c hc;have hev:=AAf9 h.rel;have hme:=ABi9 (x:=evalA s.tm mo) (by rw [hm];rfl) (hev mo);have hxe:=ABi9 hx (hev xo);obtain ⟨v,h1,h2⟩:=hent.at kl (hzv S w);have key':∃v,(Instr.lookup t (.map (some c.b)) key ok).run P w= .ok v w∧RV S w [] none (if ok then .tup [atK kl z c.es, .d (.s (.bool (hasK kl c.es)))] else atK kl z c.es) v:=by
  cases ok with
  | false=>
   obtain ⟨v',ps,h3,h4⟩:=hown.lookup K ht (hz w) (zd:= .held zv) (zp:= []) rfl hk;rw [h1] at h4;cases h4;exact ⟨v,h3,h2⟩
  | true=>
   obtain ⟨v',ps,h3,h4⟩:=hown.look_ok K ht (hz w) (zd:= .held zv) (zp:= []) rfl hk;rw [h1] at h4;cases h4;rw [hent.has] at h3;refine ⟨_,h3, .tup rfl fun i c' v' h5 h6=> ?_⟩
   match i with
   |0=>simp at h5 h6;subst h5 h6;exact h2
   |1=>simp at h5 h6;subst h5 h6;exact .d (.s _)
   |i+2=>simp at h5
 obtain ⟨v,h3,h4⟩:=key';refine AAp9 (w':=w) (v:=v) (nx:= .value v) (by rw [hop];intro _ h;cases h) ?_ (.inl rfl) ?_
 ·unfold execOp;simp only [hop,hme,hxe];simp [h3,Result.andThen]
 ·exact hK _ _ ⟨rfl,rfl⟩ S X V w m hv _ (Went.refl h.rel.slt) (Zfb m) (h.putQ o.dst h4)
theorem MapsE.turned {l1 l2} {c c':MapC} (h:MapsE P N w0 lent (l1++c::l2) S w) (hb:c'.b=c.b) {es es'} {cl cl'} (hd:w.heap[c.b]? =some (Obj.map es cl))
 (hc:MapIs P S (w.putObj c.b (.map es' cl')) c'):MapsE P N w0 lent (l1++c'::l2) S (w.putObj c.b (.map es' cl')):=by
 have hnd:=h.nd;simp only [List.map_append,List.map_cons,List.nodup_append,List.nodup_cons,Zbf,Zbu] at hnd;obtain ⟨n1,⟨n2,n3⟩,n4⟩:=hnd;have ho:∀c1∈l1++c::l2,c1.b≠c.b→MapIs P S (w.putObj c.b (.map es' cl')) c1:=fun c1 h1 h2=>
  (h.is c1 h1).mono (fun es cl h3=>by rw [Zcr h2];exact h3) fun x v hx=>hx.putObj hd rfl h.lt
 refine ⟨fun c1 h1=> ?_, ?_,fun c1 h1=> ?_,fun b o1 h1 h2 hm1 h3=> ?_,fun b i h1=>by simpa using h.lt b i h1⟩
 ·simp only [Zca,Zbu] at h1;rcases h1 with h1|rfl|h1
  ·exact ho c1 (by simp [h1]) fun h2=>n4 c1.b ⟨c1,h1,rfl⟩ c.b (.inl rfl) h2
  ·exact hc
  ·exact ho c1 (by simp [h1]) fun h2=>n2 ⟨c1,h1,h2⟩
 ·have:=h.nd;simpa [hb] using this
 ·simp only [Zca,Zbu] at h1;rcases h1 with h1|rfl|h1
  ·exact h.mine c1 (by simp [h1])
  ·rw [hb];exact h.mine c (by simp)
  ·exact h.mine c1 (by simp [h1])
 ·have hne:b≠c.b:=by
   rintro rfl;rcases h.mine c (by simp) with h4|h4
   ·omega
   ·exact h2 h4
  rw [Zcr hne];exact h.kept b o1 h1 h2 hm1 h3
theorem AKj9 {g g'} {l1 l2} {c} {t e:TypeId} {mo xo vo:Operand} (hop:o.op= .mapUpdate t mo xo vo) (hg:f g=l1++c::l2) (hm:evalA s.tm mo= .d (.s (.map (some c.b)))) {key:Value} (hx:(evalA s.tm xo).toVal? =some key)
 (K:Keyed P c.k) (ht:P.underlying t=some (.map c.k e)) {kl:Lit} (hk:keyOf P c.k key=some kl) (hn:c.es.length<maxLen) (hcl:(evalA s.tm vo).view.closed=true) (hg':f g'=l1++ {c with es:=putK kl (evalA s.tm vo).view c.es}::l2):
 EnvOk (Env.mapped P yl N w0 lent f) o s g fun s' g''=>s'= {tm:=putA s.tm o.dst (.d (.s undef)),hp:=s.hp,pv:=pvPut s.pv o.dst}∧g''=g':=by
 intro lo r S X V w m B hv a K' Q h hK;have hE:MapsE P N w0 lent (l1++c::l2) S w:=hg▸h.env;obtain ⟨Ld,hown,hent⟩:=hE.is c (by simp);have hev:=AAf9 h.rel;have hme:=ABi9 (x:=evalA s.tm mo) (by rw [hm];rfl) (hev mo);have hxe:=ABi9 hx (hev xo);have hve:RV S w [] none (evalA s.tm vo).view (a.eval vo):=(RV.view (hev vo)).closed hcl;obtain ⟨w',hrun,hown',es,cl,es',cl',hd,rfl⟩:=hown.store K ht hn hk (val:=a.eval vo) (d:= .held (a.eval vo)) (ps:= []) rfl;have hput:setBlock w c.b (.map es' cl')=w.putObj c.b (.map es' cl'):=rfl;rw [hput] at hrun hown';have hmi:MapIs P S (w.putObj c.b (.map es' cl')) {c with es:=putK kl (evalA s.tm vo).view c.es}:=by
  have hent':Ents S (w.putObj c.b (.map es' cl')) (putK kl (evalA s.tm vo).view c.es) (DataW.insert (kl, .held (a.eval vo)) (Ld.filter fun p=> !p.1.sameKey kl)):=
   ((hent.del kl).ins hve hcl).mono fun x v hx=>hx.putObj hd rfl hE.lt
  refine ⟨_, ?_,hent'⟩;have:=ARq9 hown'
  rwa [hent'.length] at this
 have hE':MapsE P N w0 lent (f g') S (w.putObj c.b (.map es' cl')):=hg'▸hE.turned (c':= {c with es:=putK kl (evalA s.tm vo).view c.es}) rfl hd hmi;refine AAp9 (w':=w.putObj c.b (.map es' cl')) (v:=undef) (nx:= .skip) (by rw [hop];intro _ h;cases h) ?_ (.inr ⟨rfl,rfl⟩) ?_
 ·unfold execOp;simp only [hop,hme,hxe];simp [hrun,Result.andThen]
 ·have hlt:=h.rel.slt;have htr:Tr (fun b i=>¬X b i∨V b i) (fun x=>x=0) S w S (w.putObj c.b (.map es' cl')):=BMh9 hlt hd;exact hK _ _ ⟨rfl,rfl⟩ S X V _ m hv _ ⟨htr,fun _ _ h=>h,fun _ _ h=> .inl h⟩ (Zfb m) ((h.putMap hd hE').putQ o.dst (x:= .d (.s undef)) (.d (.s _)))
theorem ANy9 {g:γ} {mk:Nat→γ} {t k:TypeId} (hop:o.op= .makeMap t none) (hmk:∀d,f (mk d)=⟨d,k, []⟩::f g):
 EnvOk (Env.mapped P yl N w0 lent f) o s g fun s' g'=>∃d,s'= {tm:=putA s.tm o.dst (.d (.s (.map (some d)))),hp:=s.hp,pv:=pvPut s.pv o.dst}∧g'=mk d:=by
 intro lo r S X V w m B hv a K' Q h hK;have hb:Below w.heap.size w (w.alloc (.map #[] 0)):=(Below.refl _ _).alloc (Zat _) _;have hG:=Gs.below h.rel.2.1 hb ⟨fun _ _ h=>h,fun _ _ h=> .inl h⟩;have hrel:=h.rel.2.1.below hb (fun _ _ h=>h) (fun _ _ h=> .inl h);have h1:Tie (Env.mapped P yl N w0 lent f) lo r S X V (w.alloc (.map #[] 0)) m B hv s g a:=h.step hG ⟨h.rel.1,hrel,h.rel.2.2⟩ rfl;have hE:MapsE P N w0 lent (f g) S (w.alloc (.map #[] 0)):=h1.env;have hE0:MapsE P N w0 lent (f g) S w:=h.env;have hE':MapsE P N w0 lent (f (mk w.heap.size)) S (w.alloc (.map #[] 0)):=by
  rw [hmk];refine ⟨fun c hc=> ?_, ?_,fun c hc=> ?_,hE.kept,hE.lt⟩
  ·simp only [Zbu] at hc;rcases hc with rfl|hc
   ·exact ⟨[],World.ownsMap_made w P k heldR, .nil⟩
   ·exact hE.is c hc
  ·simp only [List.map_cons,List.nodup_cons,Zbf];refine ⟨fun ⟨c,h2,h3⟩=> ?_,hE.nd⟩;have:=(hE0.is c h2).lt;omega
  ·simp only [Zbu] at hc;rcases hc with rfl|hc
   ·exact .inl (Nat.le_trans h.base.1 h.base.2)
   ·exact hE.mine c hc
 have h2:Tie (Env.mapped P yl N w0 lent f) lo r S X V (w.alloc (.map #[] 0)) m B hv s (mk w.heap.size) a:=⟨h1.rel,h1.sub,hE',h1.round,h1.marks,h1.base⟩;refine AAp9 (w':=w.alloc (.map #[] 0)) (v:= .map (some w.heap.size)) (nx:= .value (.map (some w.heap.size))) (by rw [hop];intro _ h;cases h) ?_ (.inl rfl) ?_
 ·unfold execOp;simp only [hop];rfl
 ·exact hK _ _ ⟨w.heap.size,rfl,rfl⟩ S X V _ m hv _ (hG.went h1.rel.slt) (Zfb m) (h2.putQ o.dst (x:= .d (.s (.map (some w.heap.size)))) (.d (.s _)))
end
abbrev MHook (γ:Type):=Oper→RS→γ→(RS→γ→Prop)→Option Prop
section
variable {β:Type}
def opM (P:Program) (X:CX β) (M:MHook β) (ops:Array Oper) (o:Oper) (s:RS) (b:β) (K:RS→β→Prop):Prop:=
 BGi9 ops o s.tm
  (fun tm=>match M o {s with tm:=tm} b K with
   |some p=>p
   |none=>opC P X ops o {s with tm:=tm} b K)
  (fun tm=>K {s with tm:=putA tm o.dst (.d (.s undef)),pv:=pvPut s.pv o.dst} b)
def opsM (P:Program) (X:CX β) (M:MHook β) (ops:Array Oper):List Oper→RS→β→(RS→β→Prop)→Prop
 | [],s,b,K=>K s b
 |o::l,s,b,K=>opM P X M ops o s b fun s b=>opsM P X M ops l s b K
def BFc9 (P:Program) (X:CX β) (M:MHook β) (ops:Array Oper) (k:Nat) (tm:List AV) (hp:List Blk) (b:β) (K:List AV→List Blk→β→Prop):Prop:=
 if k≤ops.size then preC P X ops hp (ops.toList.take k) tm [] fun tmK tb=>
  if (tb.map (·.1)).Nodup then opsM P X M ops (ops.toList.drop k) ⟨tmK,hp,pvAll P hp tmK (ops.toList.take k)⟩ b fun s b=>K s.tm s.hp b else False
 else False
def mapOp (o:Oper):Bool:=
 match o.op with
 | .lookup .. | .mapUpdate .. | .makeMap .. =>true
 |_=>false
def ARk9 (P:Program) (X:CX β) (M:MHook β) (ops:Array Oper) (draw:Bool) (tm:List AV) (hp:List Blk) (b:β) (K:List AV→List Blk→β→Prop):Prop:=
 if draw then match findK ops (ABo9 (ops.toList.takeWhile fun o=> !mapOp o)) with
  |some k=>BFc9 P X M ops k tm hp b K
  |none=>False
 else opsM P X M ops ops.toList ⟨tm,hp, []⟩ b fun s b=>K s.tm s.hp b
def wlM (P:Program) (X:CX β) (M:MHook β) (wl:Code→List AV→List Blk→β→(Exit→List AV→List Blk→β→Prop)→Prop):Code→List AV→List Blk→β→(Exit→List AV→List Blk→β→Prop)→Prop
 | .region id ops d,tm,hp,b,K=>ARk9 P X M ops d tm hp b (K .normal)
 |c,tm,hp,b,K=>wl c tm hp b K
end
def MOk {P:Program} (Ev:Env P) (M:MHook Ev.β):Prop:=∀o s b K p,M o s b K=some p→p→∃T:RS→Ev.β→Prop,EnvOk Ev o s b T∧∀s' b',T s' b'→K s' b'
section
variable {P:Program} {hp hp':List Blk} {tm tm':List AV} {o:Oper} {ops:Array Oper} {Ev:Env P} {X:CX Ev.β} {M:MHook Ev.β} {s:RS} {b:Ev.β}
theorem AXd9 {K} {R} {l} (hX:X.Ok) (hM:MOk Ev M) (h:opM P X M ops o s b K) (hK:∀s' b',K s' b'→wOps Ev ops l s' b' R):wOps Ev ops (o::l) s b R:=by
 unfold opM at h;rcases AHw9 h with ⟨hw,h⟩|⟨hw,h⟩
 ·split at h
  ·rename_i p hp;obtain ⟨T,he,h2⟩:=hM _ _ _ _ _ hp h;exact ⟨s, .rfl, .inr (.inr (.inr ⟨hw, .inr ⟨T,he,fun s' b' h=>hK _ _ (h2 s' b' h)⟩⟩))⟩
  ·exact AXf9 hX h hK
 ·exact ⟨s, .rfl, .inl ⟨_,by simp only [xStep,hw],hK _ _ h⟩⟩
theorem AIw9 (hX:X.Ok) (hM:MOk Ev M) {R}:∀ {l} {s} {b} {K},opsM P X M ops l s b K→(∀s' b',K s' b'→R s' b')→wOps Ev ops l s b R
 | [],s,b,K,h,hK=>hK _ _ h
 |o::l,s,b,K,h,hK=>AXd9 hX hM h fun s' b' h=>AIw9 hX hM h hK
theorem AKh9 {id} {d} (hm:P.follows .mixedOrders=true) (hX:X.Ok) (hM:MOk Ev M) {K} {Q} (h:ARk9 P X M ops d tm hp b K) (hq:∀tm' hp' b',K tm' hp' b'→Q .normal ⟨tm',hp',b'⟩):
 W Ev (.region id ops d) ⟨tm,hp,b⟩ Q:=by
 unfold ARk9 at h;cases d with
 |false=>exact W.region (AIw9 hX hM h fun _ _ h=>hq _ _ _ h)
 | true=>
  simp only [if_true] at h;split at h
  ·rename_i k hk;unfold BFc9 at h;split at h
   ·rename_i hks;obtain ⟨tmK,tb,h1,h2,h3,h4⟩:=ACm9 hX h;split at h1
    ·rename_i hnd;exact W.draw (s:=⟨tm,hp,b⟩) k (tblD tb) hm (AWm9 (h3 (by simp))) (AGs9 hk) hks (h4 tb (ADl9 hnd)) (AIw9 hX hM h1 fun s' b' h=>hq _ _ _ h)
    ·exact h1.elim
   ·exact h.elim
  ·exact h.elim
theorem BUf9 (hm:P.follows .mixedOrders=true) (hX:X.Ok) (hM:MOk Ev M) {wl}
 (hwl:∀c tm hp b K,wl c tm hp b K→W Ev c ⟨tm,hp,b⟩ (fun e s=>K e s.tm s.hp s.b)):∀c tm hp b K,wlM P X M wl c tm hp b K→W Ev c ⟨tm,hp,b⟩ (fun e s=>K e s.tm s.hp s.b):=by
 intro c tm hp b K h;cases c with
 |region id ops d=>exact AKh9 hm hX hM h fun _ _ _ h=>h
 |_=>exact hwl _ _ _ _ _ h
end
def MCall (P:Program) {γ:Type} (f:γ→List MapC) (k:Nat) (args:List AV) (g:γ) (R:AV→γ→Prop):Prop:=
 (∀azz w,(callFunc k azz).run P w= .ok (.enter k azz) w)∧
 ∀ (S:Pr) (w:World) (vs:List Value),args.length=vs.length→(∀(i:Nat) (x:AV) (v:Value),args[i]? =some x→vs[i]? =some v→RV S w [] none x v)→(∀b i,S b i→b<w.heap.size)→Glob S w→
  (∀c∈f g,MapIs P S w c)→((f g).map MapC.b).Nodup→
  CallsIn Fence.wide 0 P k vs.toArray w fun e w'=>∃v S' x g',e= .returned v∧R x g'∧Tr (fun b _=>¬b<w.heap.size) (fun x=>x=0) S w S' w'∧
   MapsE P w.heap.size w ((f g).map MapC.b) (f g') S' w'∧RV S' w' [] none x.view v
section
variable {P:Program} {S S' X V:Pr} {w w' w0:World} {lo:Nat} {r:Option Nat} {m:List MB} {B:List (AV×Value)} {hv:List (List Value)} {s:RS} {a:Act} {yl:Option Nat} {N:Nat} {lent:List Nat} {γ γ':Type} {f:γ→List MapC} {f':γ'→List MapC} {o:Oper}
theorem AWk9 (x:AV):x.view.view=x.view:=by cases x<;>rfl
theorem AZz9 {yv} {k} {args} (h:RelS S X yv w m B hv s a) (hc:AHv9 s.tm o=some (k,args)):
 ∃ vs:List Value,args.length=vs.length∧(∀(i:Nat) (x:AV) (v:Value),args[i]? =some x→vs[i]? =some v→RV S w m yv x v)∧(∀c,o.op≠ .defer c)∧
  ((∀azz w,(callFunc k azz).run P w= .ok (.enter k azz) w)→(execOp a.eval o).run P w= .ok (.enter k vs.toArray) w):=by
 have hev:=AAf9 h;unfold AHv9 at hc;split at hc<;>try (cases hc;done)
 rename_i c ho;split at hc<;>try (cases hc;done)
 rename_i fo hcal;have hfv:=(hev fo).asFn;unfold AHx9 at hc;split at hc<;>try (cases hc;done)
 rename_i k' first caps hf
 simp only [Option.some.injEq,Prod.mk.injEq] at hc;obtain ⟨rfl,rfl⟩:=hc;rw [hf] at hfv;generalize hfe:a.eval fo=fv at hfv;cases hfv with
 | fn hne hl1 hl2 h1 h2=>
  rename_i fs cs;have e0:(fs.toList++(c.args.map a.eval).toList++cs.toList).toArray=fs++c.args.map a.eval++cs:=by apply Array.ext';simp
  refine ⟨fs.toList++(c.args.map a.eval).toList++cs.toList,by simp [hl1,hl2],fun j x u hj1 hj2=> ?_,by simp [ho],fun hent=> ?_⟩
  ·simp only [List.getElem?_map,Zap] at hj1;obtain ⟨y,hj1,rfl⟩:=hj1;refine RV.view ?_;by_cases c1:j<first.length
   ·rw [List.append_assoc,Zaw c1] at hj1;rw [List.append_assoc,Zaw (by simpa [←hl1] using c1)] at hj2;exact h1 j y u hj1 (by simpa using hj2)
   ·by_cases c2:j<first.length+c.args.size
    ·rw [Zaw (by simpa using c2),List.getElem?_append_right (by omega)] at hj1;rw [Zaw (by simpa [←hl1] using c2),List.getElem?_append_right (by simp [←hl1];omega)] at hj2;simp only [Array.length_toList,←hl1,List.getElem?_map,Zap,Array.getElem?_toList,Array.getElem?_map] at hj1 hj2;obtain ⟨y1,hy1,rfl⟩:=hj1;obtain ⟨y2,hy2,rfl⟩:=hj2;rw [hy1] at hy2;cases hy2;exact hev y1
    ·rw [List.getElem?_append_right (by simp;omega)] at hj1;rw [List.getElem?_append_right (by simp [←hl1];omega)] at hj2;simp only [List.length_append,List.length_map,Array.length_toList,Array.size_map,←hl1] at hj1 hj2;exact h2 _ y u hj1 (by simpa using hj2)
  ·rw [e0];unfold execOp;rw [ho];simp [resolve,hcal,hfe,Deferred.ofValue,invoke,hent]
theorem MapsE.back {l1 l2 c0 c1:List MapC} {Z} (h:MapsE P N w0 lent (l1++c0++l2) S w) (hN:N≤w.heap.size) (hc:MapsE P w.heap.size w (c0.map MapC.b) c1 S' w') (ht:Tr Z (fun x=>x=0) S w S' w'):MapsE P N w0 lent (l1++c1++l2) S' w':=by
 have hnd:=h.nd;simp only [List.map_append,List.nodup_append,Zca,Zbf] at hnd;obtain ⟨⟨n1,n2,n3⟩,n4,n5⟩:=hnd;have hlt:∀c∈l1++c0++l2,c.b<w.heap.size:=fun c h1=>(h.is c h1).lt;have hfar:∀c∈l1++l2,c.b∉c0.map MapC.b:=by
  intro c h1 h2;obtain ⟨d,h3,h4⟩:=Zbf.1 h2;rcases Zca.1 h1 with h1|h1
  ·exact n3 c.b ⟨c,h1,rfl⟩ d.b ⟨d,h3,rfl⟩ h4.symm
  ·exact n5 d.b (.inr ⟨d,h3,rfl⟩) c.b ⟨c,h1,rfl⟩ h4
 have hst:∀c∈l1++l2,MapIs P S' w' c:=fun c h1=>(h.is c (by simp only [Zca] at h1 ⊢;exact h1.elim (fun h=> .inl (.inl h)) .inr)).mono
  (fun es cl h2=>hc.kept c.b _ (hlt c (by simp only [Zca] at h1 ⊢;exact h1.elim (fun h=> .inl (.inl h)) .inr)) (hfar c h1) rfl h2) fun x v hx=>hx.tr ht
 have hdis:∀c∈l1++l2,∀d∈c1,c.b≠d.b:=by
  intro c h1 d h2 h3;rcases hc.mine d h2 with h4|h4
  ·have:=hlt c (by simp only [Zca] at h1 ⊢;exact h1.elim (fun h=> .inl (.inl h)) .inr);omega
  ·exact hfar c h1 (h3▸h4)
 refine ⟨fun c h1=> ?_, ?_,fun c h1=> ?_,fun b o1 h1 h2 hm1 h3=> ?_,hc.lt⟩
 ·simp only [Zca] at h1;rcases h1 with (h1|h1)|h1
  ·exact hst c (by simp [h1])
  ·exact hc.is c h1
  ·exact hst c (by simp [h1])
 ·simp only [List.map_append,List.nodup_append,Zca,Zbf];refine ⟨⟨n1,hc.nd, ?_⟩,n4, ?_⟩
  ·rintro x ⟨c,h1,rfl⟩ y ⟨d,h2,rfl⟩;exact hdis c (by simp [h1]) d h2
  ·rintro x (⟨c,h1,rfl⟩|⟨c,h1,rfl⟩) y ⟨d,h2,rfl⟩
   ·exact n5 c.b (.inl ⟨c,h1,rfl⟩) d.b ⟨d,h2,rfl⟩
   ·exact fun he=>hdis d (by simp [h2]) c h1 he.symm
 ·simp only [Zca] at h1;rcases h1 with (h1|h1)|h1
  ·exact h.mine c (by simp [h1])
  ·rcases hc.mine c h1 with h2|h2
   ·exact .inl (Nat.le_trans hN h2)
   ·obtain ⟨d,h3,h4⟩:=Zbf.1 h2;rw [←h4];exact h.mine d (by simp [h3])
  ·exact h.mine c (by simp [h1])
 ·refine hc.kept b o1 (Zao.1 (h.kept b o1 h1 h2 hm1 h3)).1 (fun h4=> ?_) hm1 (h.kept b o1 h1 h2 hm1 h3);obtain ⟨d,h5,h6⟩:=Zbf.1 h4;rcases h.mine d (by simp [h5]) with h7|h7
  ·omega
  ·exact h2 (h6▸h7)
theorem BNf9 {g} {g0:γ'} {up:γ'→γ} {l1 l2} {k} {args:List AV} {R:AV→γ'→Prop} (hc:AHv9 s.tm o=some (k,args)) (hcl:ABq9 args=true) (hf:f g=l1++f' g0++l2) (hup:∀g',f (up g')=l1++f' g'++l2) (hcall:MCall P f' k args g0 R):
 EnvOk (Env.mapped P yl N w0 lent f) o s g fun s' g'=>∃x g1,R x g1∧s'= {tm:=putA s.tm o.dst x.view,hp:=s.hp,pv:=pvPut s.pv o.dst}∧g'=up g1:=by
 intro lo r S X V w m B hv a K' Q h hK;have hE:MapsE P N w0 lent (l1++f' g0++l2) S w:=hf▸h.env;obtain ⟨vs,h1,h2,h3,h4⟩:=AZz9 (P:=P) h.rel hc;obtain ⟨hent,hcontract⟩:=hcall;refine ⟨fun f' _=>trivial, ?_⟩;rw [Oper.semAt_eq _ _ _ h3,h4 hent];refine ⟨fun hd=>(by cases hd), ?_⟩;have hnd:((f' g0).map MapC.b).Nodup:=by
  have:=hE.nd;simp only [List.map_append,List.nodup_append] at this;exact this.1.2.1
 refine (CallsIn.mono (hcontract S w vs h1 (fun j x u hj1 hj2=>(h2 j x u hj1 hj2).closed (ABj9 hcl j x hj1)) h.rel.slt h.rel.2.1.gl (fun c hc=>hE.is c (by simp [hc])) hnd) ?_:CallsIn Fence.wide 0 P k _ w _);rintro e w' ⟨v,S',x,g1,rfl,hR,ht,hE1,hxv⟩;have hE':MapsE P N w0 lent (f (up g1)) S' w':=by rw [hup];exact hE.back (Nat.le_trans h.base.1 h.base.2) hE1 ht
 have hrel:Rel S' X yl w' m (s.tm.zip a.tmps.toList++(B++AAa9 s.hp hv)) s.hp hv:=by
  refine h.rel.2.1.still ht (fun g blk p h1 h2 hfr i hz=> ?_) (fun p hp b hb i hz=> ?_) (fun _ _ h=> .inl h)
  ·have hb:=h.rel.2.1.block h2;obtain ⟨_,_,cur,e,_,_,_,_,_,_,_,g8,_⟩:=hb;exact hz (Zao.1 g8).1
  ·exact hz (BVy9 (h.rel.2.1.rv p hp) (x:=p.1) (v:=p.2) hb)
 have htr:Tr (fun b i=>¬X b i∨V b i) (fun x=>x=0) S w S' w':=ht.mono' (fun b i hb hz=>absurd hb hz) (fun _ h=>h);have htie:Tie (Env.mapped P yl N w0 lent f) lo r S' X V w' m B hv s (up g1) a:=
  ⟨⟨h.rel.1,hrel,h.rel.2.2⟩,h.sub,hE',h.round.tr ht,h.marks.tr ht,h.base.1,Nat.le_trans h.base.2 ht.size⟩
 exact hK _ _ ⟨x,g1,hR,rfl,rfl⟩ S' X V w' m hv _ ⟨htr,fun _ _ h=>h,fun _ _ h=> .inl h⟩ (Zfb m) (by have:=htie.putQ o.dst hxv;rwa [AWk9] at this)
end
section
variable {P:Program} {S S' X' V V':Pr} {w w' w0:World} {N:Nat} {lent:List Nat} {γ:Type} {f:γ→List MapC}
theorem MapsE.more {β} (h:MapsE P N w0 lent β S w) (hS:∀b i,S b i→S' b i) (hlt:∀b i,S' b i→b<w.heap.size):MapsE P N w0 lent β S' w:=
 ⟨fun c hc=>(h.is c hc).mono (fun _ _ h=>h) fun x v hx=>hx.ext hS (Agree.refl _ _ _),h.nd,h.mine,h.kept,hlt⟩
theorem MCall.ofW {k} {fn} {c} {args} {g} {R} (hf:P.funcs[k]? =some fn) (hb:fn.body=some c) (hn:(fn.name== "runtime.NumGoroutine")=false) (hargs:args.map Zdg=args)
 (hW:∀N w0,W (Env.mapped P none N w0 ((f g).map MapC.b) f) c ⟨ACf9 fn args, [],g⟩ (ANe9 P fn fun y hp g'=>∃x,SealD hp y x∧R x g')):MCall P f k args g R:=by
 refine ⟨AGu9 hf hb hn,fun S w vs hl hvs hlt hgl hmaps hnd=> ?_⟩;have hrel:Rel S (fun b _=>b<w.heap.size) none w [] (args.zip vs++([]++AAa9 [] [])) [] []:=by
  have h0:Rel S (fun b _=>b<w.heap.size) none w [] [] [] []:=⟨fun b i h=>h.elim (hlt b i) id,by simp,List.Pairwise.nil,by simp,by simp,by simp,rfl,rfl,by simp,hgl⟩;have:=h0.pushAll (args.zip vs) (fun p hp=>by
   obtain ⟨j,hj⟩:=Zay.1 hp;rw [List.getElem?_zip_eq_some] at hj;refine ⟨hvs j p.1 p.2 hj.1 hj.2, ?_⟩;have hp1:p.1.view=p.1:=by
    have h1:(args.map Zdg)[j]? =some p.1.view:=by simp [hj.1]
    rw [hargs,hj.1] at h1;exact (Option.some.inj h1).symm
   obtain ⟨p1,p2⟩:=p;simp only at hp1;rw [←hp1];exact AAt9 _ _)
  simpa [AAa9] using this
 have hE0:MapsE P w.heap.size w ((f g).map MapC.b) (f g) S w:=⟨hmaps,hnd,fun c hc=> .inr (Zbf.2 ⟨c,hc,rfl⟩),fun _ _ _ _ _ h=>h,hlt⟩;refine ADn9 (Ev:=Env.mapped P none w.heap.size w ((f g).map MapC.b) f) (V:=fun _ _=>False) (b:=g) hf hb hl (hW w.heap.size w) hrel (fun _ _ h=>h.elim) hE0 (Zat _) ?_;intro y S' X' V' w' m' hv' hp' v g' hy htr0 hxs hm hr hE hyv;obtain ⟨x,hx,hR⟩:=hy;have htr:Tr (fun b i=>¬b<w.heap.size) (fun x=>x=0) S w S' w':=htr0.mono (fun b i h=>h.resolve_right id) (fun _ h=>h);have hnew:∀b i,AAz9 S' m' b i→S b i∨(w.heap.size≤b∧b<w'.heap.size):=by
  intro b i hs;rcases hs with hs|⟨g,p,hg,rfl,hi⟩
  ·rcases htr.new b i hs with h1|h1|h1
   ·exact .inl h1
   ·exact .inr ⟨Zdn h1,htr.lt b i hs⟩
   ·exact .inr ⟨h1,htr.lt b i hs⟩
  ·have hr':Rel S' X' none w' m' (([]:List (AV×Value))++AAa9 hp' hv') hp' hv':=hr;obtain ⟨blk,us,cur,e,g1,g2,g3,g4,g5,g6,g7,g8,g9,g10,g11,g12⟩:=hr'.block hg;have hlt':p.b<w'.heap.size:=(Zao.1 g8).1;cases hfr:blk.fro with
   | true=>
    have hs:=g12 hfr i hi;rcases htr.new _ _ hs with h1|h1|h1
    ·exact .inl h1
    ·exact .inr ⟨Zdn h1,hlt'⟩
    ·exact .inr ⟨h1,hlt'⟩
   | false=>
    refine .inr ⟨Zdn fun hb=> ?_,hlt'⟩;exact (g11 hfr i).2 (hxs _ _ hb)
 have hlt2:∀b i,AAz9 S' m' b i→b<w'.heap.size:=fun b i hs=>(hnew b i hs).elim (fun h=>Nat.lt_of_lt_of_le (hlt b i h) htr.size) fun h=>h.2;refine ⟨v,AAz9 S' m',x,g',rfl,hR,⟨htr.os,htr.tape,htr.output,htr.size,htr.cells,htr.objs,htr.same,fun b i hs=> .inl (htr.up b i hs),fun b i hs=>(hnew b i hs).imp id fun h=> .inr h.1,hlt2⟩, ?_,(ADc9 (B:= []) (T:=AAz9 S' m') (by simpa using hr) (fun _ _ h=> .inl h) hx (fun g _ p hp i hi=> .inr ⟨g,p,hp,rfl,hi⟩) hyv).view⟩;exact MapsE.more hE (fun b i hs=> .inl hs) hlt2
theorem MCall.ofFn {k n} {fn} {args} {g} {R} {T} {U} {u} (wl) (hm:P.follows .mixedOrders=true)
 (hT:AAb9 P T) (hS:AAl9 P U) (hwl:∀N w0 c tm hp b K,wl c tm hp b K→W (Env.mapped P none N w0 ((f g).map MapC.b) f) c ⟨tm,hp,b⟩ (fun e s=>K e s.tm s.hp s.b)) (hf:P.funcs[k]? =some fn) (hn:(fn.name== "runtime.NumGoroutine")=false) (hargs:args.map Zdg=args)
 (h:wpFn P ⟨T,U,wl,fun _ _ _=>False,u⟩ n fn args g R):MCall P f k args g R:=by
 cases hb:fn.body with
 | some c=>
  unfold wpFn at h;rw [hb] at h;refine MCall.ofW hf hb hn hargs fun N w0=> ?_;exact AAy9 hm (CX.Ok.ofWl (Ev:=Env.mapped P none N w0 ((f g).map MapC.b) f) hT hS (hwl N w0)) h fun e tm hp b hK=>AFw9 hK
 | none=>
  unfold wpFn at h;rw [hb] at h;exact h.elim
theorem MCall.toP {k} {args} {g} {x} (hg:f g= []) (h:MCall P f k args g fun y _=>y=x):PCall P k args x:=by
 refine ⟨h.1,fun S w vs hl hvs hlt hgl=> ?_⟩;refine (CallsIn.mono (h.2 S w vs hl hvs hlt hgl (by simp [hg]) (by simp [hg])) ?_:CallsIn Fence.wide 0 P k _ w _);rintro e w' ⟨v,S',y,g',rfl,rfl,ht,hE,hv⟩;refine ⟨v,S',rfl,⟨ht.os,ht.tape,ht.output,ht.size,fun k hk=> ?_⟩,ht.up,fun b i hs=> ?_,hv⟩
 ·have hk1:w.heap[k]? =some w.heap[k]:=by simp [hk]
  cases ho:w.heap[k] with
  | cells c e f=>
   rw [ho] at hk1;obtain ⟨c',h1,h2⟩:=ht.cells k c e f hk1;rw [hk1,h1];congr 2;apply Array.ext h2;intro i hi hi';have h3:w.cell? ⟨k,i,none⟩=some c[i]:=by simp [World.cell?,hk1,hi']
   have h4:=ht.same k i _ (.inr (fun h=>h hk)) h3;simp only [World.cell?,h1] at h4;simpa [hi] using h4
  | map es cl=>
   rw [ho] at hk1;rw [hk1];exact hE.kept k _ hk (by simp [hg]) rfl hk1
  | mapIter _ _ _ _=>
   rw [ho] at hk1;rw [hk1];exact hE.kept k _ hk (by simp [hg]) rfl hk1
  | _=>
   rw [ho] at hk1;rcases ht.objs k _ hk1 rfl with h1|⟨h1,_⟩|⟨_,o',_,h1⟩
   ·rw [hk1,h1]
   ·exact absurd h1 (by omega)
   ·cases h1
 ·rcases ht.new b i hs with h1|h1|h1
  ·exact .inl h1
  ·exact .inr ⟨Zdn h1,ht.lt b i hs⟩
  ·exact .inr ⟨h1,ht.lt b i hs⟩
end
section
end
section
variable {P:Program} {S S' X:Pr} {w w':World} {m:List MB} {B:List (AV×Value)} {hv:List (List Value)} {s:RS} {a:Act} {o:Oper}
theorem DemOk.env {Ev:Env P} {b:Ev.β} {T:RS→Prop} (h:DemOk P o s T):EnvOk Ev o s b fun s' b'=>T s'∧b'=b:=
 fun lo r S X V w m B hv a K Q ht hK=>h r S X Ev.yl w m B hv a K Q ht.rel fun s' hs=>Goes.nx ht (hK s' b ⟨hs,rfl⟩)
theorem BFw9 {c} {ro} {name} {t} {v rv:Value} {k:Nat} {x:AV} (ho:o.op= .call c) (hc:c.callee= .invoke ro name) (hr:(evalA s.tm ro).toVal? =some (.iface t v)) (hm:BWf9 P t v name=some (k,rv))
 (hcl:ABq9 (ofVal rv::(c.args.toList.map (evalA s.tm)).map Zdg)=true) (hcall:PCall P k (ofVal rv::(c.args.toList.map (evalA s.tm)).map Zdg) x):
 DemOk P o s fun s'=>s'= {tm:=putA s.tm o.dst x.view,hp:=s.hp,pv:=pvPut s.pv o.dst}:=by
 intro r S X yv w m B hv a K Q h hK;have hev:=AAf9 h;have hre:=ABi9 hr (hev ro);have hmr:=fun w=>AEx9 P _ _ hm w;obtain ⟨hent,hcon⟩:=hcall;have hexec:(execOp a.eval o).run P w= .ok (.enter k (rv::c.args.toList.map a.eval).toArray) w:=by
  have e0:(rv::c.args.toList.map a.eval).toArray=#[rv]++c.args.map a.eval:=by apply Array.ext';simp
  have e1:(#[Value.iface t v]++c.args.map a.eval)[0]? =some (Value.iface t v):=by simp [Array.getElem?_append]
  have e2:(#[Value.iface t v]++c.args.map a.eval).extract 1 (#[Value.iface t v]++c.args.map a.eval).size=c.args.map a.eval:=by apply Array.ext';simp;exact List.take_of_length_le (by simp)
  rw [e0];unfold execOp;rw [ho];simp only [resolve,hc,hre];show (invoke (.fn (.method name) #[]) (#[Value.iface t v]++c.args.map a.eval)).run P w=_;unfold invoke;simp only [e1,e2];unfold callMethod;simp [hmr,hent]
 have hdef:∀c',o.op≠ .defer c':=by simp [ho]
 refine ⟨fun f' _=>trivial, ?_⟩;rw [Oper.semAt_eq _ _ _ hdef,hexec];refine ⟨fun hd=>(by cases hd), ?_⟩;refine (CallsIn.mono (hcon S w (rv::c.args.toList.map a.eval) (by simp) (fun i y u h1 h2=> ?_) h.slt h.2.1.gl) ?_:CallsIn Fence.wide 0 P k _ w _)
 ·refine RV.closed (m:=m) (yv:=yv) ?_ (ABj9 hcl i y h1);cases i with
  | zero=>
   simp only [List.getElem?_cons_zero,Option.some.injEq] at h1 h2;subst h1 h2;exact RV.ofVal rv
  | succ i=>
   simp only [List.getElem?_cons_succ,List.getElem?_map,Zap] at h1 h2;obtain ⟨z,⟨q,h1,rfl⟩,rfl⟩:=h1;obtain ⟨q',h2,rfl⟩:=h2;rw [h1] at h2;cases h2;exact (hev q).view
 ·rintro e w' ⟨v',S',rfl,hb,h1,h2,hx⟩;have hrel:=h.2.1.below hb h1 h2;exact hK _ rfl S' w' m hv _ (Gs.below h.2.1 hb ⟨h1,h2⟩) ⟨by rw [AAx9,ADe9];exact h.1,(by have:=(hrel.cons hx.opened.view (AAt9 _ _)).putTmp h.1 o.dst;rwa [AWk9] at this),ACn9 h.2.2 o.dst v'⟩ (ACl9 _ _ _) (ADe9 _ _ _)
end
def invH {γ:Type} (P:Program) (I:List (Nat×(List AV→(AV→Prop)→Prop))):MHook γ:=fun o s g K=>match o.op with
 | .call c=>match c.callee with
  | .invoke r name=>match (evalA s.tm r).toVal? with
   | some (.iface t v)=>match BWf9 P t v name with
    | some (k,rv)=>match I.lookup k with
     |some f=>some (ABq9 (ofVal rv::(c.args.toList.map (evalA s.tm)).map Zdg)=true∧f (ofVal rv::(c.args.toList.map (evalA s.tm)).map Zdg) fun x=>K {tm:=putA s.tm o.dst x.view,hp:=s.hp,pv:=pvPut s.pv o.dst} g)
     |none=>none
    |none=>none
   |_=>none
  |_=>none
 |_=>none
theorem BRl9 {P} {Ev:Env P} {I} (hI:AAb9 P I):MOk Ev (invH P I):=by
 intro o s b K p hp h;unfold invH at hp;split at hp<;>try (cases hp;done)
 rename_i c ho;split at hp<;>try (cases hp;done)
 rename_i r name hc;split at hp<;>try (cases hp;done)
 rename_i t v hr;split at hp<;>try (cases hp;done)
 rename_i k rv hm;split at hp<;>try (cases hp;done)
 rename_i f hf;cases hp;obtain ⟨hcl,h⟩:=h;obtain ⟨x,hx,hK⟩:=hI k f hf _ _ h;refine ⟨_,(BFw9 ho hc hr hm hcl hx).env, ?_⟩;rintro s' b' ⟨rfl,rfl⟩;exact hK
def wlI {β:Type} (P:Program) (T:List (Nat×(List AV→(AV→Prop)→Prop))) (I:List (Nat×(List AV→(AV→Prop)→Prop))) (y:ADo9 β) (wl:WLT β):WLT β:=wlM P ⟨T, [],fun _ _ _ _ _=>False,y,false⟩ (invH P I) wl
theorem CBp9 {P} {Ev:Env P} {T I} {wl:WLT Ev.β} (hm:P.follows .mixedOrders=true) (hT:AAb9 P T) (hI:AAb9 P I)
 (hwl:∀c tm hp b K,wl c tm hp b K→W Ev c ⟨tm,hp,b⟩ (fun e s=>K e s.tm s.hp s.b)):∀c tm hp b K,wlI P T I Ev.Y wl c tm hp b K→W Ev c ⟨tm,hp,b⟩ (fun e s=>K e s.tm s.hp s.b):=
 BUf9 hm (CX.Ok.ofWl hT AAl9.nil fun _ _ _ _ _ h=>h.elim) (BRl9 hI) hwl
theorem PCall.ofFnE {P} {f n} {fn} {args} {x} {T} {U} {u} (wl:∀Ev:Env P,WLT Ev.β) (hm:P.follows .mixedOrders=true)
 (hT:AAb9 P T) (hS:AAl9 P U) (hwl:∀Ev c tm hp b K,wl Ev c tm hp b K→W Ev c ⟨tm,hp,b⟩ (fun e s=>K e s.tm s.hp s.b)) (hf:P.funcs[f]? =some fn) (hn:(fn.name== "runtime.NumGoroutine")=false) (hargs:args.map Zdg=args)
 (h:∀Ev b,wpFn P ⟨T,U,wl Ev,Ev.Y,u⟩ n fn args b (fun y _=>y=x)):PCall P f args x:=by
 cases hb:fn.body with
 | some c=>
  refine PCall.ofWS hf hb hn hargs fun Ev b=> ?_;have h1:=h Ev b;unfold wpFn at h1;rw [hb] at h1;refine AAy9 hm (CX.Ok.ofWl hT hS (hwl Ev)) h1 fun e tm hp b hK=> ?_;obtain ⟨g1,ys,g2,z,g3,rfl⟩:=AFw9 hK;exact ⟨g1,ys,g2,g3⟩
 | none=>
  have:=h (Env.none P none) ();unfold wpFn at this;rw [hb] at this;exact this.elim
section
variable {P:Program} {S S' X X' V V':Pr} {w w':World} {lo:Nat} {r:Option Nat} {m:List MB} {B:List (AV×Value)} {hv:List (List Value)} {s:RS} {a:Act} {o o':Oper} {ops:Array Oper} {Ev:Env P} {b:Ev.β}
def LOps (Ev:Env P) (ops:Array Oper) (l:List Oper) (s:RS) (b:Ev.β) (R:RS→Ev.β→Prop):Prop:=
 ∀lo r S X V w m B hv a Q,Tie Ev lo r S X V w m B hv s b a→
  (∀s' b',R s' b'→Goes Ev lo r S X V w m B s' b' (Q .normal))→wpListIn (Fn r) 0 P ops Q l a w
theorem LOps.append {R} {l1}:∀ {l0} {s} {b},wOps Ev ops l0 s b (fun s1 b1=>LOps Ev ops l1 s1 b1 R)→LOps Ev ops (l0++l1) s b R
 | [],s,b,h=>h
 | o::l0,s,b,h=>by
  intro lo r S X V w m B hv a Q ht hK;exact AKv9 ht h fun s' b' hx' S' X' V' w' m' hv' a' hw hm ht'=>LOps.append (l0:=l0) hx' lo r S' X' V' w' m' B hv' a' Q ht'
   fun s'' b'' hr S'' X'' V'' w'' m'' hv'' a'' hw' hm' ht''=>hK s'' b'' hr S'' X'' V'' w'' m'' hv'' a'' (hw.trans hw') (hm.trans hm') ht''
theorem W.ofLOps {id} {st} {Q} (h:LOps Ev ops ops.toList st.rs st.b (fun s' b'=>Q .normal ⟨s'.tm,s'.hp,b'⟩)):W Ev (.region id ops false) st Q:=by
 intro lo r S X V w m B hv a ht;refine wpIn_region_list (h lo r S X V w m B hv a _ ht fun s' b' hq S' X' V' w' m' hv' a' hw hm ht'=> ?_);exact ⟨⟨s'.tm,s'.hp,b'⟩,S',X',V',m',hv',hq,⟨hw,hm⟩,⟨⟨ht'.rel.1,ht'.rel.2.1,by intro p hp;cases hp⟩,ht'.sub,ht'.env,ht'.round,ht'.marks,ht'.base⟩⟩
theorem BGs9 {i:TypeInfo} {z:Value} {zr:List Dv} (hz:zr=z.cells.toList.map Dv.s) (hsz:zr.length=i.size) (hpos:0<i.size) (hone:(zr.map AV.d).all AV.one=true) (n):Flat S w i.size (Zam n zr) (Builtin.zeroCells z.cells n).toList:=by
 subst hz;have hzs:z.cells.size=i.size:=by simpa using hsz
 have hat:∀j,j<n*i.size→(Builtin.zeroCells z.cells n).toList[j]? =some (z.cells[j % i.size]!):=by
  intro j hj;simp [Builtin.zeroCells,hzs,hj]
 have hlen:(Builtin.zeroCells z.cells n).toList.length=n*i.size:=by simp [Builtin.zeroCells,hzs]
 generalize (Builtin.zeroCells z.cells n).toList=news at hat hlen;refine ⟨by simp [hlen],fun j r hr=> ?_,fun j r k x v e1 e2 e3=> ?_,fun v hv=> ?_⟩
 ·rw [List.getElem?_replicate] at hr;split at hr<;>cases hr;simpa using hsz
 ·rw [List.getElem?_replicate] at e1;split at e1<;>cases e1;rename_i hj;simp only [List.getElem?_map,Zap] at e2;obtain ⟨u,e2,rfl⟩:=e2;have hk:k<i.size:=by rw [←hzs];have:=(Zaf.1 e2).1;simpa using this
  rw [hat _ (BFy9 hj hk)] at e3;have hmod:(j*i.size+k) % i.size=k:=by rw [Nat.mul_comm,Nat.mul_add_mod,Nat.mod_eq_of_lt hk]
  rw [hmod] at e3;have:z.cells[k]! =u:=by
   have h5:z.cells[k]? =some u:=by simpa using e2
   rw [getElem!_pos z.cells k (by rw [hzs];exact hk)];exact (Zao.1 h5).2
  rw [this] at e3;cases e3;exact .s _
 ·obtain ⟨j,hj⟩:=Zay.1 hv;have hjl:=(Zaf.1 hj).1;rw [hat j (by omega)] at hj;have hk:j % i.size<z.cells.size:=by rw [hzs];exact Nat.mod_lt _ hpos
  have hv':v=z.cells[j % i.size]:=by
   rw [getElem!_pos z.cells _ hk] at hj;exact (Option.some.inj hj).symm
  have:=Zbk.1 hone (.d (.s z.cells[j % i.size])) (Zbf.2 ⟨.s z.cells[j % i.size],Zbf.2 ⟨_,by simp,rfl⟩,rfl⟩);rw [hv'];exact this
theorem BEm9 {α:Type} {l:List α} {g:Nat} {x:α} (h:l[g]? =some x):l.set g x=l:=by
 have hg:=(Zaf.1 h).1;apply List.ext_getElem?;intro k;by_cases hk:g=k
 ·subst hk;rw [List.getElem?_set_self hg,h]
 ·rw [List.getElem?_set_ne hk]
def AMt9 (blk:Blk) (j n k:Nat) (zr:List Dv):Blk:= {blk with cells:=blk.cells.take (j*k)++flatA (Zam (n - j) zr)}
theorem BHp9 {t e} {x lo'} {i:TypeInfo} {g ver n d:Nat} {blk:Blk} {kk:IntKind} {j:Int} {zr:List Dv} (ho:o.op= .slice t x (some lo') none none) (hog:o.guard=none) (hod:o.dst=some d)
 (ho':o'.op= .call {callee:= .builtin .clear,args:=#[.tmp d],argTypes:=#[t]}) (hog':o'.guard=none) (hd:d<s.tm.length) (hu:P.underlying t=some (.slice e)) (hi:P.info? e=some i)
 (hx:evalA s.tm x= .gref g ver n i.size) (hj:evalA s.tm lo'= .d (.s (.int kk j))) (hg:s.hp[g]? =some blk) (hgr:blk.grow=true) (hver:blk.ver=ver) (hf:blk.fro=false) (h0:0≤j) (hn:j≤n)
 (hz:zrow i=some zr) (hsz:zr.length=i.size) (hpos:0<i.size) (hone:(zr.map AV.d).all AV.one=true):
 LOps Ev ops [o,o'] s b fun s' b'=>s'= {tm:=putA (putA s.tm (some d) .bad) o'.dst .bad,hp:=s.hp.set g (AMt9 blk j.toNat n i.size zr),pv:= []}∧b'=b:=by
 intro lo r S X V w m B hv a Q ht hK;have hbase:=AAf9 ht.rel x;have hej:=AAf9 ht.rel lo';rw [hx] at hbase;rw [hj] at hej;simp only [zrow,Zap] at hz;obtain ⟨z,hz,hzr⟩:=hz;obtain ⟨hl,hr,hpv⟩:=ht.rel;have hr':Rel S X Ev.yl w m ((s.tm.zip a.tmps.toList++B)++AAa9 s.hp hv) s.hp hv:=by simpa using hr
 have hvj:a.eval lo'= .int kk j:=by
  generalize a.eval lo'=u at hej;cases hej with|d h=>cases h;rfl
 generalize hva:a.eval x=va at hbase;cases hbase with
 | gref hm hv0 h1' hcur=>
  rename_i bb len ver';obtain ⟨blk',vs,cur,e',g1,g2,g3,g4,g5,g6,g7,g8,g9,g10,_⟩:=hr'.block hm;rw [hg] at g1;cases g1;simp only at g3 g5 g6 g8 g9 g10;obtain ⟨hlen,cap,rfl,hncap,hcm,cur',e2,hc2,hcsz⟩:=hcur (by omega);have e8:cur'=cur∧e2=e':=by rw [hc2] at g8;cases g8;exact ⟨rfl,rfl⟩
  obtain ⟨rfl,rfl⟩:=e8;have hjn:j.toNat≤n:=by omega
  have hjk:j.toNat*i.size+(n - j.toNat)*i.size=len:=by rw [hlen,←Nat.add_mul];congr 1;omega
  have hb:bnds n cap (some (kk,j)) none none=some (j.toNat,n,cap):=by
   unfold bnds;simp only [numOr];refine (if_pos ⟨h0,by omega,by omega,by omega,fun h=>by simp at h⟩).trans ?_;simp
  obtain ⟨hb1,hb2,hb3,hb4⟩:=AHt9 (P:=P) true hb w;have hrun:∃a2,(a2=(⟨bb,j.toNat*i.size,none⟩:Addr)∨n=j.toNat)∧(do pure (Next.value (←Instr.sliceAt t (.slice (some ⟨bb,0,none⟩) n cap) (some (.int kk j)) none none)):Sem Next).run P w= .ok (.value (.slice (some a2) (n - j.toNat) (cap - j.toNat))) w:=by
   simp only [Option.map_none,Option.map_some] at hb1;by_cases hc:cap - j.toNat=0
   ·refine ⟨⟨bb,0,none⟩, .inr (by omega), ?_⟩;simp only [Instr.sliceAt,Sem.run_bind,run_underlying hu,Result.andThen_ok,Instr.slice,hb1,sizeOf,typeInfo,run_program,hi,Sem.run_pure];have hc':cap=j.toNat:=by omega
    simp [hc']
   ·refine ⟨⟨bb,j.toNat*i.size,none⟩, .inl rfl, ?_⟩;simp only [Instr.sliceAt,Sem.run_bind,run_underlying hu,Result.andThen_ok,Instr.slice,hb1,sizeOf,typeInfo,run_program,hi,Sem.run_pure];have hc':¬cap=j.toNat:=by omega
    simp [hc',Addr.add];intro hq;rw [hq]
  obtain ⟨a2,ha2,hrun⟩:=hrun;have hexec:(execOp a.eval o).run P w= .ok (.value (.slice (some a2) (n - j.toNat) (cap - j.toNat))) w:=by
   unfold execOp;rw [ho];simp only [Option.map_none,Option.map_some,hva,hvj];exact hrun
  have hfl:=BGs9 (S:=S) (w:=w) hzr.symm hsz hpos hone (n - j.toNat);generalize hus:(Builtin.zeroCells z.cells (n - j.toNat)).toList=us at hfl;have hpl:=hfl.pairs.1;have hul:us.length=(n - j.toNat)*i.size:=by have:=hfl.len;simpa using this
  have hA:=hr'.pushAll ((flatA (Zam (n - j.toNat) zr)).zip us) hfl.rvs;obtain ⟨h2,h3⟩:=hA.storeBlock (us:=us) (off:=j.toNat*i.size) hpl hfl.one hg hm g2 hf (by rw [hul,←g3];omega) g8;have hcells:blk.cells.take (j.toNat*i.size)++flatA (Zam (n - j.toNat) zr)++blk.cells.drop (j.toNat*i.size+(flatA (Zam (n - j.toNat) zr)).length)=(AMt9 blk j.toNat n i.size zr).cells:=by
   rw [List.drop_eq_nil_of_le (by rw [hpl,hul,←g3];omega),List.append_nil];rfl
  have hst:=run_storeCells_at P bb (j.toNat*i.size) e2 us 0 cur' w g8 (by omega) hfl.one;simp only [Nat.add_zero] at hst;rw [hpl] at hcells;simp only [wpListIn,Region.wanted,hog,hog',if_true];refine AAp9 (by simp [ho]) hexec (.inl rfl) ?_;have hex2:∃w2,(w2=w.setRow bb (cur'.toList.take (j.toNat*i.size)++us++cur'.toList.drop (j.toNat*i.size+us.length)).toArray∨(w2=w∧us= []))∧
   (execOp (a.put o.dst (.slice (some a2) (n - j.toNat) (cap - j.toNat))).eval o').run P w= .ok (.value (.tuple #[])) w2:=by
   have hev:(a.put o.dst (.slice (some a2) (n - j.toNat) (cap - j.toNat))).eval (.tmp d)= .slice (some a2) (n - j.toNat) (cap - j.toNat):=by
    have:d<a.tmps.size:=by omega
    simp [hod,Act.put,Act.eval,this]
   by_cases hnj:n - j.toNat=0
   ·refine ⟨w, .inr ⟨rfl,List.eq_nil_of_length_eq_zero (by rw [hul,hnj];simp)⟩, ?_⟩;unfold execOp;rw [ho'];simp only [resolve,List.map_toArray,List.map_cons,List.map_nil,hev];rw [hnj];simp [invoke,builtin,Builtin.clear_,run_underlying hu]
   ·have ha2':a2=⟨bb,j.toNat*i.size,none⟩:=ha2.resolve_right (by omega);subst ha2';refine ⟨_, .inl rfl, ?_⟩;obtain ⟨q,hq⟩:∃q,n - j.toNat=q+1:=⟨n - j.toNat - 1,by omega⟩;have hus':(Builtin.zeroCells z.cells (q+1)).toList=us:=by rw [←hq];exact hus
    unfold execOp;rw [ho'];simp only [resolve,List.map_toArray,List.map_cons,List.map_nil,hev];rw [hq];simp [invoke,builtin,Builtin.clear_,run_underlying hu,zeroValue,typeInfo,hi,hz,hus',hst]
  obtain ⟨w2,hw2,hexec2⟩:=hex2;have hfin:RelS S X Ev.yl w2 m B (hv.set g (vs.take (j.toNat*i.size)++us++vs.drop (j.toNat*i.size+us.length))) {tm:=putA (putA s.tm (some d) .bad) o'.dst .bad,hp:=s.hp.set g (AMt9 blk j.toNat n i.size zr),pv:= []} ((a.put o.dst (.slice (some a2) (n - j.toNat) (cap - j.toNat))).put o'.dst (.tuple #[]))∧Gs S X none w m S w2 m:=by
   have hcl:({blk with cells:=blk.cells.take (j.toNat*i.size)++flatA (Zam (n - j.toNat) zr)++blk.cells.drop (j.toNat*i.size+us.length)}:Blk)=AMt9 blk j.toNat n i.size zr:=by rw [hcells];rfl
   rw [hcl] at h2;have hR2:Rel S X Ev.yl w2 m ((s.tm.zip a.tmps.toList++B)++AAa9 (s.hp.set g (AMt9 blk j.toNat n i.size zr)) (hv.set g (vs.take (j.toNat*i.size)++us++vs.drop (j.toNat*i.size+us.length)))) (s.hp.set g (AMt9 blk j.toNat n i.size zr)) (hv.set g (vs.take (j.toNat*i.size)++us++vs.drop (j.toNat*i.size+us.length)))∧Gs S X none w m S w2 m:=by
    rcases hw2 with rfl|⟨rfl,rfl⟩
    ·exact ⟨by simpa using h2,⟨h3,fun _ _ h=>h,fun _ _ h=> .inl h,Zfb m⟩⟩
    ·have e0:(flatA (Zam (n - j.toNat) zr))= []:=List.eq_nil_of_length_eq_zero (by rw [hpl];rfl);have e1:AMt9 blk j.toNat n i.size zr=blk:=by
      have:blk.cells.take (j.toNat*i.size)=blk.cells:=List.take_of_length_le (by rw [←g3];simp at hul;omega);unfold AMt9;rw [e0,this,List.append_nil]
     have e2:vs.take (j.toNat*i.size)++ []++vs.drop (j.toNat*i.size+([]:List Value).length)=vs:=by simp
     rw [e1,e2,BEm9 hg,BEm9 g2];exact ⟨hr',Gs.refl _ _ _ _ _⟩
   refine ⟨⟨by rw [AAx9,AAx9,ADe9,ADe9];exact hl, ?_,by intro p hp;cases hp⟩,hR2.2⟩;have c1:=(Rel.cons (x:= .bad) (v:= .slice (some a2) (n - j.toNat) (cap - j.toNat)) hR2.1 .bad rfl);have c1':=Rel.putTmp (C:=B++AAa9 (s.hp.set g (AMt9 blk j.toNat n i.size zr)) (hv.set g (vs.take (j.toNat*i.size)++us++vs.drop (j.toNat*i.size+us.length)))) hl (by simpa using c1) o.dst;have c2:=Rel.cons (x:= .bad) (v:= .tuple #[]) c1' .bad rfl;have c2':=Rel.putTmp (tm:=putA s.tm o.dst .bad) (a:=a.put o.dst (.slice (some a2) (n - j.toNat) (cap - j.toNat))) (C:=B++AAa9 (s.hp.set g (AMt9 blk j.toNat n i.size zr)) (hv.set g (vs.take (j.toNat*i.size)++us++vs.drop (j.toNat*i.size+us.length)))) (by rw [AAx9,ADe9];exact hl) (by simpa using c2) o'.dst;rw [hod] at c2';rw [hod];simpa using c2'
  refine AAp9 (by simp [ho']) hexec2 (.inl rfl) ?_;have hstep:Tie Ev lo r S X V w2 m B _ _ b _:=ht.step hfin.2 hfin.1 (by rw [ACl9,ACl9]);exact hK _ _ ⟨rfl,rfl⟩ S X V w2 m _ _ (hfin.2.went hfin.1.slt) (Zfb m) hstep
end
def BYa9 (P:Program) (s:RS) (o o':Oper) (K:RS→Prop):Prop:=
 match o.op,o.dst,o'.op with
 | .slice t x (some lo) none none,some d, .call c=>match c.callee,c.args[0]?,c.argTypes[0]? with
  | .builtin .clear,some (Operand.tmp d'),some t'=>match evalA s.tm x,evalA s.tm lo,P.underlying t with
   | .gref g ver n k, .d (.s (.int _ j)),some (.slice e)=>match P.info? e,s.hp[g]? with
    | some i,some blk=>match zrow i with
     |some zr=>BIf (o.guard.isNone&&(o'.guard.isNone&&(Nat.beq d d'&&(Nat.beq t t'&&(Nat.beq c.args.size 1&&(Nat.beq c.argTypes.size 1&&(Nat.blt d s.tm.length&&(blk.grow&&(!blk.fro&&(Nat.beq k i.size&&(Nat.beq zr.length i.size&&(Nat.blt 0 i.size&&(zr.map AV.d).all AV.one))))))))))))
      (blk.ver=ver∧BIf (decide (0≤j)&&decide (j≤n)) (K {tm:=putA (putA s.tm (some d) .bad) o'.dst .bad,hp:=s.hp.set g (AMt9 blk j.toNat n i.size zr),pv:= []}) False) False
     |none=>False
    |_,_=>False
   |_,_,_=>False
  |_,_,_=>False
 |_,_,_=>False
def BEu9 {β:Type} (P:Program) (X:CX β) (ops:Array Oper) (tm:List AV) (hp:List Blk) (b:β) (K:List AV→List Blk→β→Prop):Prop:=
 match ops.toList.reverse with
 |o'::o::l=>opsC P X ops l.reverse ⟨tm,hp, []⟩ b fun s b=>BYa9 P s o o' fun s=>K s.tm s.hp b
 |_=>False
def wlZ {β:Type} (P:Program) (X:CX β) (wl:WLT β):WLT β
 | .region id ops false,tm,hp,b,K=>BEu9 P X ops tm hp b (K .normal)
 |c,tm,hp,b,K=>wl c tm hp b K
section
variable {P:Program} {Ev:Env P} {X:CX Ev.β} {ops:Array Oper} {o o':Oper} {s:RS} {b:Ev.β}
theorem CEh9 {α:Type} {l:Array α} {x:α} (h0:l[0]? =some x) (h1:l.size=1):l=#[x]:=by
 apply Array.ext_getElem?;intro j
 match j with
 |0=>simpa using h0
 |j+1=>simp [Array.getElem?_eq_none (by omega:l.size≤j+1)]
theorem AVh9 {K:RS→Prop} (h:BYa9 P s o o' K):LOps Ev ops [o,o'] s b fun s' b'=>K s'∧b'=b:=by
 unfold BYa9 at h;split at h<;>try exact h.elim
 rename_i t x lo d c ho hod ho';split at h<;>try exact h.elim
 rename_i d' t' hcal ha hat;split at h<;>try exact h.elim
 rename_i g ver n k kk j e hx hj hu;split at h<;>try exact h.elim
 rename_i i blk hi hg;split at h<;>try exact h.elim
 rename_i zr hz;obtain ⟨hc,hver,h⟩:=h.elim';obtain ⟨hjn,hK⟩:=h.elim';simp only [Zal,Option.isNone_iff_eq_none,Bool.not_eq_true',decide_eq_true_eq] at hc hjn;obtain ⟨c1,c2,c3,c4,c5,c6,c7,c8,c9,c10,c11,c12,c13⟩:=hc;have c3:=Zdz c3;have c4:=Zdz c4;have c10:=Zdz c10;subst c3 c4 c10;have ea:=CEh9 ha (Zdz c5);have eat:=CEh9 hat (Zdz c6);have ho2:o'.op= .call {callee:= .builtin .clear,args:=#[.tmp d],argTypes:=#[t]}:=by
  rw [ho'];obtain ⟨q1,q2,q3⟩:=c;simp only at hcal ea eat;subst hcal ea eat;rfl
 have:=BHp9 (Ev:=Ev) (ops:=ops) (s:=s) (b:=b) ho c1 hod ho2 c2 (by rw [←Nat.blt_eq];exact c7) hu hi hx hj hg c8 hver c9 hjn.1 hjn.2 hz (Zdz c11) (by rw [←Nat.blt_eq];exact c12) c13;intro lo r S X V w m B hv a Q ht hKK;refine this lo r S X V w m B hv a Q ht ?_;rintro s' b' ⟨rfl,rfl⟩;exact hKK _ _ ⟨hK,rfl⟩
theorem CAu9 {wl} (hX:X.Ok) (hwl:∀c tm hp b K,wl c tm hp b K→W Ev c ⟨tm,hp,b⟩ (fun e s=>K e s.tm s.hp s.b)):∀c tm hp b K,wlZ P X wl c tm hp b K→W Ev c ⟨tm,hp,b⟩ (fun e s=>K e s.tm s.hp s.b):=by
 intro c tm hp b K h;cases c with
 | region id ops d=>
  cases d with
  |true=>exact hwl _ _ _ _ _ h
  | false=>
   have h:BEu9 P X ops tm hp b (K .normal):=h;unfold BEu9 at h;split at h
   ·rename_i o' o l hl;refine W.ofLOps ?_;have e:ops.toList=l.reverse++ [o,o']:=by
     have:=congrArg List.reverse hl;simpa using this
    rw [e];refine LOps.append (AGl9 hX h fun s' b' h=> ?_);have:=AVh9 (Ev:=Ev) (ops:=ops) (b:=b') h;intro lo r S X V w m B hv a Q ht hKK;refine this lo r S X V w m B hv a Q ht ?_;rintro s'' b'' ⟨h1,rfl⟩;exact hKK _ _ h1
   ·exact h.elim
 |_=>exact hwl _ _ _ _ _ h
end
open Go.Maps (Keyed)
open Go.WideElems (Fit rd rg pl rd_key rd_val rg_of)
open Go.ChangeMaps Go.MapKept Go.WideShapes
structure AFz9 where
 b:Nat
 r:Nat
 k:TypeId
 es:MC
 left:Lit→Bool
 cnt:Nat
 cur:Option Lit
def AOi9 (P:Program) (S:Pr) (w:World) (c:AFz9):Prop:=
 ∃ L es clock since seen c0,w.heap[c.b]? =some (.map es clock)∧Fit P c.k heldR es clock∧DataW.map L= .map ((es.toList.map (rg P c.k heldR)).foldr DataW.insert [])∧
  w.heap[c.r]? =some (.mapIter (some c.b) since seen c0)∧(∀x∈es.toList,x.born<since)∧(leftOf es seen).size=c.cnt∧
  (∀x∈es.toList,c.left (rg P c.k heldR x).1= !seen.contains x.born)∧(∀kl,c.left kl=true→∃x∈es.toList,(rg P c.k heldR x).1=kl)∧since≤c0∧since≤clock∧Ents S w c.es L∧
  (∀kl,c.cur=some kl→∃e∈es.toList,∃s0:Array Nat,seen=s0.push e.born∧c0=clock∧(rg P c.k heldR e).1=kl)
section
variable {P:Program} {S S' X X' V V':Pr} {w w' w0:World} {L:Nat→Prop} {Ev:Env P} {lo:Nat} {r:Option Nat} {m:List MB} {B:List (AV×Value)} {hv:List (List Value)} {s:RS} {a:Act} {yl:Option Nat} {N:Nat} {lent:List Nat} {γ:Type} {f:γ→List MapC} {o:Oper}
theorem AOi9.mono {c} (h:AOi9 P S w c) (ho:∀(d:Nat) (o:Obj),ANj9 o=true→w.heap[d]? =some o→w'.heap[d]? =some o) (hv:∀x v,RV S w [] none x v→RV S' w' [] none x v):AOi9 P S' w' c:=by
 obtain ⟨L,es,cl,since,seen,c0,h1,h2,h4,h5,h6,h7,h8,h9,h10,h11,h12,h13⟩:=h;exact ⟨L,es,cl,since,seen,c0,ho _ _ rfl h1,h2,h4,ho _ _ rfl h5,h6,h7,h8,h9,h10,h11,h12.mono hv,h13⟩
def Env.rngd (P:Program) (yl:Option Nat) (N:Nat) (w0:World) (lent:List Nat) {γ:Type} (f:γ→List MapC):Env P:=
 { β:=γ×Option AFz9,N:=N,yl:=yl,L:=fun x=>x=0,E:=fun g S _ w=>MapsE P N w0 lent (f g.1) S w∧∀c,g.2=some c→AOi9 P S w c∧N≤c.r,Y:=fun _ _ _=>False,Llt:=fun h=>by omega,Ymono:=fun h _=>h,
   stable:=fun h ht=>⟨h.1.tr ht,fun c hc=>⟨(h.2 c hc).1.mono (fun b o hm h1=>(ht.objs b _ h1 (AMe9 hm)).resolve_right fun h=>h.elim (fun h=>h.1) fun h=>h.1) fun x v hx=>hx.tr ht,(h.2 c hc).2⟩⟩,
   stableO:=fun {b S V w d o} o' h _ hd ho hm=>⟨h.1.putObj o' hd ho hm,fun c hc=>⟨(h.2 c hc).1.mono (fun b o1 hm1 h1=>by
    have hne:b≠d:=by rintro rfl;rw [hd] at h1;cases h1;rw [hm] at hm1;cases hm1
    rw [Zcr hne];exact h1) fun x v hx=>hx.putObj hd ho h.1.lt,(h.2 c hc).2⟩⟩,
   yok:=fun h=>h.elim}
theorem EnvOk.lift {g} {T:RS→γ→Prop} (h:EnvOk (Env.mapped P yl N w0 lent f) o s g T):EnvOk (Env.rngd P yl N w0 lent f) o s (g,none) (fun s' b'=>b'.2=none∧T s' b'.1):=by
 intro lo r S X V w m B hv a K Q ht hK;refine h lo r S X V w m B hv a K Q ⟨ht.rel,ht.sub,ht.env.1,ht.round,ht.marks,ht.base⟩ fun s' g' hT S' X' V' w' m' hv' a' hw hm ht'=> ?_;exact hK s' (g',none) ⟨rfl,hT⟩ S' X' V' w' m' hv' a' hw hm ⟨ht'.rel,ht'.sub,⟨ht'.env,fun c hc=>by cases hc⟩,ht'.round,ht'.marks,ht'.base⟩
theorem W.forget {c} {tm} {hp} {g} {Q} (h:W (Env.rngd P yl N w0 lent f) c ⟨tm,hp,(g,none)⟩ fun e s'=>Q e ⟨s'.tm,s'.hp,s'.b.1⟩):W (Env.mapped P yl N w0 lent f) c ⟨tm,hp,g⟩ Q:=by
 intro lo r S X V w m B hv a ht;refine wpIn_mono (h lo r S X V w m B hv a ⟨ht.rel,ht.sub,⟨ht.env,fun c hc=>by cases hc⟩,ht.round,ht.marks,ht.base⟩) ?_;rintro e a' w' ⟨s',S',X',V',m',hv',hq,hw,ht'⟩;exact ⟨⟨s'.tm,s'.hp,s'.b.1⟩,S',X',V',m',hv',hq,hw,⟨ht'.rel,ht'.sub,ht'.env.1,ht'.round,ht'.marks,ht'.base⟩⟩
theorem AWd9 {c:AFz9} {cl:MapC} (h:MapIs P S w cl):∃L es clock,w.heap[cl.b]? =some (.map es clock)∧Fit P cl.k heldR es clock∧DataW.map L= .map ((es.toList.map (rg P cl.k heldR)).foldr DataW.insert [])∧Ents S w cl.es L:=by
 obtain ⟨L,⟨es,clock,h1,h2,h3,h4⟩,h5⟩:=h;exact ⟨L,es,clock,h1,h2,h4,h5⟩
theorem BMx9 {g} {c} {t e:TypeId} {mo:Operand} (hop:o.op= .range t mo) (hc:c∈f g) (hm:evalA s.tm mo= .d (.s (.map (some c.b)))) (K:Keyed P c.k) (ht:P.underlying t=some (.map c.k e)):
 EnvOk (Env.rngd P yl N w0 lent f) o s (g,none) fun s' b'=>∃d,s'= {tm:=putA s.tm o.dst (.d (.s (.pointer (some ⟨d,0,none⟩)))),hp:=s.hp,pv:=pvPut s.pv o.dst}∧b'=(g,some ⟨c.b,d,c.k,c.es,fun kl=>hasK kl c.es,c.es.length,none⟩):=by
 intro lo r S X V w m B hv a K' Q h hK;obtain ⟨L,es,clock,hb,F,hD,hent⟩:=AWd9 (c:=⟨0,0,0, [],fun _=>false,0,none⟩) (h.env.1.is c hc);have hlt:c.b<w.heap.size:=(Zao.1 hb).1;have hme:=ABi9 (x:=evalA s.tm mo) (by rw [hm];rfl) (AAf9 h.rel mo);have hbel:Below w.heap.size w (w.alloc (.mapIter (some c.b) clock #[] clock)):=(Below.refl _ _).alloc (Zat _) _;have hG:=Gs.below h.rel.2.1 hbel ⟨fun _ _ h=>h,fun _ _ h=> .inl h⟩;have hrel:=h.rel.2.1.below hbel (fun _ _ h=>h) (fun _ _ h=> .inl h);have h1:Tie (Env.rngd P yl N w0 lent f) lo r S X V (w.alloc (.mapIter (some c.b) clock #[] clock)) m B hv s (g,none) a:=h.step hG ⟨h.rel.1,hrel,h.rel.2.2⟩ rfl;have hE:=h1.env.1;obtain ⟨L',hown,hent'⟩:=hE.is c hc;have hb':(w.alloc (.mapIter (some c.b) clock #[] clock)).heap[c.b]? =some (.map es clock):=((MapKept.heap_alloc w _).2 c.b hlt).trans hb;have hD':L'=L:=by
  obtain ⟨es',cl',e1,_,_,e4⟩:=hown;rw [hb'] at e1;cases e1;have:=e4.trans hD.symm;exact DataW.map.inj this
 rw [hD'] at hent';have hhas:∀kl,Maps.has (DataW.map L) kl=hasK kl c.es:=fun kl=>hent.has kl;have hlen:L.length=es.size:=by
  have:=DataW.map.inj hD;rw [this,length_sorted];simp
 have hR:AOi9 P S (w.alloc (.mapIter (some c.b) clock #[] clock)) ⟨c.b,w.heap.size,c.k,c.es,fun kl=>hasK kl c.es,c.es.length,none⟩:=by
  refine ⟨L,es,clock,clock,#[],clock,hb',F,hD,(MapKept.heap_alloc w _).1,F.stamped.1, ?_, ?_, ?_,Zat _,Zat _,hent',fun kl hk=>by cases hk⟩
  ·have:(leftOf es #[]).size=es.size:=by simp [leftOf]
   rw [this,←hlen,hent.length]
  ·intro x hx;obtain ⟨y,hy⟩:=F.reads x hx;have h2:Maps.has (DataW.map L) (rg P c.k heldR x).1=true:=by
    rw [hD];exact List.any_eq_true.2 ⟨rg P c.k heldR x,mem_sorted.2 (Zbf.2 ⟨x,hx,rfl⟩),WideAt.sameKey_self (by rw [rg_of hy];exact K.key (rd_key hy))⟩
   show hasK (rg P c.k heldR x).1 c.es=_;rw [←hhas,h2];simp
  ·intro kl hkl;have hkl:hasK kl c.es=true:=hkl;rw [←hhas,hD] at hkl;obtain ⟨p,hp,hpk⟩:=List.any_eq_true.1 hkl;obtain ⟨x,hx,rfl⟩:=Zbf.1 (mem_sorted.1 hp);exact ⟨x,hx,WideAt.sameKey_eq hpk⟩
 have h2:Tie (Env.rngd P yl N w0 lent f) lo r S X V (w.alloc (.mapIter (some c.b) clock #[] clock)) m B hv s (g,some ⟨c.b,w.heap.size,c.k,c.es,fun kl=>hasK kl c.es,c.es.length,none⟩) a:=
  ⟨h1.rel,h1.sub,⟨hE,fun c' hc'=>by cases hc';exact ⟨hR,Nat.le_trans h.base.1 h.base.2⟩⟩,h1.round,h1.marks,h1.base⟩
 refine AAp9 (w':=w.alloc (.mapIter (some c.b) clock #[] clock)) (v:= .pointer (some ⟨w.heap.size,0,none⟩)) (nx:= .value (.pointer (some ⟨w.heap.size,0,none⟩))) (by rw [hop];intro _ h;cases h) ?_ (.inl rfl) ?_
 ·unfold execOp;simp only [hop,hme];simp [run_range_map w t c.k e c.b es clock ht hb,Result.andThen]
 ·have hx:RV S (w.alloc (.mapIter (some c.b) clock #[] clock)) [] none (.d (.s (.pointer (some ⟨w.heap.size,0,none⟩)))) (.pointer (some ⟨w.heap.size,0,none⟩)):= .d (.s _);exact hK _ _ ⟨w.heap.size,rfl,rfl⟩ S X V _ m hv _ (hG.went h1.rel.slt) (Zfb m)
   ⟨⟨by rw [AAx9,ADe9];exact h2.rel.1,(h2.rel.2.1.cons hx.opened.view (AAt9 _ _)).putTmp h2.rel.1 o.dst,ACn9 h2.rel.2.2 o.dst _⟩,h2.sub,h2.env,h2.round,by rw [ACl9];exact h2.marks,h2.base⟩
theorem BEc9 (hS:∀b i,S b i→b<w.heap.size) {d} {bb} {since c0 c1} {s0 s1} (hd:w.heap[d]? =some (Obj.mapIter bb since s0 c0)):Tr X (fun x=>x=0) S w S (w.putObj d (.mapIter bb since s1 c1)):=by
 have h:=AIc9 (Z:=X) (o':= .mapIter bb since s1 c1) hd rfl hS;refine ⟨rfl,rfl,rfl,h.size,h.cells,fun b o hb ho=> ?_,h.same,h.up,h.new,h.lt⟩;by_cases hbd:b=d
 ·subst hbd;rw [hd] at hb;cases hb;exact .inr (.inr ⟨rfl,_,World.putObj_heap_same (Zao.1 hd).1, .iter bb since s0 c0 s1 c1⟩)
 ·rw [Zcr hbd];exact .inl hb
theorem Tie.putIter {b b':γ×Option AFz9} (h:Tie (Env.rngd P yl N w0 lent f) lo r S X V w m B hv s b a) {d} {bb} {since c0 c1} {s0 s1} (hd:w.heap[d]? =some (Obj.mapIter bb since s0 c0))
 (hE:(Env.rngd P yl N w0 lent f).E b' S V (w.putObj d (.mapIter bb since s1 c1))):Tie (Env.rngd P yl N w0 lent f) lo r S X V (w.putObj d (.mapIter bb since s1 c1)) m B hv s b' a:=by
 refine ⟨⟨h.rel.1,h.rel.2.1.putObj hd rfl,h.rel.2.2⟩,h.sub,hE,fun l0 hl0=> ?_, ?_,h.base.1,by simpa using h.base.2⟩
 ·obtain ⟨rc,h1⟩:=h.round l0 hl0;exact ⟨rc,ABk9 h1 (by rintro rfl;rw [hd] at h1;cases h1)⟩
 ·obtain ⟨bs,h1,h2,h3⟩:=h.marks;refine ⟨bs,h1,h2,fun b hb=>⟨(h3 b hb).1,ABk9 (h3 b hb).2 ?_⟩⟩;rintro rfl;have h4:=(h3 _ hb).2;rw [hd] at h4;cases h4
theorem MapsE.putIter {β} (h:MapsE P N w0 lent β S w) {d} {bb} {since c0 c1} {s0 s1} (hd:w.heap[d]? =some (Obj.mapIter bb since s0 c0)) (hN:N≤d):MapsE P N w0 lent β S (w.putObj d (.mapIter bb since s1 c1)):=
 ⟨fun c hc=>(h.is c hc).mono (fun es cl h1=>by
  have hne:c.b≠d:=by rintro e;rw [e,hd] at h1;cases h1
  rw [Zcr hne];exact h1) fun x v hx=>hx.putObj hd rfl h.lt,
  h.nd,h.mine,fun b o h1 h2 hm h3=>by rw [Zcr (by omega)];exact h.kept b o h1 h2 hm h3,fun b i h1=>by simpa using h.lt b i h1⟩
theorem Tie.drew1 {Ev:Env P} {b:Ev.β} (h:Tie Ev lo r S X V w m B hv s b a):Tie Ev lo r S X V w.drew m B hv s b a:=by
 have hb:Below w.heap.size w w.drew:=⟨rfl,rfl,rfl,Zat _,fun _ _=>rfl⟩;exact h.step (Gs.below h.rel.2.1 hb ⟨fun _ _ h=>h,fun _ _ h=> .inl h⟩) ⟨h.rel.1,h.rel.2.1.below hb (fun _ _ h=>h) (fun _ _ h=> .inl h),h.rel.2.2⟩ rfl
theorem BWc9 {g} {c} {io} (hop:o.op= .next io false) (hm:evalA s.tm io= .d (.s (.pointer (some ⟨c.r,0,none⟩)))) (K:Keyed P c.k) (hkey:∀key kl,keyOf P c.k key=some kl→∃n,kl= .int .i64 n∧key= .int .i64 n) {z} {zv} (hzv:∀S w,RV S w [] none z zv):
 EnvOk (Env.rngd P yl N w0 lent f) o s (g,some c) fun s' b'=>(s'= {tm:=putA s.tm o.dst (.tup [.d (.s (.bool false))]),hp:=s.hp,pv:=pvPut s.pv o.dst}∧b'=(g,some c)∧∀kl,c.left kl=false)∨
  ∃ n cnt',c.left (.int .i64 n)=true∧hasK (.int .i64 n) c.es=true∧cnt'<c.cnt∧s'= {tm:=putA s.tm o.dst (.tup [.d (.s (.bool true)), .d (.s (.int .i64 n)),atK (.int .i64 n) z c.es]),hp:=s.hp,pv:=pvPut s.pv o.dst}∧
   b'=(g,some {c with left:=fun x=>c.left x&& !x.sameKey (.int .i64 n),cnt:=cnt',cur:=some (.int .i64 n)}):=by
 intro lo r S X V w m B hv a K' Q h hK;obtain ⟨hE,hR⟩:=h.env;obtain ⟨hR,hN⟩:=hR c rfl;have hRR:=hR;obtain ⟨L,es,clock,since,seen,c0,hb,F,hD,hr,hold,hcnt,hl1,hl2,hsc,hsk,hent,hcur⟩:=hR;have hme:=ABi9 (x:=evalA s.tm io) (by rw [hm];rfl) (AAf9 h.rel io);have hne:c.r≠c.b:=by rintro e;rw [e,hb] at hr;cases hr
 have hview:∀x:List AV,(AV.tup x).view= .tup x:=fun _=>rfl;rcases run_next_at (P:=P) w o.type c.r c.b since c0 seen es clock hr hb hold hsc with ⟨h0,hrun⟩|⟨e,he,w1,hal,hrun⟩
 ·refine AAp9 (w':=w) (v:= .tuple #[.bool false]) (nx:= .value (.tuple #[.bool false])) (by rw [hop];intro _ h;cases h) ?_ (.inl rfl) ?_
  ·unfold execOp;simp only [hop,hme];simp [hrun,Result.andThen]
  ·have hx:RV S w [] none (.tup [.d (.s (.bool false))]) (.tuple #[.bool false]):= .tup rfl fun i c' v' h5 h6=>by
    match i with
    |0=>simp at h5 h6;subst h5 h6;exact .d (.s _)
    |i+1=>simp at h5
   refine hK _ _ (.inl ⟨rfl,rfl,fun kl=> ?_⟩) S X V w m hv _ (Went.refl h.rel.slt) (Zfb m)
    ⟨⟨by rw [AAx9,ADe9];exact h.rel.1,(h.rel.2.1.cons hx.opened (by simp [ownB])).putTmp h.rel.1 o.dst,ACn9 h.rel.2.2 o.dst _⟩,h.sub,h.env,h.round,by rw [ACl9];exact h.marks,h.base⟩
   cases hk:c.left kl
   ·rfl
   ·obtain ⟨x,hx,rfl⟩:=hl2 kl hk;rw [hl1 x hx,all_seen es seen h0 x hx] at hk;cases hk
 ·obtain ⟨hem,hes⟩:=mem_left he;obtain ⟨y0,hy0⟩:=F.reads e hem;obtain ⟨zz,hz,hzd⟩:=rd_val hy0;have hk0:=rd_key hy0;have hrg:(rg P c.k heldR e).1=y0.1:=by rw [rg_of hy0]
  obtain ⟨n,hn1,hn2⟩:=hkey _ _ hk0;have hr1:w1.heap[c.r]? =some (.mapIter (some c.b) since seen c0):=by rcases hal with rfl|rfl<;>exact hr
  have hb1:w1.heap[c.b]? =some (.map es clock):=by rcases hal with rfl|rfl<;>exact hb
  have h1:Tie (Env.rngd P yl N w0 lent f) lo r S X V w1 m B hv s (g,some c) a:=by
   rcases hal with rfl|rfl
   ·exact h
   ·exact h.drew1
  have hGw:Went (fun x=>x=0) S X V w S X V w1:=by
   rcases hal with rfl|rfl
   ·exact Went.refl h.rel.slt
   ·have hbl:Below w.heap.size w w.drew:=⟨rfl,rfl,rfl,Zat _,fun _ _=>rfl⟩;exact (Gs.below h.rel.2.1 hbl ⟨fun _ _ h=>h,fun _ _ h=> .inl h⟩).went h1.rel.slt
  obtain ⟨hE1,hR1⟩:=h1.env;obtain ⟨L1,es1,clock1,since1,seen1,c01,hb1',F1,hD1,_,_,_,_,_,_,_,hent1,_⟩:=(hR1 c rfl).1;have hL1:L1=L∧es1=es∧clock1=clock:=by
   rw [hb1] at hb1';cases hb1';exact ⟨DataW.map.inj (hD1.trans hD.symm),rfl,rfl⟩
  obtain ⟨rfl,rfl,rfl⟩:=hL1;have hb2:(w1.putObj c.r (.mapIter (some c.b) since (seen.push e.born) clock1)).heap[c.b]? =some (.map es1 clock1):=by rw [Zcr (fun e1=>hne e1.symm)];exact hb1
  have hr2:(w1.putObj c.r (.mapIter (some c.b) since (seen.push e.born) clock1)).heap[c.r]? =some (.mapIter (some c.b) since (seen.push e.born) clock1):=World.putObj_heap_same (Zao.1 hr1).1;have hes1:∀x v,RV S w1 [] none x v→RV S (w1.putObj c.r (.mapIter (some c.b) since (seen.push e.born) clock1)) [] none x v:=fun x v hx=>hx.putObj hr1 rfl hE1.lt;have hent2:Ents S (w1.putObj c.r (.mapIter (some c.b) since (seen.push e.born) clock1)) c.es L1:=hent1.mono hes1;have hRn:AOi9 P S (w1.putObj c.r (.mapIter (some c.b) since (seen.push e.born) clock1)) {c with left:=fun x=>c.left x&& !x.sameKey (.int .i64 n),cnt:=(leftOf es1 (seen.push e.born)).size,cur:=some (.int .i64 n)}:=by
   refine ⟨L1,es1,clock1,since,seen.push e.born,clock1,hb2,F,hD,hr2,hold,rfl,fun x hx=> ?_,fun kl hkl=>hl2 kl (by simp at hkl;exact hkl.1),hsk,hsk,hent2,fun kl hk=>⟨e,hem,seen,rfl,rfl, ?_⟩⟩
   ·show (c.left (rg P c.k heldR x).1&& !(rg P c.k heldR x).1.sameKey (.int .i64 n))=_;rw [hl1 x hx,←hn1,←hrg,same_iff_born K F hx hem,contains_push];cases seen.contains x.born<;>cases (x.born==e.born)<;>rfl
   ·cases hk;rw [hrg,hn1]
  have h2:Tie (Env.rngd P yl N w0 lent f) lo r S X V (w1.putObj c.r (.mapIter (some c.b) since (seen.push e.born) clock1)) m B hv s (g,some {c with left:=fun x=>c.left x&& !x.sameKey (.int .i64 n),cnt:=(leftOf es1 (seen.push e.born)).size,cur:=some (.int .i64 n)}) a:=
   h1.putIter hr1 ⟨hE1.putIter hr1 hN,fun c' hc'=>by cases hc';exact ⟨hRn,hN⟩⟩
  obtain ⟨v,hv1,hv2⟩:=hent2.at (.int .i64 n) (hzv S (w1.putObj c.r (.mapIter (some c.b) since (seen.push e.born) clock1)));have hval:v=e.val:=by
   have h3:(DataW.map L1).atKey y0.1 (.held zv)=y0.2:=by
    rw [hD,(atKey_sorted (es1.toList.map (rg P c.k heldR)) (Maps.fit_rising K F) y0.1 (K.key hk0)).2 (rg P c.k heldR e) (Zbf.2 ⟨e,hem,rfl⟩) hrg,rg_of hy0]
   rw [hn1] at h3;rw [h3] at hv1;rw [hzd] at hv1;have hz':zz=(.held e.val, []):=(Option.some.inj hz).symm;rw [hz'] at hv1;cases hv1;rfl
  have hx:RV S (w1.putObj c.r (.mapIter (some c.b) since (seen.push e.born) clock1)) [] none (.tup [.d (.s (.bool true)), .d (.s (.int .i64 n)),atK (.int .i64 n) z c.es]) (.tuple #[.bool true,e.key,e.val]):= .tup rfl fun i c' v' h5 h6=>by
   match i with
   |0=>simp at h5 h6;subst h5 h6;exact .d (.s _)
   |1=>simp at h5 h6;subst h5 h6;rw [hn2];exact .d (.s _)
   |2=>simp at h5 h6;subst h5 h6;rw [←hval];exact hv2
   |i+3=>simp at h5
  have hhas:hasK (.int .i64 n) c.es=true:=by
   rw [←hent.has,hD];exact List.any_eq_true.2 ⟨rg P c.k heldR e,mem_sorted.2 (Zbf.2 ⟨e,hem,rfl⟩),by rw [←hn1,←hrg];exact WideAt.sameKey_self (by rw [hrg];exact K.key hk0)⟩
  refine AAp9 (w':=w1.putObj c.r (.mapIter (some c.b) since (seen.push e.born) clock1)) (v:= .tuple #[.bool true,e.key,e.val]) (nx:= .value (.tuple #[.bool true,e.key,e.val])) (by rw [hop];intro _ h;cases h) ?_ (.inl rfl) ?_
  ·unfold execOp;simp only [hop,hme];have hrun':(Instr.next (.pointer (some ⟨c.r,0,none⟩)) false o.type).run P w= .ok (.tuple #[.bool true,e.key,e.val]) (w1.putObj c.r (.mapIter (some c.b) since (seen.push e.born) clock1)):=hrun;simp [hrun',Result.andThen]
  ·refine hK _ _ (.inr ⟨n,(leftOf es1 (seen.push e.born)).size, ?_,hhas, ?_,rfl,rfl⟩) S X V _ m hv _ (hGw.trans ⟨BEc9 h1.rel.slt hr1,fun _ _ h=>h,fun _ _ h=> .inl h⟩) (Zfb m)
    ⟨⟨by rw [AAx9,ADe9];exact h2.rel.1,(h2.rel.2.1.cons hx.opened (by simp [ownB])).putTmp h2.rel.1 o.dst,ACn9 h2.rel.2.2 o.dst _⟩,h2.sub,h2.env,h2.round,by rw [ACl9];exact h2.marks,h2.base⟩
   ·rw [←hn1,←hrg,hl1 e hem,hes];rfl
   ·rw [←hcnt];exact left_shrinks es1 seen e he
theorem BOh9 {g} {c} {io} {n} (hop:o.op= .entry io) (hm:evalA s.tm io= .d (.s (.pointer (some ⟨c.r,0,none⟩)))) (K:Keyed P c.k) (hkey:∀key kl,keyOf P c.k key=some kl→∃n,kl= .int .i64 n∧key= .int .i64 n) (hc:c.cur=some (.int .i64 n)) {z} {zv} (hzv:∀S w,RV S w [] none z zv):
 EnvOk (Env.rngd P yl N w0 lent f) o s (g,some c) fun s' b'=>s'= {tm:=putA s.tm o.dst (.tup [.d (.s (.int .i64 n)),atK (.int .i64 n) z c.es]),hp:=s.hp,pv:=pvPut s.pv o.dst}∧b'=(g,some c):=by
 intro lo r S X V w m B hv a K' Q h hK;obtain ⟨hE,hR⟩:=h.env;obtain ⟨hR,hN⟩:=hR c rfl;obtain ⟨L,es,clock,since,seen,c0,hb,F,hD,hr,hold,hcnt,hl1,hl2,hsc,hsk,hent,hcur⟩:=hR;obtain ⟨e,hem,s0,rfl,rfl,he⟩:=hcur _ hc;have hme:=ABi9 (x:=evalA s.tm io) (by rw [hm];rfl) (AAf9 h.rel io);obtain ⟨y0,hy0⟩:=F.reads e hem;obtain ⟨zz,hz,hzd⟩:=rd_val hy0;have hk0:=rd_key hy0;have hrg:(rg P c.k heldR e).1=y0.1:=by rw [rg_of hy0]
 obtain ⟨n',hn1,hn2⟩:=hkey _ _ hk0;have hnn:n'=n:=by rw [hrg,hn1] at he;cases he;rfl
 subst hnn;have hrun:=run_entry_at (P:=P) w c.r c.b since s0 es c0 e hr hb hem ((stamped_iff es c0).1 F.stamped).2.1;obtain ⟨v,hv1,hv2⟩:=hent.at (.int .i64 n') (hzv S w);have hval:v=e.val:=by
  have h3:(DataW.map L).atKey y0.1 (.held zv)=y0.2:=by
   rw [hD,(atKey_sorted (es.toList.map (rg P c.k heldR)) (Maps.fit_rising K F) y0.1 (K.key hk0)).2 (rg P c.k heldR e) (Zbf.2 ⟨e,hem,rfl⟩) hrg,rg_of hy0]
  rw [hn1] at h3;rw [h3] at hv1;rw [hzd] at hv1;have hz':zz=(.held e.val, []):=(Option.some.inj hz).symm;rw [hz'] at hv1;cases hv1;rfl
 have hx:RV S w [] none (.tup [.d (.s (.int .i64 n')),atK (.int .i64 n') z c.es]) (.tuple #[e.key,e.val]):= .tup rfl fun i c' v' h5 h6=>by
  match i with
  |0=>simp at h5 h6;subst h5 h6;rw [hn2];exact .d (.s _)
  |1=>simp at h5 h6;subst h5 h6;rw [←hval];exact hv2
  |i+2=>simp at h5
 refine AAp9 (w':=w) (v:= .tuple #[e.key,e.val]) (nx:= .value (.tuple #[e.key,e.val])) (by rw [hop];intro _ h;cases h) ?_ (.inl rfl) ?_
 ·unfold execOp;simp only [hop,hme];simp [hrun,Result.andThen]
 ·exact hK _ _ ⟨rfl,rfl⟩ S X V w m hv _ (Went.refl h.rel.slt) (Zfb m)
   ⟨⟨by rw [AAx9,ADe9];exact h.rel.1,(h.rel.2.1.cons hx.opened (by simp [ownB])).putTmp h.rel.1 o.dst,ACn9 h.rel.2.2 o.dst _⟩,h.sub,h.env,h.round,by rw [ACl9];exact h.marks,h.base⟩
theorem MCall.ofFnR {k n} {fn} {args} {g} {R} {T} {U} {u} (wl) (hm:P.follows .mixedOrders=true)
 (hT:AAb9 P T) (hS:AAl9 P U) (hwl:∀N w0 c tm hp b K,wl c tm hp b K→W (Env.rngd P none N w0 ((f g).map MapC.b) f) c ⟨tm,hp,b⟩ (fun e s=>K e s.tm s.hp s.b)) (hf:P.funcs[k]? =some fn) (hn:(fn.name== "runtime.NumGoroutine")=false) (hargs:args.map Zdg=args)
 (h:wpFn P ⟨T,U,wl,fun _ _ _=>False,u⟩ n fn args (g,none) fun x b=>R x b.1):MCall P f k args g R:=by
 cases hb:fn.body with
 | some c=>
  unfold wpFn at h;rw [hb] at h;refine MCall.ofW hf hb hn hargs fun N w0=>W.forget ?_;refine W.castPost (AAy9 hm (CX.Ok.ofWl (Ev:=Env.rngd P none N w0 ((f g).map MapC.b) f) hT hS (hwl N w0)) h fun e tm hp b hK=> ?_);exact ⟨tm,hp,LeL.refl _,LeH.refl _,AFw9 (Ev:=Env.rngd P none N w0 ((f g).map MapC.b) f) (R:=fun x b=>R x b.1) hK⟩
 | none=>
  unfold wpFn at h;rw [hb] at h;exact h.elim
end
def AWr9 (ops:Array Oper) (i k:Nat):Bool:=
 (Zbs ops.size).all fun j=>match ops[j]? with
  |some o=>(ABa9 o).all (fun e=>Nat.blt e j)&&(if Nat.ble i j&&Nat.blt j k then AEh9 o&&((o.looksAt ops).all (fun t=>(Zbs k).all fun j'=>Nat.blt j' i||match ops[j']? with
   |some o'=>o'.dst !=some t||(ABa9 o).contains j'
   |none=>true)&&(Zbs j).all fun j'=>Nat.blt j' i||match ops[j']? with
   |some o'=>o.dst==none||o'.dst !=o.dst
   |none=>true)
   else Nat.blt j k||(Zbs k).all fun j'=>(ancOf ops ops.size j).contains j')
  |none=>true
def cutOk (ops:Array Oper) (k:Nat):Bool:=
 (Zbs ops.size).all fun j=>match ops[j]? with
  |some o=>(ABa9 o).all (fun e=>Nat.blt e j)&&(Nat.blt j k||(Zbs k).all fun j'=>(ancOf ops ops.size j).contains j')
  |none=>true
def cutsC (ops:Array Oper):Nat→Nat→Nat→List (Nat×Nat)
 |0,_,_=> []
 |n+1,i,k=>if Nat.ble ops.size i then [] else if cutOk ops k then (i,k)::cutsC ops n k (k+1) else cutsC ops n i (k+1)
def AUo9 (ops:Array Oper):Nat→List (Nat×Nat)→Bool
 |i, []=>Nat.beq i ops.size
 |i,(a,k)::l=>Nat.beq a i&&(Nat.blt i k&&(Nat.ble k ops.size&&(cutOk ops k&&AUo9 ops k l)))
section
variable {P:Program} {S S' X:Pr} {r:Option Nat} {yv:Option Nat} {w w':World} {m m':List MB} {B:List (AV×Value)} {hp:List Blk} {hv hv':List (List Value)} {call:CallT} {a a':Act} {ops:Array Oper}
theorem AJr9 {i k j} {o} (h:AWr9 ops i k=true) (hj:ops[j]? =some o):
 (∀e∈ABa9 o,e<j)∧(i≤j→j<k→AEh9 o=true∧(∀t∈o.looksAt ops,∀j' o',i≤j'→j'<k→ops[j']? =some o'→o'.dst=some t→j'∈ABa9 o)∧(∀j' o',i≤j'→j'<j→ops[j']? =some o'→o.dst≠none→o'.dst≠o.dst))∧
 (k≤j→∀j',j'<k→j'∈ancOf ops ops.size j):=by
 have hjl:=(Zao.1 hj).1;have h1:=Zbk.1 h j (Zcs.2 hjl);rw [hj] at h1;simp only [Zal,Zbk] at h1;obtain ⟨h1,h2⟩:=h1;refine ⟨fun e he=>by have:=h1 e he;rwa [Nat.blt_eq] at this,fun hij hjk=> ?_,fun hkj j' hj'=> ?_⟩
 ·have hc:(Nat.ble i j=true∧Nat.blt j k=true):=⟨Nat.ble_eq_true_of_le hij,by rw [Nat.blt_eq];exact hjk⟩;rw [if_pos hc] at h2;simp only [Zal,Zbk,Zcs,Zfg] at h2;obtain ⟨h2,h3,h4⟩:=h2;refine ⟨h2,fun t ht j' o' h5 h6 h7 h8=> ?_,fun j' o' h5 h6 h7 h8 h9=> ?_⟩
  ·rcases h3 t ht j' h6 with h|h
   ·rw [Nat.blt_eq] at h;omega
   ·rw [h7] at h;simp only [Zfg,bne_iff_ne,ne_eq,List.contains_iff_mem] at h;exact h.resolve_left fun h=>h h8
  ·rcases h4 j' h6 with h|h
   ·rw [Nat.blt_eq] at h;omega
   ·rw [h7] at h;simp only [Zfg,beq_iff_eq,bne_iff_ne,ne_eq] at h;exact (h.resolve_left h8) h9
 ·have hc:¬(Nat.ble i j=true∧Nat.blt j k=true):=fun h=>by
   have:=h.2;rw [Nat.blt_eq] at this;omega
  rw [if_neg hc] at h2;simp only [Zfg,Zbk,Zcs,List.contains_iff_mem] at h2;rcases h2 with h|h
  ·rw [Nat.blt_eq] at h;omega
  ·exact h j' hj'
theorem CFr9 {k j} {o} (h:cutOk ops k=true) (hj:ops[j]? =some o):(∀e∈ABa9 o,e<j)∧(k≤j→∀j',j'<k→j'∈ancOf ops ops.size j):=by
 have hjl:=(Zao.1 hj).1;have h1:=Zbk.1 h j (Zcs.2 hjl);rw [hj] at h1;simp only [Zal,Zbk,Zfg,Zcs,List.contains_iff_mem] at h1;obtain ⟨h1,h2⟩:=h1;refine ⟨fun e he=>by have:=h1 e he;rwa [Nat.blt_eq] at this,fun hkj j' hj'=> ?_⟩;rcases h2 with h|h
 ·rw [Nat.blt_eq] at h;omega
 ·exact h j' hj'
theorem AQy9 {i0 k} (hd:AWr9 ops i0 k=true) (hk:k≤ops.size):∀c {i} {tm tmK},c=k - i→i0≤i→i≤k→xPre P call ops hp ((ops.toList.take k).drop i) tm=some tmK→
 (∀j o,i≤j→j<k→ops[j]? =some o→∃x,xp P call ops hp tmK o=some x∧∀d,o.dst=some d→d<tm.length→tmK[d]? =some x)∧
 (∀t,(∀j o,i≤j→j<k→ops[j]? =some o→o.dst≠some t)→tmK[t]? =tm[t]?)∧tmK.length=tm.length
 | 0,i,tm,tmK,hn,hi0,hi,hx=>by
  have hdrop:(ops.toList.take k).drop i= []:=List.drop_eq_nil_of_le (by simp;omega);rw [hdrop] at hx;simp only [xPre,Option.some.injEq] at hx;subst hx;exact ⟨fun j o h1 h2=>by omega,fun t _=>rfl,rfl⟩
 | c+1,i,tm,tmK,hn,hi0,hi,hx=>by
  have hil:i<ops.size:=by omega
  have hoi:ops[i]? =some ops[i]:=by simp [hil]
  have hdrop:(ops.toList.take k).drop i=ops[i]::(ops.toList.take k).drop (i+1):=by
   rw [List.drop_eq_getElem_cons (by simp;omega)];simp
  rw [hdrop] at hx;simp only [xPre] at hx;split at hx<;>try (cases hx;done)
  rename_i x hxp;obtain ⟨h1,h2,h3⟩:=AQy9 hd hk c (i:=i+1) (by omega) (by omega) (by omega) hx;obtain ⟨hedge,hst,_⟩:=AJr9 hd hoi;obtain ⟨hpure,hlook,_⟩:=hst hi0 (by omega);have hlen:(putA tm ops[i].dst x).length=tm.length:=AAx9 _ _ _;have hsame:∀t∈ops[i].looksAt ops,tmK[t]? =tm[t]? :=by
   intro t ht;have hno:∀j o,i≤j→j<k→ops[j]? =some o→o.dst≠some t:=by
    intro j o hij hjk ho hdst;have:=hedge j (hlook t ht j o (by omega) (by omega) ho hdst);omega
   rw [h2 t (fun j o hij hjk ho=>hno j o (by omega) hjk ho),ACw9 (hno i ops[i] (Zat _) (by omega) hoi)]
  refine ⟨fun j o hij hjk ho=> ?_,fun t ht=> ?_,h3.trans hlen⟩
  ·rcases Nat.eq_or_lt_of_le hij with rfl|hlt
   ·rw [hoi] at ho;cases ho;refine ⟨x,by rw [AJl9 (tm':=tm) (fun t ht=>AGq9 (hsame t ht))];exact hxp,fun d hdst hdl=> ?_⟩;rw [h2 d (fun j o hij hjk ho hdd=> ?_)]
    ·rw [hdst];simp [putA,hdl]
    ·have:=((AJr9 hd ho).2.1 (by omega) (by omega)).2.2 i ops[i] (by omega) (by omega) hoi (by rw [hdd];simp);exact this (by rw [hdst,hdd])
   ·obtain ⟨x',h4,h5⟩:=h1 j o (by omega) hjk ho;exact ⟨x',h4,fun d hdst hdl=>h5 d hdst (by rw [hlen];exact hdl)⟩
  ·rw [h2 t (fun j o hij hjk ho=>ht j o (by omega) hjk ho),ACw9 (ht i ops[i] (Zat _) (by omega) hoi)]
structure StInv (ops:Array Oper) (i k:Nat) (tm0 tmF tm:List AV) (listed:Array Bool):Prop where
 sz:listed.size=ops.size
 low:∀j,j<i→listed.getD j false=true
 far:∀j,k≤j→listed.getD j false=false
 down:∀j o',ops[j]? =some o'→listed.getD j false=true→∀e∈ABa9 o',listed.getD e false=true
 len:tm.length=tm0.length
 got:∀j o d,i≤j→j<k→ops[j]? =some o→o.dst=some d→listed.getD j false=true→tm[d]? =tmF[d]?
 old:∀t,(∀j o,i≤j→j<k→ops[j]? =some o→listed.getD j false=true→o.dst≠some t)→tm[t]? =tm0[t]?
theorem AZp9 {QQ} {i k} (hcall:AHz9 P call) (hd:AWr9 ops i k=true) (hik:i≤k) (hk:k≤ops.size) {tm0 tmK} (hx0:xPre P call ops hp ((ops.toList.take k).drop i) tm0=some tmK):
 ∀u {S} {w} {m} {hv} {a} {listed} {tm},u=(unl ops.size listed).length→StInv ops i k tm0 tmK tm listed→RelS S X yv w m B hv ⟨tm,hp, []⟩ a→
 Nx S X yv w m B ⟨tmK,hp, []⟩ a (fun a w=>∀listed:Array Bool,listed.size=ops.size→(∀j,j<ops.size→listed.getD j false=decide (j<k))→wpAnyIn (Fn r) 0 P .any ops QQ (ops.size - k) listed a w)→
 wpAnyIn (Fn r) 0 P .any ops QQ u listed a w:=by
 obtain ⟨spec,sp2,sp3⟩:=AQy9 (call:=call) (P:=P) (hp:=hp) hd hk (k - i) (i:=i) (tm:=tm0) (tmK:=tmK) rfl (Zat _) hik hx0;have hfin:∀ {listed:Array Bool} {tm:List AV},StInv ops i k tm0 tmK tm listed→(∀j,j<k→listed.getD j false=true)→tm=tmK:=by
  intro listed tm hI hall;apply List.ext_getElem?;intro t;by_cases hc:∃(j:Nat) (o:Oper),i≤j∧j<k∧ops[j]? =some o∧o.dst=some t
  ·obtain ⟨j,o,g0,g1,g2,g3⟩:=hc;exact hI.got j o t g0 g1 g2 g3 (hall j g1)
  ·rw [hI.old t (fun j o g0 g1 g2 _ g3=>hc ⟨j,o,g0,g1,g2,g3⟩),sp2 t (fun j o g0 g1 g2 g3=>hc ⟨j,o,g0,g1,g2,g3⟩)]
 have hcount:∀ {listed:Array Bool},listed.size=ops.size→(∀j,j<ops.size→listed.getD j false=decide (j<k))→(unl ops.size listed).length=ops.size - k:=by
  intro listed hs hlist;have e:unl ops.size listed=(Zbs ops.size).filter fun j=> !decide (j<k):=by
   unfold unl;refine List.filter_congr fun j hj=> ?_;rw [hlist j (Zcs.1 hj)]
  rw [e];have e2:Zbs ops.size=Zbs k++(Zbs (ops.size - k)).map (k+ ·):=by
   rw [←List.range_add];congr 1;omega
  rw [e2,List.filter_append];have e3:(Zbs k).filter (fun j=> !decide (j<k))= []:=by
   rw [List.filter_eq_nil_iff];intro j hj;have:=Zcs.1 hj;simp [this]
  rw [e3,List.filter_eq_self.2]
  ·simp
  ·intro j hj;obtain ⟨l,_,rfl⟩:=Zbf.1 hj;simp
 intro u;induction u with
 | zero=>
  intro S w m hv a listed tm hu hI hr hK;have hall:∀j,j<ops.size→listed.getD j false=true:=by
   intro j hj;cases hh:listed.getD j false with
   |true=>rfl
   | false=>
    have:j∈unl ops.size listed:=by simp only [unl,List.mem_filter,Zcs,hh];exact ⟨hj,rfl⟩
    rw [List.length_eq_zero_iff.1 hu.symm] at this;cases this
  have hkk:k=ops.size:=by
   rcases Nat.lt_or_ge k ops.size with h'|h'
   ·have:=hall _ h';rw [hI.far _ (Zat _)] at this;cases this
   ·omega
  have:=hfin hI fun j hj=>hall j (by omega);subst this;have:=hK S w m hv a (Gs.refl _ _ _ _ _) hr rfl rfl listed hI.sz (fun j hj=>by rw [hall j hj];simp;omega);rw [hkk,Nat.sub_self] at this;exact this
 | succ u ih=>
  intro S w m hv a listed tm hu hI hr hK;by_cases hdone:∀j,j<k→listed.getD j false=true
  ·have:=hfin hI hdone;subst this;have hlist:∀j,j<ops.size→listed.getD j false=decide (j<k):=by
    intro j hj;by_cases hjk:j<k
    ·rw [hdone j hjk];simp [hjk]
    ·rw [hI.far j (by omega)];simp [hjk]
   rw [hu,hcount hI.sz hlist];exact hK S w m hv a (Gs.refl _ _ _ _ _) hr rfl rfl listed hI.sz hlist
  ·have hex:∃j,j<k∧listed.getD j false=false:=by
    apply Classical.byContradiction;intro hno;exact hdone fun j hj=>by
     cases hh:listed.getD j false with
     |true=>rfl
     |false=>exact absurd ⟨j,hj,hh⟩ hno
   have hmin:∃j,j<k∧listed.getD j false=false∧∀i,i<j→listed.getD i false=true:=by
    obtain ⟨j,hj⟩:=hex;induction j using Nat.strongRecOn with
    | ind j ihj=>
     by_cases hall:∀i,i<j→listed.getD i false=true
     ·exact ⟨j,hj.1,hj.2,hall⟩
     ·have:∃i,i<j∧listed.getD i false=false:=by
       apply Classical.byContradiction;intro hno;exact hall fun i hi=>by
        cases hh:listed.getD i false with
        |true=>rfl
        |false=>exact absurd ⟨i,hi,hh⟩ hno
      obtain ⟨i,hi,hi0⟩:=this;exact ihj i hi ⟨by omega,hi0⟩
   obtain ⟨j0,hj0k,hj00,hj0all⟩:=hmin;have hgt:∀j,j<ops.size→listed.getD j true=listed.getD j false:=by
    intro j hj;simp [hI.sz,hj]
   have hmem:j0∈Region.ready .any ops listed:=by
    have hj0:j0<ops.size:=by omega
    refine ACv9 (o:=ops[j0]) (by simp [hj0]) (by rw [hgt j0 hj0];exact hj00) fun e he=> ?_;exact hj0all e ((AJr9 hd (by simp [hj0])).1 e he)
   refine ⟨fun h0=>(by rw [h0] at hmem;cases hmem),fun j hj=> ?_⟩;obtain ⟨oj,hoj,hj0,hje⟩:=ADd9 hj;have hjl:j<ops.size:=(Zao.1 hoj).1;rw [hgt j hjl] at hj0;have hjk:j<k:=by
    rcases Nat.lt_or_ge j k with h'|h'
    ·exact h'
    ·have:=AFf9 hI.down ops.size j oj hoj hje j0 ((AJr9 hd hoj).2.2 h' j0 (by omega));rw [hj00] at this;cases this
   have hij:i≤j:=by
    rcases Nat.lt_or_ge j i with h'|h'
    ·have:=hI.low j h';rw [hj0] at this;cases this
    ·exact h'
   obtain ⟨hedge,hst,_⟩:=AJr9 hd hoj;obtain ⟨hpk,hlk,huq⟩:=hst hij hjk;have hsame:∀t∈oj.looksAt ops,tm[t]? =tmK[t]? :=by
    intro t ht;by_cases hc:∃(j':Nat) (o:Oper),i≤j'∧j'<k∧ops[j']? =some o∧o.dst=some t
    ·obtain ⟨j',o,g0,g1,g2,g3⟩:=hc;exact hI.got j' o t g0 g1 g2 g3 (hje j' (hlk t ht j' o g0 g1 g2 g3))
    ·rw [hI.old t (fun j o g0 g1 g2 _ g3=>hc ⟨j,o,g0,g1,g2,g3⟩),sp2 t (fun j o g0 g1 g2 g3=>hc ⟨j,o,g0,g1,g2,g3⟩)]
   have hget:∀i,(listed.setIfInBounds j true).getD i false=(if i=j then true else listed.getD i false):=by
    intro i;simp only [Array.getD_eq_getD_getElem?,Array.getElem?_setIfInBounds];by_cases hij:j=i
    ·subst hij;simp [hI.sz,hjl]
    ·simp [hij,Ne.symm hij]
   have hdown':∀(i:Nat) (o':Oper),ops[i]? =some o'→(listed.setIfInBounds j true).getD i false=true→∀e∈ABa9 o',(listed.setIfInBounds j true).getD e false=true:=by
    intro i o' ho' hi e he;rw [hget] at hi ⊢;split at hi
    ·rename_i hij;subst hij;rw [hoj] at ho';cases ho';split
     ·rfl
     ·exact hje e he
    ·split
     ·rfl
     ·exact hI.down i o' ho' hi e he
   have hdst:∀(i':Nat) (o:Oper),i≤i'→i'<k→i'≠j→ops[i']? =some o→oj.dst≠none→o.dst≠oj.dst:=by
    intro i' o hii hik hij' ho hne he;rcases Nat.lt_or_ge i' j with h'|h'
    ·exact huq i' o hii h' ho hne he
    ·exact ((AJr9 hd ho).2.1 hii hik).2.2 j oj hij (by omega) hoj (by rw [he];exact hne) he.symm
   obtain ⟨x,hxp0,hxd⟩:=spec j oj hij hjk hoj;have hxp':xp P call ops hp tm oj=some x:=by
    rw [AJl9 (tm':=tmK) (fun t ht=>AGq9 (hsame t ht))];exact hxp0
   obtain ⟨pv',hst,_,_⟩:=BCm9 (pv:= []) hpk hxp';have hxF:∀d,oj.dst=some d→d<tm.length→tmK[d]? =some x:=fun d hod hdl=>hxd d hod (by rw [←hI.len];exact hdl);have htl:tm.length=tmK.length:=by rw [hI.len,sp3]
   have hgot':∀(i':Nat) (o:Oper) (d:Nat),i≤i'→i'<k→ops[i']? =some o→o.dst=some d→(listed.setIfInBounds j true).getD i' false=true→(putA tm oj.dst x)[d]? =tmK[d]? :=by
    intro i' o d hii hik ho hod hi';rw [hget] at hi';by_cases hij:i'=j
    ·subst hij;rw [hoj] at ho;cases ho;rw [hod];by_cases hdl:d<tm.length
     ·rw [hxF d hod hdl];simp [putA,hdl]
     ·simp only [putA];rw [List.getElem?_eq_none (by simp;omega),List.getElem?_eq_none (by omega)]
    ·rw [if_neg hij] at hi';rw [ACw9]
     ·exact hI.got i' o d hii hik ho hod hi'
     ·intro he;exact hdst i' o hii hik hij ho (by rw [he];simp) (by rw [hod,he])
   have hold':∀t,(∀j' o,i≤j'→j'<k→ops[j']? =some o→(listed.setIfInBounds j true).getD j' false=true→o.dst≠some t)→(putA tm oj.dst x)[t]? =tm0[t]? :=by
    intro t ht;rw [ACw9 (ht j oj hij hjk hoj (by rw [hget,if_pos rfl]))];exact hI.old t fun i' o hii hik ho hi'=>ht i' o hii hik ho (by rw [hget];split<;>simp_all)
   unfold wpOpIn;simp only [hoj];refine AHb9 hcall hr hst fun S' w' m' hv' a' hg hr' hdd hsz=> ?_;exact ih (by have:=AOr9 hI.sz hjl hj0;omega) ⟨by simp [hI.sz],fun j' hj'=>by rw [hget,if_neg (by omega)];exact hI.low j' hj',fun i' hi'=>by rw [hget,if_neg (by omega)];exact hI.far i' hi',hdown',by rw [AAx9];exact hI.len,hgot',hold'⟩
    ⟨hr'.1,hr'.2.1,by intro p hp;cases hp⟩
    fun S'' w'' m'' hv'' a'' hg' hr'' hd' hsz'=>hK S'' w'' m'' hv'' a'' (hg.trans hg') hr'' (hd'.trans hdd) (hsz'.trans hsz)
end
section
variable {β:Type}
def ANt9 (P:Program) (X:CX β) (M:MHook β) (ops:Array Oper):List (Nat×Nat)→List AV→List Blk→β→(List AV→List Blk→β→Prop)→Prop
 | [],tm,hp,b,K=>K tm hp b
 |(i,k)::l,tm,hp,b,K=>if Nat.beq k (i+1) then match ops[i]? with
  |some o=>opM P X M ops o ⟨tm,hp, []⟩ b fun s b=>ANt9 P X M ops l s.tm s.hp b K
  |none=>False
  else if AWr9 ops i k then preC P X ops hp ((ops.toList.take k).drop i) tm [] fun tmK tb=>if (tb.map (·.1)).Nodup then ANt9 P X M ops l tmK hp b K else False
  else False
def segsC (ops:Array Oper):List (Nat×Nat):=cutsC ops (ops.size+ops.size+2) 0 1
def BEv9 (P:Program) (X:CX β) (M:MHook β) (ops:Array Oper) (draw:Bool) (tm:List AV) (hp:List Blk) (b:β) (K:List AV→List Blk→β→Prop):Prop:=
 if draw then (if AUo9 ops 0 (segsC ops)&&Nat.ble 2 (segsC ops).length then ANt9 P X M ops (segsC ops) tm hp b K else match findK ops (ABo9 (ops.toList.takeWhile fun o=> !mapOp o)) with
  |some k=>BFc9 P X M ops k tm hp b K
  |none=>False)
 else opsM P X M ops ops.toList ⟨tm,hp, []⟩ b fun s b=>K s.tm s.hp b
def wlS (P:Program) (X:CX β) (M:MHook β) (wl:Code→List AV→List Blk→β→(Exit→List AV→List Blk→β→Prop)→Prop):Code→List AV→List Blk→β→(Exit→List AV→List Blk→β→Prop)→Prop
 | .region id ops d,tm,hp,b,K=>BEv9 P X M ops d tm hp b (K .normal)
 |c,tm,hp,b,K=>wl c tm hp b K
end
section
variable {P:Program} {S S' X' V V':Pr} {r:Option Nat} {lo:Nat} {w w':World} {m m':List MB} {B:List (AV×Value)} {hp hp':List Blk} {hv hv':List (List Value)} {a a':Act} {ops:Array Oper} {Ev:Env P} {X:CX Ev.β} {M:MHook Ev.β} {tm:List AV} {b:Ev.β}
theorem AHq9 {QQ} {K} (hX:X.Ok) (hM:MOk Ev M):∀l {i} {tm} {hp} {b} {S X' V} {w} {m} {hv} {a} {listed},
 AUo9 ops i l=true→(∀j o,ops[j]? =some o→∀e∈ABa9 o,e<j)→ANt9 P X M ops l tm hp b K→listed.size=ops.size→(∀j,j<ops.size→listed.getD j false=decide (j<i))→Tie Ev lo r S X' V w m B hv ⟨tm,hp, []⟩ b a→
 (∀tm' hp' b',K tm' hp' b'→Goes Ev lo r S X' V w m B ⟨tm',hp', []⟩ b' (QQ .normal))→wpAnyIn (Fn r) 0 P .any ops QQ (ops.size - i) listed a w
 | [],i,tm,hp,b,S,X',V,w,m,hv,a,listed,hs,he,h,hls,hl,ht,hK=>by
  have hi:i=ops.size:=Zdz hs;have hready:Region.ready .any ops listed= []:=by
   rw [List.eq_nil_iff_forall_not_mem];intro j hj;obtain ⟨o,ho,h0,_⟩:=ADd9 hj;have hjl:j<ops.size:=(Zao.1 ho).1;have:=hl j hjl;simp [hls,hjl] at h0 this;rw [h0] at this;simp at this;omega
  have e0:ops.size - i=0:=by omega
  rw [e0];exact ⟨hready,hK _ _ _ h S X' V w m hv a (Went.refl ht.rel.slt) (Zfb m) ht⟩
 | (i',k)::l,i,tm,hp,b,S,X',V,w,m,hv,a,listed,hs,he,h,hls,hl,ht,hK=>by
  simp only [AUo9,Zal] at hs;obtain ⟨s1,s2,s3,s4,s5⟩:=hs;obtain rfl:=Zdz s1;rw [Nat.blt_eq] at s2;have s3:=Nat.le_of_ble_eq_true s3;have hlow:∀j,j<i'→listed.getD j false=true:=fun j hj=>by rw [hl j (by omega)];simp [hj]
  have hfar:∀j,i'≤j→listed.getD j false=false:=fun j hj=>by
   rcases Nat.lt_or_ge j ops.size with h'|h'
   ·rw [hl j h'];simp;omega
   ·rw [Array.getD_eq_getD_getElem?,Array.getElem?_eq_none (by omega)];rfl
  have hdown:∀j o',ops[j]? =some o'→listed.getD j false=true→∀e∈ABa9 o',listed.getD e false=true:=fun j o' ho' hj e hee=>by
   have h1:=he _ _ ho' e hee;rcases Nat.lt_or_ge j i' with h'|h'
   ·exact hlow e (by omega)
   ·rw [hfar j h'] at hj;cases hj
  unfold ANt9 at h;split at h
  ·rename_i hk1;have hk1:=Zdz hk1;subst hk1;have hi:i'<ops.size:=by omega
   have hoi:ops[i']? =some ops[i']:=by simp [hi]
   rw [hoi] at h;simp only at h;have hx:wOps Ev ops [ops[i']] ⟨tm,hp, []⟩ b (fun s' b'=>ANt9 P X M ops l s'.tm s'.hp b' K):=AXd9 (l:= []) hX hM h fun s' b' h=>h;have hmem:i'∈Region.ready .any ops listed:=by
    refine ACv9 hoi ?_ (fun e hee=>hlow e (he _ _ hoi e hee));have:=hl i' hi;simp [hls,hi] at this ⊢;exact this
   have e0:ops.size - i'=(ops.size - (i'+1))+1:=by omega
   rw [e0];refine ⟨fun h0=>(by rw [h0] at hmem;cases hmem),fun j hj=> ?_⟩;obtain ⟨oj,hoj,hj0,hje⟩:=ADd9 hj;have hjl:j<ops.size:=(Zao.1 hoj).1;have hji:j=i':=by
    rcases Nat.lt_trichotomy j i' with h1|h1|h1
    ·have:=hl j hjl;simp [hls,hjl] at hj0 this;rw [hj0] at this;simp at this;omega
    ·exact h1
    ·have:=AFf9 hdown ops.size j oj hoj hje i' ((CFr9 s4 hoj).2 (by omega) i' (by omega));rw [hfar i' (Zat _)] at this;cases this
   subst hji;unfold wpOpIn;simp only [hoi];refine AKv9 ht hx fun s' b' hx' S' X'' V' w' m' hv' a' hw hm ht2=> ?_;simp only [wOps] at hx';refine AHq9 hX hM l (i:=j+1) s5 he hx' (by simp [hls]) (fun j' hj'=> ?_) ⟨⟨ht2.rel.1,ht2.rel.2.1,by intro p hp;cases hp⟩,ht2.sub,ht2.env,ht2.round,ht2.marks,ht2.base⟩
    fun tm' hp' b'' hr S'' X3 V'' w'' m'' hv'' a'' hw' hm' ht'=>hK tm' hp' b'' hr S'' X3 V'' w'' m'' hv'' a'' (hw.trans hw') (hm.trans hm') ht'
   have:=hl j' hj';simp [hls,hj'] at this ⊢;rw [Array.getElem_setIfInBounds (by rw [hls];exact hj')];split
   ·subst_vars;simp
   ·rw [this];simp;omega
  ·split at h
   ·rename_i hst;obtain ⟨tmK,tb,h1,h2,h3,h4⟩:=ACm9 hX h;split at h1
    ·rename_i hnd;have hcount:(unl ops.size listed).length=ops.size - i':=by
      have e:unl ops.size listed=(Zbs ops.size).filter fun j=> !decide (j<i'):=by
       unfold unl;refine List.filter_congr fun j hj=> ?_;rw [hl j (Zcs.1 hj)]
      rw [e];have e2:Zbs ops.size=Zbs i'++(Zbs (ops.size - i')).map (i'+ ·):=by
       rw [←List.range_add];congr 1;omega
      rw [e2,List.filter_append];have e3:(Zbs i').filter (fun j=> !decide (j<i'))= []:=by
       rw [List.filter_eq_nil_iff];intro j hj;have:=Zcs.1 hj;simp [this]
      rw [e3,List.filter_eq_self.2]
      ·simp
      ·intro j hj;obtain ⟨l,_,rfl⟩:=Zbf.1 hj;simp
     refine AZp9 (call:=tblD tb) (AWm9 (h3 (by simp))) hst (by omega) s3 (h4 tb (ADl9 hnd)) (ops.size - i') hcount.symm
      ⟨hls,hlow,fun j hj=>hfar j (by omega),hdown,rfl,fun j o d h1 _ _ _ h2=>(by rw [hfar j h1] at h2;cases h2),fun _ _=>rfl⟩ ht.rel fun S' w' m' hv' a' hg hr hd hsz listed' hs' hl'=> ?_
     exact AHq9 hX hM l (i:=k) s5 he h1 hs' hl' (ht.step hg hr hd)
      fun tm' hp' b'' hr' S'' X3 V'' w'' m'' hv'' a'' hw' hm' ht'=>hK tm' hp' b'' hr' S'' X3 V'' w'' m'' hv'' a'' ((hg.went hr.slt).trans hw') (hg.ms.trans hm') ht'
    ·exact h1.elim
   ·exact h.elim
theorem BEn9 {ops}:∀ {l} {i},AUo9 ops i l=true→ops.size=i∨∀j o,ops[j]? =some o→∀e∈ABa9 o,e<j
 | [],i,h=> .inl (Zdz h).symm
 | (a,k)::l,i,h=>by
  simp only [AUo9,Zal] at h;exact .inr fun j o ho=>(CFr9 h.2.2.2.1 ho).1
theorem ARj9 {id} {d} (hm:P.follows .mixedOrders=true) (hX:X.Ok) (hM:MOk Ev M) {K} {Q} (h:BEv9 P X M ops d tm hp b K) (hq:∀tm' hp' b',K tm' hp' b'→Q .normal ⟨tm',hp',b'⟩):
 W Ev (.region id ops d) ⟨tm,hp,b⟩ Q:=by
 unfold BEv9 at h;cases d with
 |false=>exact W.region (AIw9 hX hM h fun _ _ h=>hq _ _ _ h)
 | true=>
  simp only [if_true] at h;split at h
  ·rename_i hs0;have hs:AUo9 ops 0 (segsC ops)=true:=by
    rw [Zal] at hs0;exact hs0.1
   refine W.ofWA hm fun lo r S X' V w m B hv a ht=> ?_;have hget:∀j,(Array.replicate ops.size false).getD j false=false:=by intro j;simp [Array.getElem?_replicate];split<;>rfl
   have he:∀j o,ops[j]? =some o→∀e∈ABa9 o,e<j:=(BEn9 hs).elim (fun h0 j o ho=>by
    have:=(Zao.1 ho).1;omega) fun h=>h
   have ht':=ht.drew;refine AHq9 hX hM (segsC ops) (i:=0) hs he h (by simp) (fun j _=>by rw [hget];simp) ht' fun tm' hp' b' hk S'' X'' V'' w'' m'' hv'' a'' hw hm' ht''=> ?_;exact ⟨⟨tm',hp',b'⟩,S'',X'',V'',m'',hv'',hq _ _ _ hk,⟨(AOp9 ht.rel.slt).trans hw,hm'⟩,ht''⟩
  ·split at h
   ·rename_i k hk;have h':ARk9 P X M ops true tm hp b K:=by
     unfold ARk9;simp only [if_true,hk];exact h
    exact AKh9 hm hX hM h' hq
   ·exact h.elim
theorem CIm9 (hm:P.follows .mixedOrders=true) (hX:X.Ok) (hM:MOk Ev M) {wl}
 (hwl:∀c tm hp b K,wl c tm hp b K→W Ev c ⟨tm,hp,b⟩ (fun e s=>K e s.tm s.hp s.b)):∀c tm hp b K,wlS P X M wl c tm hp b K→W Ev c ⟨tm,hp,b⟩ (fun e s=>K e s.tm s.hp s.b):=by
 intro c tm hp b K h;cases c with
 |region id ops d=>exact ARj9 hm hX hM h fun _ _ _ h=>h
 |_=>exact hwl _ _ _ _ _ h
end
end Go.Proofs.YthcbbmnjikhihaaGreat.Am
namespace Go.Proofs.YthcbbmnjikhihaaGreat.Am
open Go Go.RowKit Go.Proofs Tryz
open AV renaming view → Zdg
open _root_.Array renaming getElem?_eq_some_iff → Zao
open Bool renaming and_eq_true → Zal, or_eq_true → Zfg
open Go.IntKind renaming wrap → Zac
open List renaming all_eq_true → Zbk, getElem?_append_left → Zaw, getElem?_eq_some_iff → Zaf, getElem?_take → Zbd, mem_append → Zca, mem_cons → Zbu, mem_iff_getElem? → Zay, mem_map → Zbf, mem_range → Zcs, range → Zbs, replicate → Zam
open MStep renaming refl → Zfb
open Nat renaming eq_of_beq_eq_true → Zdz, le_of_not_lt → Zdn, le_refl → Zat
open Option renaming map_eq_some_iff → Zap
open Go.World renaming putObj_heap_other → Zcr
open AV (bad)
theorem mixed:Tryz.prog.follows .mixedOrders=true:=by kernel_rfl
set_option linter.unusedVariables false
set_option maxRecDepth 20000
def rowA (m:Int) (b:List Int):AV:= .agg [.d (i64 m), .d (.sl 1 (BKj9 b))]
def pad (b:List Int):List Int:=(b++Zam 16 0).take 16
def fine (m:Int) (b:List Int):Bool:=decide (m≥1)&&(decide (m<65536)&&((b.length:Int)==16))
def xor8 (a b:Int):Int:=Zac IntKind.u8 ↑((BitVec.ofInt 8 a ^^^ BitVec.ofInt 8 b).toNat)
def xorL (p q:List Int):List Int:=(Zbs 16).map fun i=>xor8 (nth p i) (nth q i)
section
end
def lead (m:Int):Int:=(2 ^ m.toNat.log2:Nat)
def b16 (p:List Int):List Int:=(Zbs 16).map (nth p)
abbrev Row:=Int×List Int
def rowD (r:Row):List Dv:= [i64 r.1, .sl 1 (BKj9 r.2)]
def rowsR (l:List Row):List (List Dv):=l.map rowD
section
end
def and64 (a b:Int):Int:=Zac .i64 ((BitVec.ofInt 64 a&&&BitVec.ofInt 64 b).toNat:Nat)
def or64 (a b:Int):Int:=Zac .i64 ((BitVec.ofInt 64 a|||BitVec.ofInt 64 b).toNat:Nat)
def xor64 (a b:Int):Int:=Zac .i64 ((BitVec.ofInt 64 a ^^^ BitVec.ofInt 64 b).toNat:Nat)
def red (x:Row) (r:Row):Row:=if and64 x.1 (lead r.1) !=0 then (xor64 x.1 r.1,xorL x.2 (pad r.2)) else x
section
end
abbrev cell (x:Dv):Blk:=⟨[.d x],false,false,0⟩
def vA:List Row→Int×Int→(Int×Int)×Bool
 | [],s=>(s,true)
 |r::l,s=>if fine r.1 r.2&&decide (lead r.1<s.2) then vA l (or64 s.1 (lead r.1),lead r.1) else (s,false)
def vB (L:Int) (l:List Row):Bool:=l.all fun r=>and64 r.1 L==lead r.1
def CIn9 (l:List Row):Bool:=(vA l (0,65536)).2&&vB (vA l (0,65536)).1.1 l
section
end
section
end
def keepR (r:Row):Row:=(r.1,b16 (pad r.2))
def stepB (e:Row) (s:List Row×Bool) (r:Row):List Row×Bool:=
 ((if !s.2&&decide (lead r.1<lead e.1) then s.1++ [(e.1,b16 e.2)] else s.1)++ [if and64 r.1 (lead e.1) !=0 then (xor64 r.1 e.1,b16 (xorL (pad r.2) e.2)) else (r.1,b16 (pad r.2))],
  s.2||decide (lead r.1<lead e.1))
section
end
def CHx9 (p:List Int):Bool:=(Zbs 16).all fun i=>nth p i==0
def addR (x:List Row×Bool×Int):AV:= .tup [.d (.sl 2 (rowsR x.1)), .d (bo x.2.1), .d (i64 x.2.2)]
def addS (l:List Row) (m:Int) (b:List Int):List Row×Bool×Int:=
 if !CIn9 l|| !fine m b then ([],false,1) else
 let x:=l.foldl red (m,pad b)
 if x.1==0&&CHx9 x.2 then (l.map keepR,false,0) else if x.1==0 then ([],false,12) else
 let s:=l.foldl (stepB x) ([],false)
 (if !s.2 then s.1++ [(x.1,b16 x.2)] else s.1,true,0)
def c12 (args:List AV) (K:AV→Prop):Prop:=∃(l:List Row) (m:Int) (b:List Int) (x:List Row×Bool×Int),args= [.d (.sl 2 (rowsR l)),rowA m b]∧2*l.length≤1000000∧x=addS l m b∧K (addR x)
section
end
section
end
section
end
section
end
def fewS (l:List Row):Bool:=(l.all fun r=>decide (r.2.length≤100))&&decide (l.length≤40)
section
end
def c11 (args:List AV) (K:AV→Prop):Prop:=∃(l:List Row),args= [.d (.sl 2 (rowsR l))]∧l.length≤9223372036854775807∧K (.d (bo (fewS l)))
section
end
section
end
section
end
def c25 (args:List AV) (K:AV→Prop):Prop:=∃(p q r:List Int),args= [.d (.sl 1 (BKj9 p)), .d (.sl 1 (BKj9 q))]∧(16≤p.length∧16≤q.length)∧r=xorL p q∧K (.d (.sl 1 (BKj9 r)))
def nilA:AV:= .d (.s (.slice none 0 0))
section
end
section
end
section
end
set_option maxHeartbeats 1000000
abbrev CF:=List AV→(AV→Prop)→Prop
abbrev CT:=List (Nat×CF)
abbrev SCT:=List (Nat×(List AV→List Blk→(AV→List Blk→Prop)→Prop))
abbrev bk (l:List AV):Blk:=⟨l,false,false,0⟩
abbrev COk (n:Nat) (c:CF):Prop:=∀args K,c args K→∃x,PCall prog n args x∧K x
abbrev WlOk (Ev:Env prog) (wl:WLT Ev.β):Prop:=∀c tm hp b K,wl c tm hp b K→W Ev c ⟨tm,hp,b⟩ (fun e s=>K e s.tm s.hp s.b)
theorem pcO {T:CT} {f:Nat} {fn:Func} {args:List AV} {x:AV} (hT:AAb9 prog T) (hf:Tryz.prog.funcs[f]? =some fn) (h:∀(Ev:Env prog) (b:Ev.β),wpFn prog ⟨T, [],wlW Ev,Ev.Y,false⟩ 100 fn args b (fun y _=>y=x)) (hn:(fn.name== "runtime.NumGoroutine")=false:=by rfl) (hargs:args.map Zdg=args:=by rfl):PCall prog f args x:=PCall.ofFn mixed hT AAl9.nil hf hn hargs h
theorem pcW (wl:∀ {β:Type},WLT β) {T:CT} {f:Nat} {fn:Func} {args:List AV} {x:AV} (hT:AAb9 prog T) (hwl:∀ {Ev:Env prog},WlOk Ev wl) (hf:Tryz.prog.funcs[f]? =some fn) (h:∀(Ev:Env prog) (b:Ev.β),wpFn prog ⟨T, [],wl,Ev.Y,false⟩ 100 fn args b (fun y _=>y=x)) (hn:(fn.name== "runtime.NumGoroutine")=false:=by rfl) (hargs:args.map Zdg=args:=by rfl):PCall prog f args x:=PCall.ofFnW (fun _=>wl) mixed hT AAl9.nil (fun _=>hwl) hf hn hargs h
theorem pcL (wl:∀ {β:Type},WLT β) {T:CT} {f:Nat} {fn:Func} {args:List AV} {x:AV} (hT:AAb9 prog T) (hwl:∀ {Ev:Env prog},WlOk Ev wl) (hf:Tryz.prog.funcs[f]? =some fn) (h:∀(Ev:Env prog) (b:Ev.β),wpFn prog ⟨T, [],wl,Ev.Y,false⟩ 100 fn args b (fun y _=>LeT y x)) (hn:(fn.name== "runtime.NumGoroutine")=false:=by rfl) (hargs:args.map Zdg=args:=by rfl):PCall prog f args x:=PCall.ofFnL (fun _=>wl) mixed hT AAl9.nil (fun _=>hwl) hf hn hargs h
theorem pcV (wl:∀ {β:Type},WLT β) {T:CT} {f:Nat} {fn:Func} {args:List AV} {x:AV} (hT:AAb9 prog T) (hwl:∀ {Ev:Env prog},WlOk Ev wl) (hf:Tryz.prog.funcs[f]? =some fn) (h:∀(Ev:Env prog) (b:Ev.β),wpFn prog ⟨T, [],wl,Ev.Y,false⟩ 100 fn args b (fun y _=>LeV y x)) (hn:(fn.name== "runtime.NumGoroutine")=false:=by rfl) (hargs:args.map Zdg=args:=by rfl):PCall prog f args x:=PCall.ofFnV (fun _=>wl) mixed hT AAl9.nil (fun _=>hwl) hf hn hargs h
structure LayT where
 no:Int
 da:Int
def layA (l:LayT):AV:= .agg [.d (i64 l.no), .d (i64 l.da)]
def cellA (sl of:Int):AV:= .agg [.d (i64 sl), .d (i64 of)]
def useA (u:UseT):AV:= .agg [.d (i64 u.sl), .d (i64 u.of), .d (i64 u.pe), .d (i64 u.st)]
def graA (g:GraT):AV:= .agg [.d (i64 g.sl), .d (i64 g.of), .d (i64 g.pe), .d (i64 g.st), .d (i64 g.un)]
def askA (a:AskT):AV:= .agg [.d (i64 a.sl), .d (i64 a.of), .d (i64 a.pe)]
def inN (n h:Int):Bool:=decide (n≥0)&&decide (n≤h)
def ABc9 (sl of pe:Int) (l:LayT):Bool:=decide (sl≥0)&&(decide (sl<l.da)&&(decide (of≥0)&&(decide (of<16)&&(decide (pe≥0)&&decide (pe<l.no)))))
section
variable {β:Type} (wl:WLT β) (y:ADo9 β) (b:β) (R:AV→β→Prop)
theorem in_nf (n h:Int):wpFn prog ⟨[], [],wl,y,false⟩ 100 f36 [.d (i64 n), .d (i64 h)] b R=(BIf (decide (n≥(0:Int))) (R (AV.d (bo (decide (n≤h)))) b) (R (AV.d (bo false)) b)):=by kernel_rfl
theorem BUv9 (u:UseT):wpFn prog ⟨[], [],wl,y,false⟩ 100 f108 [useA u] b R=(R (AV.agg [AV.d (i64 (UseT.sl u)),AV.d (i64 (UseT.of u)),AV.d (i64 (UseT.pe u)),AV.d (i64 (UseT.st u))]) b):=by kernel_rfl
theorem BUw9 (g:GraT):wpFn prog ⟨[], [],wl,y,false⟩ 100 f95 [graA g] b R=(R (AV.agg [AV.d (i64 (GraT.sl g)),AV.d (i64 (GraT.of g)),AV.d (i64 (GraT.pe g)),AV.d (i64 (GraT.st g)),AV.d (i64 (GraT.un g))]) b):=by kernel_rfl
theorem BUx9 (a:AskT):wpFn prog ⟨[], [],wl,y,false⟩ 100 f118 [askA a] b R=(R (AV.agg [AV.d (i64 (AskT.sl a)),AV.d (i64 (AskT.of a)),AV.d (i64 (AskT.pe a))]) b):=by kernel_rfl
theorem BNc9 (sl of pe:Int) (l:LayT):wpFn prog ⟨[], [],wl,y,false⟩ 100 f169 [cellA sl of, .d (i64 pe),layA l] b R=(BIf (decide (sl≥(0:Int))) (BIf (decide (sl<LayT.da l)) (BIf (decide (of≥(0:Int))) (BIf (decide (of<(16:Int))) (BIf (decide (pe≥(0:Int))) (R (.d (bo (decide (pe<LayT.no l)))) b) (R (.d (bo false)) b)) (R (.d (bo false)) b)) (R (.d (bo false)) b)) (R (.d (bo false)) b)) (R (.d (bo false)) b)):=by kernel_rfl
theorem BPa9 (sl of pe:Int) (l:LayT):wpFn prog ⟨[], [],wl,y,false⟩ 100 f62 [cellA sl of, .d (i64 pe),layA l] b R=(BIf (decide (sl≥(0:Int))) (BIf (decide (sl<LayT.da l)) (BIf (decide (of≥(0:Int))) (BIf (decide (of<(16:Int))) (BIf (decide (pe≥(0:Int))) (R (.d (bo (decide (pe<LayT.no l)))) b) (R (.d (bo false)) b)) (R (.d (bo false)) b)) (R (.d (bo false)) b)) (R (.d (bo false)) b)) (R (.d (bo false)) b)):=by kernel_rfl
theorem BNi9 (l:LayT):wpFn prog ⟨[], [],wl,y,false⟩ 100 f70 [layA l] b R=(BIf (decide (LayT.no l≥(1:Int))) (BIf (decide (LayT.no l≤(60:Int))) (BIf (decide (LayT.da l≥(1:Int))) (R (.d (bo (decide (LayT.da l≤(60:Int))))) b) (R (.d (bo false)) b)) (R (.d (bo false)) b)) (R (.d (bo false)) b)):=by kernel_rfl
theorem BYc9 (u:UseT):wpFn prog ⟨[], [],wl,y,false⟩ 100 f170 [useA u] b R=(R (AV.agg [AV.d (i64 (UseT.sl u)),AV.d (i64 (UseT.of u))]) b):=by kernel_rfl
theorem BYd9 (g:GraT):wpFn prog ⟨[], [],wl,y,false⟩ 100 f167 [graA g] b R=(R (AV.agg [AV.d (i64 (GraT.sl g)),AV.d (i64 (GraT.of g))]) b):=by kernel_rfl
theorem BOz9 (a:AskT):wpFn prog ⟨[], [],wl,y,false⟩ 100 f172 [askA a] b R=(R (AV.agg [AV.d (i64 (AskT.sl a)),AV.d (i64 (AskT.of a))]) b):=by kernel_rfl
end
def cIn:CF:=fun args K=>∃(n h:Int) (z:Bool),args= [.d (i64 n), .d (i64 h)]∧z=inN n h∧K (.d (bo z))
theorem BIs9:COk 36 cIn:=by
 rintro _ K ⟨n,h,_,rfl,rfl,hk⟩;refine ⟨_, ?_,hk⟩;refine pcO AAb9.nil func36 fun Ev bb=> ?_;rw [in_nf];repeat' (refine BIf.of (fun _=> ?_) fun _=> ?_)
 all_goals (rw [inN];simp only [*,Bool.true_and,Bool.false_and])
def BYg9:CF:=fun args K=>∃u:UseT,args= [useA u]∧K (useA u)
theorem AXv9:COk 108 BYg9:=by
 rintro _ K ⟨u,rfl,hk⟩;refine ⟨_, ?_,hk⟩;refine pcO AAb9.nil func108 fun Ev bb=> ?_;rw [BUv9];rfl
theorem CEb9 (g:GraT):PCall prog 95 [graA g] (graA g):=by
 refine pcO AAb9.nil func95 fun Ev bb=> ?_;rw [BUw9];rfl
def BPf9:CF:=fun args K=>∃u:GraT,args= [graA u]∧K (graA u)
theorem AQb9:COk 95 BPf9:=by
 rintro _ K ⟨u,rfl,hk⟩;exact ⟨_,CEb9 u,hk⟩
theorem CEc9 (a:AskT):PCall prog 118 [askA a] (askA a):=by
 refine pcO AAb9.nil func118 fun Ev bb=> ?_;rw [BUx9];rfl
def BYh9:CF:=fun args K=>∃u:AskT,args= [askA u]∧K (askA u)
theorem AXw9:COk 118 BYh9:=by
 rintro _ K ⟨u,rfl,hk⟩;exact ⟨_,CEc9 u,hk⟩
def BRx9:CF:=fun args K=>∃(sl of pe:Int) (l:LayT) (z:Bool),args= [cellA sl of, .d (i64 pe),layA l]∧z=ABc9 sl of pe l∧K (.d (bo z))
theorem BIj9:COk 169 BRx9:=by
 rintro _ K ⟨sl,of,pe,l,_,rfl,rfl,hk⟩;refine ⟨_, ?_,hk⟩;refine pcO AAb9.nil func169 fun Ev bb=> ?_;rw [BNc9];repeat' (refine BIf.of (fun _=> ?_) fun _=> ?_)
 all_goals (rw [ABc9];simp only [*,Bool.true_and,Bool.false_and])
def AYs9:CF:=fun args K=>∃(sl of pe:Int) (l:LayT) (z:Bool),args= [cellA sl of, .d (i64 pe),layA l]∧z=ABc9 sl of pe l∧K (.d (bo z))
theorem AMx9:COk 62 AYs9:=by
 rintro _ K ⟨sl,of,pe,l,_,rfl,rfl,hk⟩;refine ⟨_, ?_,hk⟩;refine pcO AAb9.nil func62 fun Ev bb=> ?_;rw [BPa9];repeat' (refine BIf.of (fun _=> ?_) fun _=> ?_)
 all_goals (rw [ABc9];simp only [*,Bool.true_and,Bool.false_and])
def layOk (l:LayT):Bool:=decide (l.no≥1)&&(decide (l.no≤60)&&(decide (l.da≥1)&&decide (l.da≤60)))
def BRy9:CF:=fun args K=>∃(l:LayT) (z:Bool),args= [layA l]∧z=layOk l∧K (.d (bo z))
theorem BIn9:COk 70 BRy9:=by
 rintro _ K ⟨l,_,rfl,rfl,hk⟩;refine ⟨_, ?_,hk⟩;refine pcO AAb9.nil func70 fun Ev bb=> ?_;rw [BNi9];repeat' (refine BIf.of (fun _=> ?_) fun _=> ?_)
 all_goals (rw [layOk];simp only [*,Bool.true_and,Bool.false_and])
def BPu9:CF:=fun args K=>∃u:UseT,args= [useA u]∧K (cellA u.sl u.of)
theorem AQd9:COk 170 BPu9:=by
 rintro _ K ⟨u,rfl,hk⟩;refine ⟨_, ?_,hk⟩;refine pcO AAb9.nil func170 fun Ev bb=> ?_;rw [BYc9];rfl
def BPv9:CF:=fun args K=>∃u:GraT,args= [graA u]∧K (cellA u.sl u.of)
theorem AQe9:COk 167 BPv9:=by
 rintro _ K ⟨u,rfl,hk⟩;refine ⟨_, ?_,hk⟩;refine pcO AAb9.nil func167 fun Ev bb=> ?_;rw [BYd9];rfl
def BSt9:CF:=fun args K=>∃u:AskT,args= [askA u]∧K (cellA u.sl u.of)
theorem BKg9:COk 172 BSt9:=by
 rintro _ K ⟨u,rfl,hk⟩;refine ⟨_, ?_,hk⟩;refine pcO AAb9.nil func172 fun Ev bb=> ?_;rw [BOz9];rfl
def useOk (u:UseT) (l:LayT):Bool:=ABc9 u.sl u.of u.pe l&&(decide (u.st≥0)&&decide (u.st≤1000000000))
def graOk (g:GraT) (l:LayT):Bool:=ABc9 g.sl g.of g.pe l&&(decide (g.st≥0)&&(decide (g.st≤g.un)&&decide (g.un≤1000000000)))
def askOk (a:AskT) (l:LayT):Bool:=ABc9 a.sl a.of a.pe l
def TPl:CT:= [(169,BRx9),(62,AYs9),(36,cIn)]
theorem BCg9:AAb9 prog TPl:=AAb9.cons BIj9 (AAb9.cons AMx9 (AAb9.cons BIs9 AAb9.nil))
section
variable {β:Type} (wl:WLT β) (y:ADo9 β) (b:β) (R:AV→β→Prop)
abbrev Qz3 (v0:LayT):List AV:= [AV.d (i64 (LayT.no v0)),AV.d (i64 (LayT.da v0))]
abbrev Qz28 (v0:Int) (v1:Int) (v2:Int) (v3:LayT):List AV:= [AV.agg [AV.d (i64 v0),AV.d (i64 v1)],AV.d (i64 v2),AV.agg (Qz3 v3)]
abbrev Qz96 (v0:UseT):List AV:= [AV.d (i64 (UseT.sl v0)),AV.d (i64 (UseT.of v0))]
theorem BMe9 (u:UseT) (l:LayT):wpFn prog ⟨TPl, [],wl,y,false⟩ 100 f171 [useA u,layA l] b R=(∃(sl0:Int) (of1:Int) (pe2:Int) (l3:LayT) (z4:Bool), [AV.agg (Qz96 u),AV.d (i64 (UseT.pe u)),AV.agg (Qz3 l)]=(Qz28 sl0 of1 pe2 l3)∧z4=ABc9 sl0 of1 pe2 l3∧BIf z4 (BIf (decide (UseT.st u≥(0:Int))) (R (.d (bo (decide (UseT.st u≤(1000000000:Int))))) b) (R (.d (bo false)) b)) (R (.d (bo false)) b)):=by kernel_rfl
abbrev Qz55 (v0:GraT):List AV:= [AV.d (i64 (GraT.sl v0)),AV.d (i64 (GraT.of v0))]
theorem BNt9 (u:GraT) (l:LayT):wpFn prog ⟨TPl, [],wl,y,false⟩ 100 f168 [graA u,layA l] b R=(∃(sl0:Int) (of1:Int) (pe2:Int) (l3:LayT) (z4:Bool), [AV.agg (Qz55 u),AV.d (i64 (GraT.pe u)),AV.agg (Qz3 l)]=(Qz28 sl0 of1 pe2 l3)∧z4=ABc9 sl0 of1 pe2 l3∧BIf z4 (BIf (decide (GraT.st u≥(0:Int))) (BIf (decide (GraT.st u≤GraT.un u)) (R (.d (bo (decide (GraT.un u≤(1000000000:Int))))) b) (R (.d (bo false)) b)) (R (.d (bo false)) b)) (R (.d (bo false)) b)):=by kernel_rfl
theorem BQb9 (u:AskT) (l:LayT):wpFn prog ⟨TPl, [],wl,y,false⟩ 100 f173 [askA u,layA l] b R=(∃(sl0:Int) (of1:Int) (pe2:Int) (l3:LayT) (z4:Bool), [AV.agg [AV.d (i64 (AskT.sl u)),AV.d (i64 (AskT.of u))],AV.d (i64 (AskT.pe u)),AV.agg (Qz3 l)]=(Qz28 sl0 of1 pe2 l3)∧z4=ABc9 sl0 of1 pe2 l3∧R (.d (bo z4)) b):=by kernel_rfl
theorem BUr9 (u:UseT) (l:LayT):wpFn prog ⟨TPl, [],wl,y,false⟩ 100 f71 [useA u,layA l] b R=(∃(sl0:Int) (of1:Int) (pe2:Int) (l3:LayT) (z4:Bool), [AV.agg (Qz96 u),AV.d (i64 (UseT.pe u)),AV.agg (Qz3 l)]=(Qz28 sl0 of1 pe2 l3)∧z4=ABc9 sl0 of1 pe2 l3∧BIf z4 (BIf (decide (UseT.st u≥(0:Int))) (R (.d (bo (decide (UseT.st u≤(1000000000:Int))))) b) (R (.d (bo false)) b)) (R (.d (bo false)) b)):=by kernel_rfl
theorem BXa9 (u:GraT) (l:LayT):wpFn prog ⟨TPl, [],wl,y,false⟩ 100 f72 [graA u,layA l] b R=(∃(sl0:Int) (of1:Int) (pe2:Int) (l3:LayT) (z4:Bool), [AV.agg (Qz55 u),AV.d (i64 (GraT.pe u)),AV.agg (Qz3 l)]=(Qz28 sl0 of1 pe2 l3)∧z4=ABc9 sl0 of1 pe2 l3∧BIf z4 (BIf (decide (GraT.st u≥(0:Int))) (BIf (decide (GraT.st u≤GraT.un u)) (R (.d (bo (decide (GraT.un u≤(1000000000:Int))))) b) (R (.d (bo false)) b)) (R (.d (bo false)) b)) (R (.d (bo false)) b)):=by kernel_rfl
theorem BNp9 (sl of pe:Int) (l:LayT):wpFn prog ⟨TPl, [],wl,y,false⟩ 100 f81 [layA l,cellA sl of, .d (i64 pe)] b R=(∃(n0:Int) (h1:Int) (z2:Bool), [AV.d (i64 sl),AV.d (i64 (Zac .i64 (LayT.da l - (1:Int))))]= [AV.d (i64 n0),AV.d (i64 h1)]∧z2=inN n0 h1∧BIf z2 (∃(n3:Int) (h4:Int) (z5:Bool), [AV.d (i64 of),AV.d (i64 15)]= [AV.d (i64 n3),AV.d (i64 h4)]∧z5=inN n3 h4∧BIf z5 (∃(n6:Int) (h7:Int) (z8:Bool), [AV.d (i64 pe),AV.d (i64 (Zac .i64 (LayT.no l - (1:Int))))]= [AV.d (i64 n6),AV.d (i64 h7)]∧z8=inN n6 h7∧R (.d (bo z8)) b) (R (.d (bo false)) b)) (R (.d (bo false)) b)):=by kernel_rfl
end
def ACa9 (sl of pe:Int) (l:LayT):Bool:=inN sl (Zac IntKind.i64 (l.da - 1))&&(inN of 15&&inN pe (Zac IntKind.i64 (l.no - 1)))
def ATb9:CF:=fun args K=>∃(u:UseT) (l:LayT) (z:Bool),args= [useA u,layA l]∧z=useOk u l∧K (.d (bo z))
theorem BHy9:COk 171 ATb9:=by
 rintro _ K ⟨u,l,_,rfl,rfl,hk⟩;refine ⟨_, ?_,hk⟩;refine pcO BCg9 func171 fun Ev bb=> ?_;rw [BMe9];refine ⟨_,_,_,l,_,rfl,rfl, ?_⟩;repeat' (refine BIf.of (fun _=> ?_) fun _=> ?_)
 all_goals (rw [useOk];simp only [*,Bool.true_and,Bool.false_and])
theorem AXt9:COk 71 ATb9:=by
 rintro _ K ⟨u,l,_,rfl,rfl,hk⟩;refine ⟨_, ?_,hk⟩;refine pcO BCg9 func71 fun Ev bb=> ?_;rw [BUr9];refine ⟨_,_,_,l,_,rfl,rfl, ?_⟩;repeat' (refine BIf.of (fun _=> ?_) fun _=> ?_)
 all_goals (rw [useOk];simp only [*,Bool.true_and,Bool.false_and])
def ATf9:CF:=fun args K=>∃(u:GraT) (l:LayT) (z:Bool),args= [graA u,layA l]∧z=graOk u l∧K (.d (bo z))
theorem BJc9:COk 168 ATf9:=by
 rintro _ K ⟨u,l,_,rfl,rfl,hk⟩;refine ⟨_, ?_,hk⟩;refine pcO BCg9 func168 fun Ev bb=> ?_;rw [BNt9];refine ⟨_,_,_,l,_,rfl,rfl, ?_⟩;repeat' (refine BIf.of (fun _=> ?_) fun _=> ?_)
 all_goals (rw [graOk];simp only [*,Bool.true_and,Bool.false_and])
theorem AYl9:COk 72 ATf9:=by
 rintro _ K ⟨u,l,_,rfl,rfl,hk⟩;refine ⟨_, ?_,hk⟩;refine pcO BCg9 func72 fun Ev bb=> ?_;rw [BXa9];refine ⟨_,_,_,l,_,rfl,rfl, ?_⟩;repeat' (refine BIf.of (fun _=> ?_) fun _=> ?_)
 all_goals (rw [graOk];simp only [*,Bool.true_and,Bool.false_and])
def BSu9:CF:=fun args K=>∃(u:AskT) (l:LayT) (z:Bool),args= [askA u,layA l]∧z=askOk u l∧K (.d (bo z))
theorem BKi9:COk 173 BSu9:=by
 rintro _ K ⟨u,l,_,rfl,rfl,hk⟩;refine ⟨_, ?_,hk⟩;refine pcO BCg9 func173 fun Ev bb=> ?_;rw [BQb9];exact ⟨_,_,_,l,_,rfl,rfl,rfl⟩
def BIr9:CF:=fun args K=>∃(sl of pe:Int) (l:LayT) (z:Bool),args= [layA l,cellA sl of, .d (i64 pe)]∧z=ACa9 sl of pe l∧K (.d (bo z))
theorem ATe9:COk 81 BIr9:=by
 rintro _ K ⟨sl,of,pe,l,_,rfl,rfl,hk⟩;refine ⟨_, ?_,hk⟩;refine pcO BCg9 func81 fun Ev bb=> ?_;rw [BNp9];refine ⟨_,_,_,rfl,rfl,BIf.of (fun h1=>⟨_,_,_,rfl,rfl,BIf.of (fun h2=>⟨_,_,_,rfl,rfl, ?_⟩) fun h2=> ?_⟩) fun h1=> ?_⟩;all_goals (rw [ACa9];simp only [*,Bool.true_and,Bool.false_and])
theorem wrapN {j:Nat} (h:j<9223372036854775807):Zac IntKind.i64 ((j:Int)+1)=((j+1:Nat):Int):=by
 rw [AAw9 (by omega) (by omega)];omega
theorem WR.scanL {α:Type} {P:Program} {Ev:Env P} {X:CX Ev.β} {lp:Code} {b:Ev.β} {Q:Exit→St Ev.β→Prop} {k:Nat} (keep:List Nat) (hm:P.follows .mixedOrders=true) (hX:X.Ok) (xs:List α) (p:α→Bool) (tmOf tmR:Nat→List AV) (hp:List Blk) (id:Nat)
 (hr:∀(i:Nat) (x:α),i<xs.length→xs[i]? =some x→∀K:Exit→List AV→List Blk→Ev.β→Prop,(p x=true→K .ret (tmR i) hp b)→(p x=false→K .normal (tmOf (i+1)) hp b)→wpc P X k lp (tmOf i) hp b (maskK hp.length keep K))
 (he:∀K:Exit→List AV→List Blk→Ev.β→Prop,K (.exit id) (tmOf xs.length) hp b→wpc P X k lp (tmOf xs.length) hp b (maskK hp.length keep K))
 (h1:xs.any p=false→Q (.exit id) ⟨tmOf xs.length,hp,b⟩) (h2:xs.any p=true→∀i,Q .ret ⟨tmR i,hp,b⟩):WR Ev lp (xs.length+1) ⟨tmOf 0,hp,b⟩ Q:=by
 have key:∀(m i:Nat),i+m=xs.length→(xs.take i).any p=false→WR Ev lp (m+1) ⟨tmOf i,hp,b⟩ Q:=by
  intro m;induction m with
  | zero=>
   intro i hi hj;have:i=xs.length:=by omega
   subst this;rw [List.take_length] at hj;exact WR.ofMask keep hm hX (he _ (h1 hj))
  | succ m ih=>
   intro i hi hj;have hil:i<xs.length:=by omega
   refine WR.ofMask keep hm hX (hr i xs[i] hil (by simp [hil]) _ (fun h=>h2 ?_ _) fun h=> ?_)
   ·exact List.any_eq_true.2 ⟨xs[i],List.getElem_mem hil,h⟩
   ·refine ih (i+1) (by omega) ?_;rw [List.take_succ_eq_append_getElem hil,List.any_append,hj];simp [h]
 exact key xs.length 0 (by omega) rfl
theorem WR.gathL {α γ:Type} {P:Program} {Ev:Env P} {X:CX Ev.β} {lp:Code} {b:Ev.β} {Q:Exit→St Ev.β→Prop} {k:Nat} (keep:List Nat) (hm:P.follows .mixedOrders=true) (hX:X.Ok) (xs:List α) (f:α→List γ) (hf:∀x,(f x).length≤1) (tmOf:List γ→Nat→List AV) (hp:List Blk) (id:Nat)
 (hr:∀(i:Nat) (x:α) (acc:List γ),i<xs.length→xs[i]? =some x→acc.length≤i→∀K:Exit→List AV→List Blk→Ev.β→Prop,K .normal (tmOf (acc++f x) (i+1)) hp b→wpc P X k lp (tmOf acc i) hp b (maskK hp.length keep K))
 (he:∀(acc:List γ) (K:Exit→List AV→List Blk→Ev.β→Prop),K (.exit id) (tmOf acc xs.length) hp b→wpc P X k lp (tmOf acc xs.length) hp b (maskK hp.length keep K))
 (hQ:Q (.exit id) ⟨tmOf (xs.flatMap f) xs.length,hp,b⟩):WR Ev lp (xs.length+1) ⟨tmOf [] 0,hp,b⟩ Q:=by
 have hlen:∀i,((xs.take i).flatMap f).length≤i:=by
  intro i;have:∀l:List α,(l.flatMap f).length≤l.length:=by
   intro l;induction l with
   |nil=>exact Zat _
   |cons x r ih=>have:=hf x;simp only [List.flatMap_cons,List.length_append,List.length_cons];omega
  have h1:=this (xs.take i);have h2:(xs.take i).length≤i:=List.length_take_le _ _;omega
 have key:∀(m i:Nat),i+m=xs.length→WR Ev lp (m+1) ⟨tmOf ((xs.take i).flatMap f) i,hp,b⟩ Q:=by
  intro m;induction m with
  | zero=>
   intro i hi;have:i=xs.length:=by omega
   subst this;rw [List.take_length];exact WR.ofMask keep hm hX (he _ _ hQ)
  | succ m ih=>
   intro i hi;have hil:i<xs.length:=by omega
   refine WR.ofMask keep hm hX (hr i xs[i] _ hil (by simp [hil]) (hlen i) _ ?_);have e:(xs.take i).flatMap f++f xs[i]=(xs.take (i+1)).flatMap f:=by
    rw [List.take_succ_eq_append_getElem hil,List.flatMap_append];simp
   rw [e];exact ih (i+1) (by omega)
 exact key xs.length 0 (by omega)
structure TabT where
 us:List UseT
 gs:List GraT
 ak:List AskT
def tabA (t:TabT):AV:= .agg [.d (.sl 4 (rowsU t.us)), .d (.sl 5 (rowsG t.gs)), .d (.sl 3 (rowsA t.ak))]
def tabB (t:TabT):Blk:=⟨[.d (.sl 4 (rowsU t.us)), .d (.sl 5 (rowsG t.gs)), .d (.sl 3 (rowsA t.ak))],false,false,0⟩
theorem AAe9 (l:List UseT):(rowsU l).length=l.length:=by simp [rowsU]
theorem AAd9 (l:List GraT):(rowsG l).length=l.length:=by simp [rowsG]
theorem AAi9 (l:List AskT):(rowsA l).length=l.length:=by simp [rowsA]
theorem ABl9 {l:List UseT} {i:Nat} {x:UseT} (h:l[i]? =some x):(rowsU l)[Int.toNat ((i:Nat):Int)]? =some (useR x):=by simp [rowsU,h]
theorem ABb9 {l:List GraT} {i:Nat} {x:GraT} (h:l[i]? =some x):(rowsG l)[Int.toNat ((i:Nat):Int)]? =some (graR x):=by simp [rowsG,h]
theorem ABd9 {l:List AskT} {i:Nat} {x:AskT} (h:l[i]? =some x):(rowsA l)[Int.toNat ((i:Nat):Int)]? =some (askR x):=by simp [rowsA,h]
theorem natI (i:Nat):(true&&decide ((0:Int)≤((i:Nat):Int)))=true:=by simp
section
end
end Go.Proofs.YthcbbmnjikhihaaGreat.Am