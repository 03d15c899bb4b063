import Derived.Test.YthcbbmnjikhihaaGreatPnJ2
import Derived.Maps.Range
import Derived.Test.YthcbbmnjikhihaaGreatProg
set_option linter.unusedSimpArgs false
set_option linter.unusedVariables false
namespace Go.Proofs.YthcbbmnjikhihaaGreat.Am
open Go Go.RowKit Tryz
open AV renaming agg → Zaq, bad → Zab, d → Zae, fn → Zax, ptr → Zaf, rptr → Zag
open _root_.Array renaming getElem?_eq_some_iff → Zal
open AskT renaming of → Zgd, pe → Zfp, sl → Zcr
open BIf renaming f → Zda, of → Zba, t → Zaz
open BitVec renaming ofInt → Zeq
open Bool renaming and_eq_true → Zai, false_and → Zcj, or_eq_true → Zeb, or_true → Zfb, true_and → Zey, true_or → Zei
open AAc9 renaming cons → Zaj, nil → Zak
open Go.Code renaming loop → Zat
open Dv renaming s → Zdy, sl → Zan
open Go.Exit renaming exit → Zbj
open GraT renaming of → Zfe, pe → Zgg, sl → Zdg, un → Zeh
open Int renaming toNat → Zam
open Go.IntKind renaming i64 → Zbc, wrap → Zad
open LeH renaming refl → Zbp
open List renaming all_eq_true → Zbd, any → Zcv, any_eq_true → Zdv, length → Zaa, mem_map → Zbg, mem_range → Zci, range → Zbs, replicate → Zap
open MStep renaming refl → Zef
open Nat renaming eq_of_beq_eq_true → Zbz, le_refl → Zaw, lt_or_ge → Zdc
open NearT renaming ak → Zer, gs → Zck, us → Zcp
open PCall renaming ofFn → Zbf, ofFnW → Zcu
open Prod renaming fst → Zgl
open Go.Region renaming ready → Zec
open AAl9 renaming nil → Zah
open UseT renaming of → Zek, pe → Zgk, sl → Zcy
open Go.Value renaming map → Zbm, pointer → Zcc
open WR renaming ofMask → Zdj
open Go.World renaming putObj_heap_other → Zch
variable {β:Type} (wl:WLT β) (y:ACw9 β) (b:β) (R:AV→β→Prop) (Kr:AV→List Blk→β→Prop) (K:Exit→List AV→List Blk→β→Prop) (Kh:Exit→List Blk→β→Prop) (Q:β→Prop)
open AV (bad)
set_option linter.unusedVariables false
open Go.Maps (Keyed)
variable {β:Type} (wl:WLT β) (y:ACw9 β) (b:β) (R:AV→β→Prop) (Kr:AV→List Blk→β→Prop) (K:Exit→List AV→List Blk→β→Prop) (Kh:Exit→List Blk→β→Prop) (Q:β→Prop)
open Go.WideElems (Fit rd rg pl rd_key rd_val rg_of)
variable {β:Type} (wl:WLT β) (y:ACw9 β) (b:β) (R:AV→β→Prop) (Kr:AV→List Blk→β→Prop) (K:Exit→List AV→List Blk→β→Prop) (Kh:Exit→List Blk→β→Prop) (Q:β→Prop)
open Go.ChangeMaps Go.MapKept Go.WideShapes
variable {β:Type} (wl:WLT β) (y:ACw9 β) (b:β) (R:AV→β→Prop) (K:Exit→List AV→List Blk→β→Prop) (Q:β→Prop)
structure AEf9 where
 b:Nat
 r:Nat
 k:TypeId
 es:MC
 left:Lit→Bool
 cnt:Nat
 cur:Option Lit
def AOb9 (P:Program) (S:Pr) (w:World) (c:AEf9):Prop:=
 ∃ L es clock since seen c0,w.heap[c.b]? =some (.map es clock)∧Fit P c.k heldR es clock∧DataW.map L= .map ((es.toList.map (rg P c.k heldR)).foldr DataW.insert [])∧
  w.heap[c.r]? =some (.mapIter (some c.b) since seen c0)∧(∀x∈es.toList,x.born<since)∧(leftOf es seen).size=c.cnt∧
  (∀x∈es.toList,c.left (rg P c.k heldR x).1= !seen.contains x.born)∧(∀kl,c.left kl=true→∃x∈es.toList,(rg P c.k heldR x).1=kl)∧since≤c0∧since≤clock∧Ents S w c.es L∧
  (∀kl,c.cur=some kl→∃e∈es.toList,∃s0:Array Nat,seen=s0.push e.born∧c0=clock∧(rg P c.k heldR e).1=kl)
section
variable {P:Program} {S S' X X' V V':Pr} {w w' w0:World} {L:Nat→Prop} {Ev:Env P} {lo:Nat} {r:Option Nat} {m:List MB} {B:List (AV×Value)} {hv:List (List Value)} {s:RS} {a:Act} {yl:Option Nat} {N:Nat} {lent:List Nat} {γ:Type} {f:γ→List MapC} {o:Oper}
theorem AOb9.mono {c:AEf9} (h:AOb9 P S w c) (ho:∀(d:Nat) (o:Obj),AMy9 o=true→w.heap[d]? =some o→w'.heap[d]? =some o) (hv:∀x v,RV S w [] none x v→RV S' w' [] none x v):AOb9 P S' w' c:=by
 obtain ⟨L,es,cl,since,seen,c0,h1,h2,h4,h5,h6,h7,h8,h9,h10,h11,h12,h13⟩:=h;exact ⟨L,es,cl,since,seen,c0,ho _ _ rfl h1,h2,h4,ho _ _ rfl h5,h6,h7,h8,h9,h10,h11,h12.mono hv,h13⟩
def Env.rngd (P:Program) (yl:Option Nat) (N:Nat) (w0:World) (lent:List Nat) {γ:Type} (f:γ→List MapC):Env P:=
 { β:=γ×Option AEf9,N:=N,yl:=yl,L:=fun x=>x=0,E:=fun g S _ w=>MapsE P N w0 lent (f g.1) S w∧∀c,g.2=some c→AOb9 P S w c∧N≤c.r,Y:=fun _ _ _=>False,Llt:=fun h=>by omega,Ymono:=fun h _=>h,
   stable:=fun h ht=>⟨h.1.tr ht,fun c hc=>⟨(h.2 c hc).1.mono (fun b o hm h1=>(ht.objs b _ h1 (ALu9 hm)).resolve_right fun h=>h.elim (fun h=>h.1) fun h=>h.1) fun x v hx=>hx.tr ht,(h.2 c hc).2⟩⟩,
   stableO:=fun {b S V w d o} o' h _ hd ho hm=>⟨h.1.putObj o' hd ho hm,fun c hc=>⟨(h.2 c hc).1.mono (fun b o1 hm1 h1=>by
    have hne:b≠d:=by rintro rfl;rw [hd] at h1;cases h1;rw [hm] at hm1;cases hm1
    rw [Zch hne];exact h1) fun x v hx=>hx.putObj hd ho h.1.lt,(h.2 c hc).2⟩⟩,
   yok:=fun h=>h.elim}
theorem EnvOk.lift {g:γ} {T:RS→γ→Prop} (h:EnvOk (Env.mapped P yl N w0 lent f) o s g T):EnvOk (Env.rngd P yl N w0 lent f) o s (g,none) (fun s' b'=>b'.2=none∧T s' b'.1):=by
 intro lo r S X V w m B hv a K Q ht hK;refine h lo r S X V w m B hv a K Q ⟨ht.rel,ht.sub,ht.env.1,ht.round,ht.marks,ht.base⟩ fun s' g' hT S' X' V' w' m' hv' a' hw hm ht'=> ?_;exact hK s' (g',none) ⟨rfl,hT⟩ S' X' V' w' m' hv' a' hw hm ⟨ht'.rel,ht'.sub,⟨ht'.env,fun c hc=>by cases hc⟩,ht'.round,ht'.marks,ht'.base⟩
theorem W.forget {c:Code} {tm:List AV} {hp:List Blk} {g:γ} {Q:Exit→St γ→Prop} (h:W (Env.rngd P yl N w0 lent f) c ⟨tm,hp,(g,none)⟩ fun e s'=>Q e ⟨s'.tm,s'.hp,s'.b.1⟩):W (Env.mapped P yl N w0 lent f) c ⟨tm,hp,g⟩ Q:=by
 intro lo r S X V w m B hv a ht;refine wpIn_mono (h lo r S X V w m B hv a ⟨ht.rel,ht.sub,⟨ht.env,fun c hc=>by cases hc⟩,ht.round,ht.marks,ht.base⟩) ?_;rintro e a' w' ⟨s',S',X',V',m',hv',hq,hw,ht'⟩;exact ⟨⟨s'.tm,s'.hp,s'.b.1⟩,S',X',V',m',hv',hq,hw,⟨ht'.rel,ht'.sub,ht'.env.1,ht'.round,ht'.marks,ht'.base⟩⟩
theorem AVm9 {c:AEf9} {cl:MapC} (h:MapIs P S w cl):∃L es clock,w.heap[cl.b]? =some (.map es clock)∧Fit P cl.k heldR es clock∧DataW.map L= .map ((es.toList.map (rg P cl.k heldR)).foldr DataW.insert [])∧Ents S w cl.es L:=by
 obtain ⟨L,⟨es,clock,h1,h2,h3,h4⟩,h5⟩:=h;exact ⟨L,es,clock,h1,h2,h4,h5⟩
theorem BKx9 {g:γ} {c:MapC} {t e:TypeId} {mo:Operand} (hop:o.op= .range t mo) (hc:c∈f g) (hm:evalA s.tm mo= .d (.s (.map (some c.b)))) (K:Keyed P c.k) (ht:P.underlying t=some (.map c.k e)):
 EnvOk (Env.rngd P yl N w0 lent f) o s (g,none) fun s' b'=>∃d,s'= {tm:=putA s.tm o.dst (.d (.s (.pointer (some ⟨d,0,none⟩)))),hp:=s.hp,pv:=pvPut s.pv o.dst}∧b'=(g,some ⟨c.b,d,c.k,c.es,fun kl=>hasK kl c.es,c.es.length,none⟩):=by
 intro lo r S X V w m B hv a K' Q h hK;obtain ⟨L,es,clock,hb,F,hD,hent⟩:=AVm9 (c:=⟨0,0,0, [],fun _=>false,0,none⟩) (h.env.1.is c hc);have hlt:c.b<w.heap.size:=(Zal.1 hb).1;have hme:=ABh9 (x:=evalA s.tm mo) (by rw [hm];rfl) (AAg9 h.rel mo);have hbel:Below w.heap.size w (w.alloc (.mapIter (some c.b) clock #[] clock)):=(Below.refl _ _).alloc (Zaw _) _;have hG:=Gs.below h.rel.2.1 hbel ⟨fun _ _ h=>h,fun _ _ h=> .inl h⟩;have hrel:=h.rel.2.1.below hbel (fun _ _ h=>h) (fun _ _ h=> .inl h);have h1:Tie (Env.rngd P yl N w0 lent f) lo r S X V (w.alloc (.mapIter (some c.b) clock #[] clock)) m B hv s (g,none) a:=h.step hG ⟨h.rel.1,hrel,h.rel.2.2⟩ rfl;have hE:=h1.env.1;obtain ⟨L',hown,hent'⟩:=hE.is c hc;have hb':(w.alloc (.mapIter (some c.b) clock #[] clock)).heap[c.b]? =some (.map es clock):=((MapKept.heap_alloc w _).2 c.b hlt).trans hb;have hD':L'=L:=by
  obtain ⟨es',cl',e1,_,_,e4⟩:=hown;rw [hb'] at e1;cases e1;have:=e4.trans hD.symm;exact DataW.map.inj this
 rw [hD'] at hent';have hhas:∀kl,Maps.has (DataW.map L) kl=hasK kl c.es:=fun kl=>hent.has kl;have hlen:L.length=es.size:=by
  have:=DataW.map.inj hD;rw [this,length_sorted];simp
 have hR:AOb9 P S (w.alloc (.mapIter (some c.b) clock #[] clock)) ⟨c.b,w.heap.size,c.k,c.es,fun kl=>hasK kl c.es,c.es.length,none⟩:=by
  refine ⟨L,es,clock,clock,#[],clock,hb',F,hD,(MapKept.heap_alloc w _).1,F.stamped.1, ?_, ?_, ?_,Zaw _,Zaw _,hent',fun kl hk=>by cases hk⟩
  ·have:(leftOf es #[]).size=es.size:=by simp [leftOf]
   rw [this,←hlen,hent.length]
  ·intro x hx;obtain ⟨y,hy⟩:=F.reads x hx;have h2:Maps.has (DataW.map L) (rg P c.k heldR x).1=true:=by
    rw [hD];exact Zdv.2 ⟨rg P c.k heldR x,mem_sorted.2 (Zbg.2 ⟨x,hx,rfl⟩),WideAt.sameKey_self (by rw [rg_of hy];exact K.key (rd_key hy))⟩
   show hasK (rg P c.k heldR x).1 c.es=_;rw [←hhas,h2];simp
  ·intro kl hkl;have hkl:hasK kl c.es=true:=hkl;rw [←hhas,hD] at hkl;obtain ⟨p,hp,hpk⟩:=Zdv.1 hkl;obtain ⟨x,hx,rfl⟩:=Zbg.1 (mem_sorted.1 hp);exact ⟨x,hx,WideAt.sameKey_eq hpk⟩
 have h2:Tie (Env.rngd P yl N w0 lent f) lo r S X V (w.alloc (.mapIter (some c.b) clock #[] clock)) m B hv s (g,some ⟨c.b,w.heap.size,c.k,c.es,fun kl=>hasK kl c.es,c.es.length,none⟩) a:=
  ⟨h1.rel,h1.sub,⟨hE,fun c' hc'=>by cases hc';exact ⟨hR,Nat.le_trans h.base.1 h.base.2⟩⟩,h1.round,h1.marks,h1.base⟩
 refine AAm9 (w':=w.alloc (.mapIter (some c.b) clock #[] clock)) (v:= .pointer (some ⟨w.heap.size,0,none⟩)) (nx:= .value (.pointer (some ⟨w.heap.size,0,none⟩))) (by rw [hop];intro _ h;cases h) ?_ (.inl rfl) ?_
 ·unfold execOp;simp only [hop,hme];simp [run_range_map w t c.k e c.b es clock ht hb,Result.andThen]
 ·have hx:RV S (w.alloc (.mapIter (some c.b) clock #[] clock)) [] none (.d (.s (.pointer (some ⟨w.heap.size,0,none⟩)))) (.pointer (some ⟨w.heap.size,0,none⟩)):= .d (.s _);exact hK _ _ ⟨w.heap.size,rfl,rfl⟩ S X V _ m hv _ (hG.went h1.rel.slt) (Zef m)
   ⟨⟨by rw [AAs9,ADc9];exact h2.rel.1,(h2.rel.2.1.cons hx.opened.view (AAq9 _ _)).putTmp h2.rel.1 o.dst,ACh9 h2.rel.2.2 o.dst _⟩,h2.sub,h2.env,h2.round,by rw [ACl9];exact h2.marks,h2.base⟩
theorem BCv9 (hS:∀b i,S b i→b<w.heap.size) {d:Nat} {bb:Option Nat} {since c0 c1:Nat} {s0 s1:Array Nat} (hd:w.heap[d]? =some (Obj.mapIter bb since s0 c0)):Tr X (fun x=>x=0) S w S (w.putObj d (.mapIter bb since s1 c1)):=by
 have h:=AHq9 (Z:=X) (o':= .mapIter bb since s1 c1) hd rfl hS;refine ⟨rfl,rfl,rfl,h.size,h.cells,fun b o hb ho=> ?_,h.same,h.up,h.new,h.lt⟩;by_cases hbd:b=d
 ·subst hbd;rw [hd] at hb;cases hb;exact .inr (.inr ⟨rfl,_,World.putObj_heap_same (Zal.1 hd).1, .iter bb since s0 c0 s1 c1⟩)
 ·rw [Zch hbd];exact .inl hb
theorem Tie.putIter {b b':γ×Option AEf9} (h:Tie (Env.rngd P yl N w0 lent f) lo r S X V w m B hv s b a) {d:Nat} {bb:Option Nat} {since c0 c1:Nat} {s0 s1:Array Nat} (hd:w.heap[d]? =some (Obj.mapIter bb since s0 c0))
 (hE:(Env.rngd P yl N w0 lent f).E b' S V (w.putObj d (.mapIter bb since s1 c1))):Tie (Env.rngd P yl N w0 lent f) lo r S X V (w.putObj d (.mapIter bb since s1 c1)) m B hv s b' a:=by
 refine ⟨⟨h.rel.1,h.rel.2.1.putObj hd rfl,h.rel.2.2⟩,h.sub,hE,fun l0 hl0=> ?_, ?_,h.base.1,by simpa using h.base.2⟩
 ·obtain ⟨rc,h1⟩:=h.round l0 hl0;exact ⟨rc,ABl9 h1 (by rintro rfl;rw [hd] at h1;cases h1)⟩
 ·obtain ⟨bs,h1,h2,h3⟩:=h.marks;refine ⟨bs,h1,h2,fun b hb=>⟨(h3 b hb).1,ABl9 (h3 b hb).2 ?_⟩⟩;rintro rfl;have h4:=(h3 _ hb).2;rw [hd] at h4;cases h4
theorem MapsE.putIter {β:List MapC} (h:MapsE P N w0 lent β S w) {d:Nat} {bb:Option Nat} {since c0 c1:Nat} {s0 s1:Array Nat} (hd:w.heap[d]? =some (Obj.mapIter bb since s0 c0)) (hN:N≤d):MapsE P N w0 lent β S (w.putObj d (.mapIter bb since s1 c1)):=
 ⟨fun c hc=>(h.is c hc).mono (fun es cl h1=>by
  have hne:c.b≠d:=by rintro e;rw [e,hd] at h1;cases h1
  rw [Zch hne];exact h1) fun x v hx=>hx.putObj hd rfl h.lt,
  h.nd,h.mine,fun b o h1 h2 hm h3=>by rw [Zch (by omega)];exact h.kept b o h1 h2 hm h3,fun b i h1=>by simpa using h.lt b i h1⟩
theorem Tie.drew1 {Ev:Env P} {b:Ev.β} (h:Tie Ev lo r S X V w m B hv s b a):Tie Ev lo r S X V w.drew m B hv s b a:=by
 have hb:Below w.heap.size w w.drew:=⟨rfl,rfl,rfl,Zaw _,fun _ _=>rfl⟩;exact h.step (Gs.below h.rel.2.1 hb ⟨fun _ _ h=>h,fun _ _ h=> .inl h⟩) ⟨h.rel.1,h.rel.2.1.below hb (fun _ _ h=>h) (fun _ _ h=> .inl h),h.rel.2.2⟩ rfl
theorem BVb9 {g:γ} {c:AEf9} {io:Operand} (hop:o.op= .next io false) (hm:evalA s.tm io= .d (.s (.pointer (some ⟨c.r,0,none⟩)))) (K:Keyed P c.k) (hkey:∀key kl,keyOf P c.k key=some kl→∃n,kl= .int .i64 n∧key= .int .i64 n) {z:AV} {zv:Value} (hzv:∀S w,RV S w [] none z zv):
 EnvOk (Env.rngd P yl N w0 lent f) o s (g,some c) fun s' b'=>(s'= {tm:=putA s.tm o.dst (.tup [.d (.s (.bool false))]),hp:=s.hp,pv:=pvPut s.pv o.dst}∧b'=(g,some c)∧∀kl,c.left kl=false)∨
  ∃ n cnt',c.left (.int .i64 n)=true∧hasK (.int .i64 n) c.es=true∧cnt'<c.cnt∧s'= {tm:=putA s.tm o.dst (.tup [.d (.s (.bool true)), .d (.s (.int .i64 n)),atK (.int .i64 n) z c.es]),hp:=s.hp,pv:=pvPut s.pv o.dst}∧
   b'=(g,some {c with left:=fun x=>c.left x&& !x.sameKey (.int .i64 n),cnt:=cnt',cur:=some (.int .i64 n)}):=by
 intro lo r S X V w m B hv a K' Q h hK;obtain ⟨hE,hR⟩:=h.env;obtain ⟨hR,hN⟩:=hR c rfl;have hRR:=hR;obtain ⟨L,es,clock,since,seen,c0,hb,F,hD,hr,hold,hcnt,hl1,hl2,hsc,hsk,hent,hcur⟩:=hR;have hme:=ABh9 (x:=evalA s.tm io) (by rw [hm];rfl) (AAg9 h.rel io);have hne:c.r≠c.b:=by rintro e;rw [e,hb] at hr;cases hr
 have hview:∀x:List AV,(AV.tup x).view= .tup x:=fun _=>rfl;rcases run_next_at (P:=P) w o.type c.r c.b since c0 seen es clock hr hb hold hsc with ⟨h0,hrun⟩|⟨e,he,w1,hal,hrun⟩
 ·refine AAm9 (w':=w) (v:= .tuple #[.bool false]) (nx:= .value (.tuple #[.bool false])) (by rw [hop];intro _ h;cases h) ?_ (.inl rfl) ?_
  ·unfold execOp;simp only [hop,hme];simp [hrun,Result.andThen]
  ·have hx:RV S w [] none (.tup [.d (.s (.bool false))]) (.tuple #[.bool false]):= .tup rfl fun i c' v' h5 h6=>by
    match i with
    |0=>simp at h5 h6;subst h5 h6;exact .d (.s _)
    |i+1=>simp at h5
   refine hK _ _ (.inl ⟨rfl,rfl,fun kl=> ?_⟩) S X V w m hv _ (Went.refl h.rel.slt) (Zef m)
    ⟨⟨by rw [AAs9,ADc9];exact h.rel.1,(h.rel.2.1.cons hx.opened (by simp [ownB])).putTmp h.rel.1 o.dst,ACh9 h.rel.2.2 o.dst _⟩,h.sub,h.env,h.round,by rw [ACl9];exact h.marks,h.base⟩
   cases hk:c.left kl
   ·rfl
   ·obtain ⟨x,hx,rfl⟩:=hl2 kl hk;rw [hl1 x hx,all_seen es seen h0 x hx] at hk;cases hk
 ·obtain ⟨hem,hes⟩:=mem_left he;obtain ⟨y0,hy0⟩:=F.reads e hem;obtain ⟨zz,hz,hzd⟩:=rd_val hy0;have hk0:=rd_key hy0;have hrg:(rg P c.k heldR e).1=y0.1:=by rw [rg_of hy0]
  obtain ⟨n,hn1,hn2⟩:=hkey _ _ hk0;have hr1:w1.heap[c.r]? =some (.mapIter (some c.b) since seen c0):=by rcases hal with rfl|rfl<;>exact hr
  have hb1:w1.heap[c.b]? =some (.map es clock):=by rcases hal with rfl|rfl<;>exact hb
  have h1:Tie (Env.rngd P yl N w0 lent f) lo r S X V w1 m B hv s (g,some c) a:=by
   rcases hal with rfl|rfl
   ·exact h
   ·exact h.drew1
  have hGw:Went (fun x=>x=0) S X V w S X V w1:=by
   rcases hal with rfl|rfl
   ·exact Went.refl h.rel.slt
   ·have hbl:Below w.heap.size w w.drew:=⟨rfl,rfl,rfl,Zaw _,fun _ _=>rfl⟩;exact (Gs.below h.rel.2.1 hbl ⟨fun _ _ h=>h,fun _ _ h=> .inl h⟩).went h1.rel.slt
  obtain ⟨hE1,hR1⟩:=h1.env;obtain ⟨L1,es1,clock1,since1,seen1,c01,hb1',F1,hD1,_,_,_,_,_,_,_,hent1,_⟩:=(hR1 c rfl).1;have hL1:L1=L∧es1=es∧clock1=clock:=by
   rw [hb1] at hb1';cases hb1';exact ⟨DataW.map.inj (hD1.trans hD.symm),rfl,rfl⟩
  obtain ⟨rfl,rfl,rfl⟩:=hL1;have hb2:(w1.putObj c.r (.mapIter (some c.b) since (seen.push e.born) clock1)).heap[c.b]? =some (.map es1 clock1):=by rw [Zch (fun e1=>hne e1.symm)];exact hb1
  have hr2:(w1.putObj c.r (.mapIter (some c.b) since (seen.push e.born) clock1)).heap[c.r]? =some (.mapIter (some c.b) since (seen.push e.born) clock1):=World.putObj_heap_same (Zal.1 hr1).1;have hes1:∀x v,RV S w1 [] none x v→RV S (w1.putObj c.r (.mapIter (some c.b) since (seen.push e.born) clock1)) [] none x v:=fun x v hx=>hx.putObj hr1 rfl hE1.lt;have hent2:Ents S (w1.putObj c.r (.mapIter (some c.b) since (seen.push e.born) clock1)) c.es L1:=hent1.mono hes1;have hRn:AOb9 P S (w1.putObj c.r (.mapIter (some c.b) since (seen.push e.born) clock1)) {c with left:=fun x=>c.left x&& !x.sameKey (.int .i64 n),cnt:=(leftOf es1 (seen.push e.born)).size,cur:=some (.int .i64 n)}:=by
   refine ⟨L1,es1,clock1,since,seen.push e.born,clock1,hb2,F,hD,hr2,hold,rfl,fun x hx=> ?_,fun kl hkl=>hl2 kl (by simp at hkl;exact hkl.1),hsk,hsk,hent2,fun kl hk=>⟨e,hem,seen,rfl,rfl, ?_⟩⟩
   ·show (c.left (rg P c.k heldR x).1&& !(rg P c.k heldR x).1.sameKey (.int .i64 n))=_;rw [hl1 x hx,←hn1,←hrg,same_iff_born K F hx hem,contains_push];cases seen.contains x.born<;>cases (x.born==e.born)<;>rfl
   ·cases hk;rw [hrg,hn1]
  have h2:Tie (Env.rngd P yl N w0 lent f) lo r S X V (w1.putObj c.r (.mapIter (some c.b) since (seen.push e.born) clock1)) m B hv s (g,some {c with left:=fun x=>c.left x&& !x.sameKey (.int .i64 n),cnt:=(leftOf es1 (seen.push e.born)).size,cur:=some (.int .i64 n)}) a:=
   h1.putIter hr1 ⟨hE1.putIter hr1 hN,fun c' hc'=>by cases hc';exact ⟨hRn,hN⟩⟩
  obtain ⟨v,hv1,hv2⟩:=hent2.at (.int .i64 n) (hzv S (w1.putObj c.r (.mapIter (some c.b) since (seen.push e.born) clock1)));have hval:v=e.val:=by
   have h3:(DataW.map L1).atKey y0.1 (.held zv)=y0.2:=by
    rw [hD,(atKey_sorted (es1.toList.map (rg P c.k heldR)) (Maps.fit_rising K F) y0.1 (K.key hk0)).2 (rg P c.k heldR e) (Zbg.2 ⟨e,hem,rfl⟩) hrg,rg_of hy0]
   rw [hn1] at h3;rw [h3] at hv1;rw [hzd] at hv1;have hz':zz=(.held e.val, []):=(Option.some.inj hz).symm;rw [hz'] at hv1;cases hv1;rfl
  have hx:RV S (w1.putObj c.r (.mapIter (some c.b) since (seen.push e.born) clock1)) [] none (.tup [.d (.s (.bool true)), .d (.s (.int .i64 n)),atK (.int .i64 n) z c.es]) (.tuple #[.bool true,e.key,e.val]):= .tup rfl fun i c' v' h5 h6=>by
   match i with
   |0=>simp at h5 h6;subst h5 h6;exact .d (.s _)
   |1=>simp at h5 h6;subst h5 h6;rw [hn2];exact .d (.s _)
   |2=>simp at h5 h6;subst h5 h6;rw [←hval];exact hv2
   |i+3=>simp at h5
  have hhas:hasK (.int .i64 n) c.es=true:=by
   rw [←hent.has,hD];exact Zdv.2 ⟨rg P c.k heldR e,mem_sorted.2 (Zbg.2 ⟨e,hem,rfl⟩),by rw [←hn1,←hrg];exact WideAt.sameKey_self (by rw [hrg];exact K.key hk0)⟩
  refine AAm9 (w':=w1.putObj c.r (.mapIter (some c.b) since (seen.push e.born) clock1)) (v:= .tuple #[.bool true,e.key,e.val]) (nx:= .value (.tuple #[.bool true,e.key,e.val])) (by rw [hop];intro _ h;cases h) ?_ (.inl rfl) ?_
  ·unfold execOp;simp only [hop,hme];have hrun':(Instr.next (.pointer (some ⟨c.r,0,none⟩)) false o.type).run P w= .ok (.tuple #[.bool true,e.key,e.val]) (w1.putObj c.r (.mapIter (some c.b) since (seen.push e.born) clock1)):=hrun;simp [hrun',Result.andThen]
  ·refine hK _ _ (.inr ⟨n,(leftOf es1 (seen.push e.born)).size, ?_,hhas, ?_,rfl,rfl⟩) S X V _ m hv _ (hGw.trans ⟨BCv9 h1.rel.slt hr1,fun _ _ h=>h,fun _ _ h=> .inl h⟩) (Zef m)
    ⟨⟨by rw [AAs9,ADc9];exact h2.rel.1,(h2.rel.2.1.cons hx.opened (by simp [ownB])).putTmp h2.rel.1 o.dst,ACh9 h2.rel.2.2 o.dst _⟩,h2.sub,h2.env,h2.round,by rw [ACl9];exact h2.marks,h2.base⟩
   ·rw [←hn1,←hrg,hl1 e hem,hes];rfl
   ·rw [←hcnt];exact left_shrinks es1 seen e he
theorem BMt9 {g:γ} {c:AEf9} {io:Operand} {n:Int} (hop:o.op= .entry io) (hm:evalA s.tm io= .d (.s (.pointer (some ⟨c.r,0,none⟩)))) (K:Keyed P c.k) (hkey:∀key kl,keyOf P c.k key=some kl→∃n,kl= .int .i64 n∧key= .int .i64 n) (hc:c.cur=some (.int .i64 n)) {z:AV} {zv:Value} (hzv:∀S w,RV S w [] none z zv):
 EnvOk (Env.rngd P yl N w0 lent f) o s (g,some c) fun s' b'=>s'= {tm:=putA s.tm o.dst (.tup [.d (.s (.int .i64 n)),atK (.int .i64 n) z c.es]),hp:=s.hp,pv:=pvPut s.pv o.dst}∧b'=(g,some c):=by
 intro lo r S X V w m B hv a K' Q h hK;obtain ⟨hE,hR⟩:=h.env;obtain ⟨hR,hN⟩:=hR c rfl;obtain ⟨L,es,clock,since,seen,c0,hb,F,hD,hr,hold,hcnt,hl1,hl2,hsc,hsk,hent,hcur⟩:=hR;obtain ⟨e,hem,s0,rfl,rfl,he⟩:=hcur _ hc;have hme:=ABh9 (x:=evalA s.tm io) (by rw [hm];rfl) (AAg9 h.rel io);obtain ⟨y0,hy0⟩:=F.reads e hem;obtain ⟨zz,hz,hzd⟩:=rd_val hy0;have hk0:=rd_key hy0;have hrg:(rg P c.k heldR e).1=y0.1:=by rw [rg_of hy0]
 obtain ⟨n',hn1,hn2⟩:=hkey _ _ hk0;have hnn:n'=n:=by rw [hrg,hn1] at he;cases he;rfl
 subst hnn;have hrun:=run_entry_at (P:=P) w c.r c.b since s0 es c0 e hr hb hem ((stamped_iff es c0).1 F.stamped).2.1;obtain ⟨v,hv1,hv2⟩:=hent.at (.int .i64 n') (hzv S w);have hval:v=e.val:=by
  have h3:(DataW.map L).atKey y0.1 (.held zv)=y0.2:=by
   rw [hD,(atKey_sorted (es.toList.map (rg P c.k heldR)) (Maps.fit_rising K F) y0.1 (K.key hk0)).2 (rg P c.k heldR e) (Zbg.2 ⟨e,hem,rfl⟩) hrg,rg_of hy0]
  rw [hn1] at h3;rw [h3] at hv1;rw [hzd] at hv1;have hz':zz=(.held e.val, []):=(Option.some.inj hz).symm;rw [hz'] at hv1;cases hv1;rfl
 have hx:RV S w [] none (.tup [.d (.s (.int .i64 n')),atK (.int .i64 n') z c.es]) (.tuple #[e.key,e.val]):= .tup rfl fun i c' v' h5 h6=>by
  match i with
  |0=>simp at h5 h6;subst h5 h6;rw [hn2];exact .d (.s _)
  |1=>simp at h5 h6;subst h5 h6;rw [←hval];exact hv2
  |i+2=>simp at h5
 refine AAm9 (w':=w) (v:= .tuple #[e.key,e.val]) (nx:= .value (.tuple #[e.key,e.val])) (by rw [hop];intro _ h;cases h) ?_ (.inl rfl) ?_
 ·unfold execOp;simp only [hop,hme];simp [hrun,Result.andThen]
 ·exact hK _ _ ⟨rfl,rfl⟩ S X V w m hv _ (Went.refl h.rel.slt) (Zef m)
   ⟨⟨by rw [AAs9,ADc9];exact h.rel.1,(h.rel.2.1.cons hx.opened (by simp [ownB])).putTmp h.rel.1 o.dst,ACh9 h.rel.2.2 o.dst _⟩,h.sub,h.env,h.round,by rw [ACl9];exact h.marks,h.base⟩
theorem MCall.ofFnR {k n:Nat} {fn:Func} {args:List AV} {g:γ} {R:AV→γ→Prop} {T:List (Nat×(List AV→(AV→Prop)→Prop))} {U:List (Nat×(List AV→List Blk→(AV→List Blk→Prop)→Prop))} {u:Bool} (wl:WLT (γ×Option AEf9)) (hm:P.follows .mixedOrders=true)
 (hT:AAc9 P T) (hS:AAl9 P U) (hwl:∀(N:Nat) (w0:World) c tm hp b K,wl c tm hp b K→W (Env.rngd P none N w0 ((f g).map MapC.b) f) c ⟨tm,hp,b⟩ (fun e s=>K e s.tm s.hp s.b)) (hf:P.funcs[k]? =some fn) (hn:(fn.name== "runtime.NumGoroutine")=false) (hargs:args.map AV.view=args)
 (h:wpFn P ⟨T,U,wl,fun _ _ _=>False,u⟩ n fn args (g,none) fun x b=>R x b.1):MCall P f k args g R:=by
 cases hb:fn.body with
 | some c=>
  unfold wpFn at h;rw [hb] at h;refine MCall.ofW hf hb hn hargs fun N w0=>W.forget ?_;refine W.castPost (AAw9 hm (CX.Ok.ofWl (Ev:=Env.rngd P none N w0 ((f g).map MapC.b) f) hT hS (hwl N w0)) h fun e tm hp b hK=> ?_);exact ⟨tm,hp,LeL.refl _,Zbp _,AFq9 (Ev:=Env.rngd P none N w0 ((f g).map MapC.b) f) (R:=fun x b=>R x b.1) hK⟩
 | none=>
  unfold wpFn at h;rw [hb] at h;exact h.elim
end
def AVy9 (ops:Array Oper) (i k:Nat):Bool:=
 (Zbs ops.size).all fun j=>match ops[j]? with
  |some o=>(AAo9 o).all (fun e=>Nat.blt e j)&&(if Nat.ble i j&&Nat.blt j k then ADd9 o&&((o.looksAt ops).all (fun t=>(Zbs k).all fun j'=>Nat.blt j' i||match ops[j']? with
   |some o'=>o'.dst !=some t||(AAo9 o).contains j'
   |none=>true)&&(Zbs j).all fun j'=>Nat.blt j' i||match ops[j']? with
   |some o'=>o.dst==none||o'.dst !=o.dst
   |none=>true)
   else Nat.blt j k||(Zbs k).all fun j'=>(ancOf ops ops.size j).contains j')
  |none=>true
def cutOk (ops:Array Oper) (k:Nat):Bool:=
 (Zbs ops.size).all fun j=>match ops[j]? with
  |some o=>(AAo9 o).all (fun e=>Nat.blt e j)&&(Nat.blt j k||(Zbs k).all fun j'=>(ancOf ops ops.size j).contains j')
  |none=>true
def cutsC (ops:Array Oper):Nat→Nat→Nat→List (Nat×Nat)
 |0,_,_=> []
 |n+1,i,k=>if Nat.ble ops.size i then [] else if cutOk ops k then (i,k)::cutsC ops n k (k+1) else cutsC ops n i (k+1)
def ATy9 (ops:Array Oper):Nat→List (Nat×Nat)→Bool
 |i, []=>Nat.beq i ops.size
 |i,(a,k)::l=>Nat.beq a i&&(Nat.blt i k&&(Nat.ble k ops.size&&(cutOk ops k&&ATy9 ops k l)))
section
variable {P:Program} {S S' X:Pr} {r:Option Nat} {yv:Option Nat} {w w':World} {m m':List MB} {B:List (AV×Value)} {hp:List Blk} {hv hv':List (List Value)} {call:CallT} {a a':Act} {ops:Array Oper}
theorem AIz9 {i k j:Nat} {o:Oper} (h:AVy9 ops i k=true) (hj:ops[j]? =some o):
 (∀e∈AAo9 o,e<j)∧(i≤j→j<k→ADd9 o=true∧(∀t∈o.looksAt ops,∀(j':Nat) (o':Oper),i≤j'→j'<k→ops[j']? =some o'→o'.dst=some t→j'∈AAo9 o)∧(∀(j':Nat) (o':Oper),i≤j'→j'<j→ops[j']? =some o'→o.dst≠none→o'.dst≠o.dst))∧
 (k≤j→∀j',j'<k→j'∈ancOf ops ops.size j):=by
 have hjl:=(Zal.1 hj).1;have h1:=Zbd.1 h j (Zci.2 hjl);rw [hj] at h1;simp only [Zai,Zbd] at h1;obtain ⟨h1,h2⟩:=h1;refine ⟨fun e he=>by have:=h1 e he;rwa [Nat.blt_eq] at this,fun hij hjk=> ?_,fun hkj j' hj'=> ?_⟩
 ·have hc:(Nat.ble i j=true∧Nat.blt j k=true):=⟨Nat.ble_eq_true_of_le hij,by rw [Nat.blt_eq];exact hjk⟩;rw [if_pos hc] at h2;simp only [Zai,Zbd,Zci,Zeb] at h2;obtain ⟨h2,h3,h4⟩:=h2;refine ⟨h2,fun t ht j' o' h5 h6 h7 h8=> ?_,fun j' o' h5 h6 h7 h8 h9=> ?_⟩
  ·rcases h3 t ht j' h6 with h|h
   ·rw [Nat.blt_eq] at h;omega
   ·rw [h7] at h;simp only [Zeb,bne_iff_ne,ne_eq,List.contains_iff_mem] at h;exact h.resolve_left fun h=>h h8
  ·rcases h4 j' h6 with h|h
   ·rw [Nat.blt_eq] at h;omega
   ·rw [h7] at h;simp only [Zeb,beq_iff_eq,bne_iff_ne,ne_eq] at h;exact (h.resolve_left h8) h9
 ·have hc:¬(Nat.ble i j=true∧Nat.blt j k=true):=fun h=>by
   have:=h.2;rw [Nat.blt_eq] at this;omega
  rw [if_neg hc] at h2;simp only [Zeb,Zbd,Zci,List.contains_iff_mem] at h2;rcases h2 with h|h
  ·rw [Nat.blt_eq] at h;omega
  ·exact h j' hj'
theorem CEf9 {k j:Nat} {o:Oper} (h:cutOk ops k=true) (hj:ops[j]? =some o):(∀e∈AAo9 o,e<j)∧(k≤j→∀j',j'<k→j'∈ancOf ops ops.size j):=by
 have hjl:=(Zal.1 hj).1;have h1:=Zbd.1 h j (Zci.2 hjl);rw [hj] at h1;simp only [Zai,Zbd,Zeb,Zci,List.contains_iff_mem] at h1;obtain ⟨h1,h2⟩:=h1;refine ⟨fun e he=>by have:=h1 e he;rwa [Nat.blt_eq] at this,fun hkj j' hj'=> ?_⟩;rcases h2 with h|h
 ·rw [Nat.blt_eq] at h;omega
 ·exact h j' hj'
theorem AQq9 {i0 k:Nat} (hd:AVy9 ops i0 k=true) (hk:k≤ops.size):∀(c:Nat) {i:Nat} {tm tmK:List AV},c=k - i→i0≤i→i≤k→xPre P call ops hp ((ops.toList.take k).drop i) tm=some tmK→
 (∀(j:Nat) (o:Oper),i≤j→j<k→ops[j]? =some o→∃x,xp P call ops hp tmK o=some x∧∀d,o.dst=some d→d<tm.length→tmK[d]? =some x)∧
 (∀t,(∀(j:Nat) (o:Oper),i≤j→j<k→ops[j]? =some o→o.dst≠some t)→tmK[t]? =tm[t]?)∧tmK.length=tm.length
 | 0,i,tm,tmK,hn,hi0,hi,hx=>by
  have hdrop:(ops.toList.take k).drop i= []:=List.drop_eq_nil_of_le (by simp;omega);rw [hdrop] at hx;simp only [xPre,Option.some.injEq] at hx;subst hx;exact ⟨fun j o h1 h2=>by omega,fun t _=>rfl,rfl⟩
 | c+1,i,tm,tmK,hn,hi0,hi,hx=>by
  have hil:i<ops.size:=by omega
  have hoi:ops[i]? =some ops[i]:=by simp [hil]
  have hdrop:(ops.toList.take k).drop i=ops[i]::(ops.toList.take k).drop (i+1):=by
   rw [List.drop_eq_getElem_cons (by simp;omega)];simp
  rw [hdrop] at hx;simp only [xPre] at hx;split at hx<;>try (cases hx;done)
  rename_i x hxp;obtain ⟨h1,h2,h3⟩:=AQq9 hd hk c (i:=i+1) (by omega) (by omega) (by omega) hx;obtain ⟨hedge,hst,_⟩:=AIz9 hd hoi;obtain ⟨hpure,hlook,_⟩:=hst hi0 (by omega);have hlen:(putA tm ops[i].dst x).length=tm.length:=AAs9 _ _ _;have hsame:∀t∈ops[i].looksAt ops,tmK[t]? =tm[t]? :=by
   intro t ht;have hno:∀(j:Nat) (o:Oper),i≤j→j<k→ops[j]? =some o→o.dst≠some t:=by
    intro j o hij hjk ho hdst;have:=hedge j (hlook t ht j o (by omega) (by omega) ho hdst);omega
   rw [h2 t (fun j o hij hjk ho=>hno j o (by omega) hjk ho),ACi9 (hno i ops[i] (Zaw _) (by omega) hoi)]
  refine ⟨fun j o hij hjk ho=> ?_,fun t ht=> ?_,h3.trans hlen⟩
  ·rcases Nat.eq_or_lt_of_le hij with rfl|hlt
   ·rw [hoi] at ho;cases ho;refine ⟨x,by rw [AHb9 (tm':=tm) (fun t ht=>AFu9 (hsame t ht))];exact hxp,fun d hdst hdl=> ?_⟩;rw [h2 d (fun j o hij hjk ho hdd=> ?_)]
    ·rw [hdst];simp [putA,hdl]
    ·have:=((AIz9 hd ho).2.1 (by omega) (by omega)).2.2 i ops[i] (by omega) (by omega) hoi (by rw [hdd];simp);exact this (by rw [hdst,hdd])
   ·obtain ⟨x',h4,h5⟩:=h1 j o (by omega) hjk ho;exact ⟨x',h4,fun d hdst hdl=>h5 d hdst (by rw [hlen];exact hdl)⟩
  ·rw [h2 t (fun j o hij hjk ho=>ht j o (by omega) hjk ho),ACi9 (ht i ops[i] (Zaw _) (by omega) hoi)]
structure StInv (ops:Array Oper) (i k:Nat) (tm0 tmF tm:List AV) (listed:Array Bool):Prop where
 sz:listed.size=ops.size
 low:∀j,j<i→listed.getD j false=true
 far:∀j,k≤j→listed.getD j false=false
 down:∀(j:Nat) (o':Oper),ops[j]? =some o'→listed.getD j false=true→∀e∈AAo9 o',listed.getD e false=true
 len:tm.length=tm0.length
 got:∀(j:Nat) (o:Oper) (d:Nat),i≤j→j<k→ops[j]? =some o→o.dst=some d→listed.getD j false=true→tm[d]? =tmF[d]?
 old:∀t,(∀(j:Nat) (o:Oper),i≤j→j<k→ops[j]? =some o→listed.getD j false=true→o.dst≠some t)→tm[t]? =tm0[t]?
theorem AYt9 {QQ:Exit→Act→World→Prop} {i k:Nat} (hcall:AGn9 P call) (hd:AVy9 ops i k=true) (hik:i≤k) (hk:k≤ops.size) {tm0 tmK:List AV} (hx0:xPre P call ops hp ((ops.toList.take k).drop i) tm0=some tmK):
 ∀(u:Nat) {S:Pr} {w:World} {m:List MB} {hv:List (List Value)} {a:Act} {listed:Array Bool} {tm:List AV},u=(unl ops.size listed).length→StInv ops i k tm0 tmK tm listed→RelS S X yv w m B hv ⟨tm,hp, []⟩ a→
 Nx S X yv w m B ⟨tmK,hp, []⟩ a (fun a w=>∀listed:Array Bool,listed.size=ops.size→(∀j,j<ops.size→listed.getD j false=decide (j<k))→wpAnyIn (Fn r) 0 P .any ops QQ (ops.size - k) listed a w)→
 wpAnyIn (Fn r) 0 P .any ops QQ u listed a w:=by
 obtain ⟨spec,sp2,sp3⟩:=AQq9 (call:=call) (P:=P) (hp:=hp) hd hk (k - i) (i:=i) (tm:=tm0) (tmK:=tmK) rfl (Zaw _) hik hx0;have hfin:∀ {listed:Array Bool} {tm:List AV},StInv ops i k tm0 tmK tm listed→(∀j,j<k→listed.getD j false=true)→tm=tmK:=by
  intro listed tm hI hall;apply List.ext_getElem?;intro t;by_cases hc:∃(j:Nat) (o:Oper),i≤j∧j<k∧ops[j]? =some o∧o.dst=some t
  ·obtain ⟨j,o,g0,g1,g2,g3⟩:=hc;exact hI.got j o t g0 g1 g2 g3 (hall j g1)
  ·rw [hI.old t (fun j o g0 g1 g2 _ g3=>hc ⟨j,o,g0,g1,g2,g3⟩),sp2 t (fun j o g0 g1 g2 g3=>hc ⟨j,o,g0,g1,g2,g3⟩)]
 have hcount:∀ {listed:Array Bool},listed.size=ops.size→(∀j,j<ops.size→listed.getD j false=decide (j<k))→(unl ops.size listed).length=ops.size - k:=by
  intro listed hs hlist;have e:unl ops.size listed=(Zbs ops.size).filter fun j=> !decide (j<k):=by
   unfold unl;refine List.filter_congr fun j hj=> ?_;rw [hlist j (Zci.1 hj)]
  rw [e];have e2:Zbs ops.size=Zbs k++(Zbs (ops.size - k)).map (k+ ·):=by
   rw [←List.range_add];congr 1;omega
  rw [e2,List.filter_append];have e3:(Zbs k).filter (fun j=> !decide (j<k))= []:=by
   rw [List.filter_eq_nil_iff];intro j hj;have:=Zci.1 hj;simp [this]
  rw [e3,List.filter_eq_self.2]
  ·simp
  ·intro j hj;obtain ⟨l,_,rfl⟩:=Zbg.1 hj;simp
 intro u;induction u with
 | zero=>
  intro S w m hv a listed tm hu hI hr hK;have hall:∀j,j<ops.size→listed.getD j false=true:=by
   intro j hj;cases hh:listed.getD j false with
   |true=>rfl
   | false=>
    have:j∈unl ops.size listed:=by simp only [unl,List.mem_filter,Zci,hh];exact ⟨hj,rfl⟩
    rw [List.length_eq_zero_iff.1 hu.symm] at this;cases this
  have hkk:k=ops.size:=by
   rcases Zdc k ops.size with h'|h'
   ·have:=hall _ h';rw [hI.far _ (Zaw _)] at this;cases this
   ·omega
  have:=hfin hI fun j hj=>hall j (by omega);subst this;have:=hK S w m hv a (Gs.refl _ _ _ _ _) hr rfl rfl listed hI.sz (fun j hj=>by rw [hall j hj];simp;omega);rw [hkk,Nat.sub_self] at this;exact this
 | succ u ih=>
  intro S w m hv a listed tm hu hI hr hK;by_cases hdone:∀j,j<k→listed.getD j false=true
  ·have:=hfin hI hdone;subst this;have hlist:∀j,j<ops.size→listed.getD j false=decide (j<k):=by
    intro j hj;by_cases hjk:j<k
    ·rw [hdone j hjk];simp [hjk]
    ·rw [hI.far j (by omega)];simp [hjk]
   rw [hu,hcount hI.sz hlist];exact hK S w m hv a (Gs.refl _ _ _ _ _) hr rfl rfl listed hI.sz hlist
  ·have hex:∃j,j<k∧listed.getD j false=false:=by
    apply Classical.byContradiction;intro hno;exact hdone fun j hj=>by
     cases hh:listed.getD j false with
     |true=>rfl
     |false=>exact absurd ⟨j,hj,hh⟩ hno
   have hmin:∃j,j<k∧listed.getD j false=false∧∀i,i<j→listed.getD i false=true:=by
    obtain ⟨j,hj⟩:=hex;induction j using Nat.strongRecOn with
    | ind j ihj=>
     by_cases hall:∀i,i<j→listed.getD i false=true
     ·exact ⟨j,hj.1,hj.2,hall⟩
     ·have:∃i,i<j∧listed.getD i false=false:=by
       apply Classical.byContradiction;intro hno;exact hall fun i hi=>by
        cases hh:listed.getD i false with
        |true=>rfl
        |false=>exact absurd ⟨i,hi,hh⟩ hno
      obtain ⟨i,hi,hi0⟩:=this;exact ihj i hi ⟨by omega,hi0⟩
   obtain ⟨j0,hj0k,hj00,hj0all⟩:=hmin;have hgt:∀j,j<ops.size→listed.getD j true=listed.getD j false:=by
    intro j hj;simp [hI.sz,hj]
   have hmem:j0∈Zec .any ops listed:=by
    have hj0:j0<ops.size:=by omega
    refine ABg9 (o:=ops[j0]) (by simp [hj0]) (by rw [hgt j0 hj0];exact hj00) fun e he=> ?_;exact hj0all e ((AIz9 hd (by simp [hj0])).1 e he)
   refine ⟨fun h0=>(by rw [h0] at hmem;cases hmem),fun j hj=> ?_⟩;obtain ⟨oj,hoj,hj0,hje⟩:=ABo9 hj;have hjl:j<ops.size:=(Zal.1 hoj).1;rw [hgt j hjl] at hj0;have hjk:j<k:=by
    rcases Zdc j k with h'|h'
    ·exact h'
    ·have:=AEe9 hI.down ops.size j oj hoj hje j0 ((AIz9 hd hoj).2.2 h' j0 (by omega));rw [hj00] at this;cases this
   have hij:i≤j:=by
    rcases Zdc j i with h'|h'
    ·have:=hI.low j h';rw [hj0] at this;cases this
    ·exact h'
   obtain ⟨hedge,hst,_⟩:=AIz9 hd hoj;obtain ⟨hpk,hlk,huq⟩:=hst hij hjk;have hsame:∀t∈oj.looksAt ops,tm[t]? =tmK[t]? :=by
    intro t ht;by_cases hc:∃(j':Nat) (o:Oper),i≤j'∧j'<k∧ops[j']? =some o∧o.dst=some t
    ·obtain ⟨j',o,g0,g1,g2,g3⟩:=hc;exact hI.got j' o t g0 g1 g2 g3 (hje j' (hlk t ht j' o g0 g1 g2 g3))
    ·rw [hI.old t (fun j o g0 g1 g2 _ g3=>hc ⟨j,o,g0,g1,g2,g3⟩),sp2 t (fun j o g0 g1 g2 g3=>hc ⟨j,o,g0,g1,g2,g3⟩)]
   have hget:∀i,(listed.setIfInBounds j true).getD i false=(if i=j then true else listed.getD i false):=by
    intro i;simp only [Array.getD_eq_getD_getElem?,Array.getElem?_setIfInBounds];by_cases hij:j=i
    ·subst hij;simp [hI.sz,hjl]
    ·simp [hij,Ne.symm hij]
   have hdown':∀(i:Nat) (o':Oper),ops[i]? =some o'→(listed.setIfInBounds j true).getD i false=true→∀e∈AAo9 o',(listed.setIfInBounds j true).getD e false=true:=by
    intro i o' ho' hi e he;rw [hget] at hi ⊢;split at hi
    ·rename_i hij;subst hij;rw [hoj] at ho';cases ho';split
     ·rfl
     ·exact hje e he
    ·split
     ·rfl
     ·exact hI.down i o' ho' hi e he
   have hdst:∀(i':Nat) (o:Oper),i≤i'→i'<k→i'≠j→ops[i']? =some o→oj.dst≠none→o.dst≠oj.dst:=by
    intro i' o hii hik hij' ho hne he;rcases Zdc i' j with h'|h'
    ·exact huq i' o hii h' ho hne he
    ·exact ((AIz9 hd ho).2.1 hii hik).2.2 j oj hij (by omega) hoj (by rw [he];exact hne) he.symm
   obtain ⟨x,hxp0,hxd⟩:=spec j oj hij hjk hoj;have hxp':xp P call ops hp tm oj=some x:=by
    rw [AHb9 (tm':=tmK) (fun t ht=>AFu9 (hsame t ht))];exact hxp0
   obtain ⟨pv',hst,_,_⟩:=AVp9 (pv:= []) hpk hxp';have hxF:∀d,oj.dst=some d→d<tm.length→tmK[d]? =some x:=fun d hod hdl=>hxd d hod (by rw [←hI.len];exact hdl);have htl:tm.length=tmK.length:=by rw [hI.len,sp3]
   have hgot':∀(i':Nat) (o:Oper) (d:Nat),i≤i'→i'<k→ops[i']? =some o→o.dst=some d→(listed.setIfInBounds j true).getD i' false=true→(putA tm oj.dst x)[d]? =tmK[d]? :=by
    intro i' o d hii hik ho hod hi';rw [hget] at hi';by_cases hij:i'=j
    ·subst hij;rw [hoj] at ho;cases ho;rw [hod];by_cases hdl:d<tm.length
     ·rw [hxF d hod hdl];simp [putA,hdl]
     ·simp only [putA];rw [List.getElem?_eq_none (by simp;omega),List.getElem?_eq_none (by omega)]
    ·rw [if_neg hij] at hi';rw [ACi9]
     ·exact hI.got i' o d hii hik ho hod hi'
     ·intro he;exact hdst i' o hii hik hij ho (by rw [he];simp) (by rw [hod,he])
   have hold':∀(t:Nat),(∀(j':Nat) (o:Oper),i≤j'→j'<k→ops[j']? =some o→(listed.setIfInBounds j true).getD j' false=true→o.dst≠some t)→(putA tm oj.dst x)[t]? =tm0[t]? :=by
    intro t ht;rw [ACi9 (ht j oj hij hjk hoj (by rw [hget,if_pos rfl]))];exact hI.old t fun i' o hii hik ho hi'=>ht i' o hii hik ho (by rw [hget];split<;>simp_all)
   unfold wpOpIn;simp only [hoj];refine AEv9 hcall hr hst fun S' w' m' hv' a' hg hr' hdd hsz=> ?_;exact ih (by have:=AKt9 hI.sz hjl hj0;omega) ⟨by simp [hI.sz],fun j' hj'=>by rw [hget,if_neg (by omega)];exact hI.low j' hj',fun i' hi'=>by rw [hget,if_neg (by omega)];exact hI.far i' hi',hdown',by rw [AAs9];exact hI.len,hgot',hold'⟩
    ⟨hr'.1,hr'.2.1,by intro p hp;cases hp⟩
    fun S'' w'' m'' hv'' a'' hg' hr'' hd' hsz'=>hK S'' w'' m'' hv'' a'' (hg.trans hg') hr'' (hd'.trans hdd) (hsz'.trans hsz)
end
def ANh9 (P:Program) (X:CX β) (M:MHook β) (ops:Array Oper):List (Nat×Nat)→List AV→List Blk→β→(List AV→List Blk→β→Prop)→Prop
 | [],tm,hp,b,K=>K tm hp b
 |(i,k)::l,tm,hp,b,K=>if Nat.beq k (i+1) then match ops[i]? with
  |some o=>opM P X M ops o ⟨tm,hp, []⟩ b fun s b=>ANh9 P X M ops l s.tm s.hp b K
  |none=>False
  else if AVy9 ops i k then preC P X ops hp ((ops.toList.take k).drop i) tm [] fun tmK tb=>if (tb.map (·.1)).Nodup then ANh9 P X M ops l tmK hp b K else False
  else False
def segsC (ops:Array Oper):List (Nat×Nat):=cutsC ops (ops.size+ops.size+2) 0 1
def BDm9 (P:Program) (X:CX β) (M:MHook β) (ops:Array Oper) (draw:Bool) (tm:List AV) (hp:List Blk) (b:β) (K:List AV→List Blk→β→Prop):Prop:=
 if draw then (if ATy9 ops 0 (segsC ops)&&Nat.ble 2 (segsC ops).length then ANh9 P X M ops (segsC ops) tm hp b K else match findK ops (ABs9 (ops.toList.takeWhile fun o=> !mapOp o)) with
  |some k=>BDt9 P X M ops k tm hp b K
  |none=>False)
 else opsM P X M ops ops.toList ⟨tm,hp, []⟩ b fun s b=>K s.tm s.hp b
def wlS (P:Program) (X:CX β) (M:MHook β) (wl:Code→List AV→List Blk→β→(Exit→List AV→List Blk→β→Prop)→Prop):Code→List AV→List Blk→β→(Exit→List AV→List Blk→β→Prop)→Prop
 | .region id ops d,tm,hp,b,K=>BDm9 P X M ops d tm hp b (K .normal)
 |c,tm,hp,b,K=>wl c tm hp b K
section
variable {P:Program} {S S' X' V V':Pr} {r:Option Nat} {lo:Nat} {w w':World} {m m':List MB} {B:List (AV×Value)} {hp hp':List Blk} {hv hv':List (List Value)} {a a':Act} {ops:Array Oper} {Ev:Env P} {X:CX Ev.β} {M:MHook Ev.β} {tm:List AV} {b:Ev.β}
theorem AHd9 {QQ:Exit→Act→World→Prop} {K:List AV→List Blk→Ev.β→Prop} (hX:X.Ok) (hM:MOk Ev M):∀(l:List (Nat×Nat)) {i:Nat} {tm:List AV} {hp:List Blk} {b:Ev.β} {S X' V:Pr} {w:World} {m:List MB} {hv:List (List Value)} {a:Act} {listed:Array Bool},
 ATy9 ops i l=true→(∀(j:Nat) (o:Oper),ops[j]? =some o→∀e∈AAo9 o,e<j)→ANh9 P X M ops l tm hp b K→listed.size=ops.size→(∀j,j<ops.size→listed.getD j false=decide (j<i))→Tie Ev lo r S X' V w m B hv ⟨tm,hp, []⟩ b a→
 (∀tm' hp' b',K tm' hp' b'→Goes Ev lo r S X' V w m B ⟨tm',hp', []⟩ b' (QQ .normal))→wpAnyIn (Fn r) 0 P .any ops QQ (ops.size - i) listed a w
 | [],i,tm,hp,b,S,X',V,w,m,hv,a,listed,hs,he,h,hls,hl,ht,hK=>by
  have hi:i=ops.size:=Zbz hs;have hready:Zec .any ops listed= []:=by
   rw [List.eq_nil_iff_forall_not_mem];intro j hj;obtain ⟨o,ho,h0,_⟩:=ABo9 hj;have hjl:j<ops.size:=(Zal.1 ho).1;have:=hl j hjl;simp [hls,hjl] at h0 this;rw [h0] at this;simp at this;omega
  have e0:ops.size - i=0:=by omega
  rw [e0];exact ⟨hready,hK _ _ _ h S X' V w m hv a (Went.refl ht.rel.slt) (Zef m) ht⟩
 | (i',k)::l,i,tm,hp,b,S,X',V,w,m,hv,a,listed,hs,he,h,hls,hl,ht,hK=>by
  simp only [ATy9,Zai] at hs;obtain ⟨s1,s2,s3,s4,s5⟩:=hs;obtain rfl:=Zbz s1;rw [Nat.blt_eq] at s2;have s3:=Nat.le_of_ble_eq_true s3;have hlow:∀j,j<i'→listed.getD j false=true:=fun j hj=>by rw [hl j (by omega)];simp [hj]
  have hfar:∀j,i'≤j→listed.getD j false=false:=fun j hj=>by
   rcases Zdc j ops.size with h'|h'
   ·rw [hl j h'];simp;omega
   ·rw [Array.getD_eq_getD_getElem?,Array.getElem?_eq_none (by omega)];rfl
  have hdown:∀(j:Nat) (o':Oper),ops[j]? =some o'→listed.getD j false=true→∀e∈AAo9 o',listed.getD e false=true:=fun j o' ho' hj e hee=>by
   have h1:=he _ _ ho' e hee;rcases Zdc j i' with h'|h'
   ·exact hlow e (by omega)
   ·rw [hfar j h'] at hj;cases hj
  unfold ANh9 at h;split at h
  ·rename_i hk1;have hk1:=Zbz hk1;subst hk1;have hi:i'<ops.size:=by omega
   have hoi:ops[i']? =some ops[i']:=by simp [hi]
   rw [hoi] at h;simp only at h;have hx:wOps Ev ops [ops[i']] ⟨tm,hp, []⟩ b (fun s' b'=>ANh9 P X M ops l s'.tm s'.hp b' K):=AWj9 (l:= []) hX hM h fun s' b' h=>h;have hmem:i'∈Zec .any ops listed:=by
    refine ABg9 hoi ?_ (fun e hee=>hlow e (he _ _ hoi e hee));have:=hl i' hi;simp [hls,hi] at this ⊢;exact this
   have e0:ops.size - i'=(ops.size - (i'+1))+1:=by omega
   rw [e0];refine ⟨fun h0=>(by rw [h0] at hmem;cases hmem),fun j hj=> ?_⟩;obtain ⟨oj,hoj,hj0,hje⟩:=ABo9 hj;have hjl:j<ops.size:=(Zal.1 hoj).1;have hji:j=i':=by
    rcases Nat.lt_trichotomy j i' with h1|h1|h1
    ·have:=hl j hjl;simp [hls,hjl] at hj0 this;rw [hj0] at this;simp at this;omega
    ·exact h1
    ·have:=AEe9 hdown ops.size j oj hoj hje i' ((CEf9 s4 hoj).2 (by omega) i' (by omega));rw [hfar i' (Zaw _)] at this;cases this
   subst hji;unfold wpOpIn;simp only [hoi];refine AKb9 ht hx fun s' b' hx' S' X'' V' w' m' hv' a' hw hm ht2=> ?_;simp only [wOps] at hx';refine AHd9 hX hM l (i:=j+1) s5 he hx' (by simp [hls]) (fun j' hj'=> ?_) ⟨⟨ht2.rel.1,ht2.rel.2.1,by intro p hp;cases hp⟩,ht2.sub,ht2.env,ht2.round,ht2.marks,ht2.base⟩
    fun tm' hp' b'' hr S'' X3 V'' w'' m'' hv'' a'' hw' hm' ht'=>hK tm' hp' b'' hr S'' X3 V'' w'' m'' hv'' a'' (hw.trans hw') (hm.trans hm') ht'
   have:=hl j' hj';simp [hls,hj'] at this ⊢;rw [Array.getElem_setIfInBounds (by rw [hls];exact hj')];split
   ·subst_vars;simp
   ·rw [this];simp;omega
  ·split at h
   ·rename_i hst;obtain ⟨tmK,tb,h1,h2,h3,h4⟩:=ACe9 hX h;split at h1
    ·rename_i hnd;have hcount:(unl ops.size listed).length=ops.size - i':=by
      have e:unl ops.size listed=(Zbs ops.size).filter fun j=> !decide (j<i'):=by
       unfold unl;refine List.filter_congr fun j hj=> ?_;rw [hl j (Zci.1 hj)]
      rw [e];have e2:Zbs ops.size=Zbs i'++(Zbs (ops.size - i')).map (i'+ ·):=by
       rw [←List.range_add];congr 1;omega
      rw [e2,List.filter_append];have e3:(Zbs i').filter (fun j=> !decide (j<i'))= []:=by
       rw [List.filter_eq_nil_iff];intro j hj;have:=Zci.1 hj;simp [this]
      rw [e3,List.filter_eq_self.2]
      ·simp
      ·intro j hj;obtain ⟨l,_,rfl⟩:=Zbg.1 hj;simp
     refine AYt9 (call:=tblD tb) (AQm9 (h3 (by simp))) hst (by omega) s3 (h4 tb (ACo9 hnd)) (ops.size - i') hcount.symm
      ⟨hls,hlow,fun j hj=>hfar j (by omega),hdown,rfl,fun j o d h1 _ _ _ h2=>(by rw [hfar j h1] at h2;cases h2),fun _ _=>rfl⟩ ht.rel fun S' w' m' hv' a' hg hr hd hsz listed' hs' hl'=> ?_
     exact AHd9 hX hM l (i:=k) s5 he h1 hs' hl' (ht.step hg hr hd)
      fun tm' hp' b'' hr' S'' X3 V'' w'' m'' hv'' a'' hw' hm' ht'=>hK tm' hp' b'' hr' S'' X3 V'' w'' m'' hv'' a'' ((hg.went hr.slt).trans hw') (hg.ms.trans hm') ht'
    ·exact h1.elim
   ·exact h.elim
theorem BDf9 {ops:Array Oper}:∀ {l:List (Nat×Nat)} {i:Nat},ATy9 ops i l=true→ops.size=i∨∀(j:Nat) (o:Oper),ops[j]? =some o→∀e∈AAo9 o,e<j
 | [],i,h=> .inl (Zbz h).symm
 | (a,k)::l,i,h=>by
  simp only [ATy9,Zai] at h;exact .inr fun j o ho=>(CEf9 h.2.2.2.1 ho).1
theorem ARc9 {id:Nat} {d:Bool} (hm:P.follows .mixedOrders=true) (hX:X.Ok) (hM:MOk Ev M) {K:List AV→List Blk→Ev.β→Prop} {Q:Exit→St Ev.β→Prop} (h:BDm9 P X M ops d tm hp b K) (hq:∀tm' hp' b',K tm' hp' b'→Q .normal ⟨tm',hp',b'⟩):
 W Ev (.region id ops d) ⟨tm,hp,b⟩ Q:=by
 unfold BDm9 at h;cases d with
 |false=>exact W.region (AIj9 hX hM h fun _ _ h=>hq _ _ _ h)
 | true=>
  simp only [if_true] at h;split at h
  ·rename_i hs0;have hs:ATy9 ops 0 (segsC ops)=true:=by
    rw [Zai] at hs0;exact hs0.1
   refine W.ofWA hm fun lo r S X' V w m B hv a ht=> ?_;have hget:∀j,(Array.replicate ops.size false).getD j false=false:=by intro j;simp [Array.getElem?_replicate];split<;>rfl
   have he:∀(j:Nat) (o:Oper),ops[j]? =some o→∀e∈AAo9 o,e<j:=(BDf9 hs).elim (fun h0 j o ho=>by
    have:=(Zal.1 ho).1;omega) fun h=>h
   have ht':=ht.drew;refine AHd9 hX hM (segsC ops) (i:=0) hs he h (by simp) (fun j _=>by rw [hget];simp) ht' fun tm' hp' b' hk S'' X'' V'' w'' m'' hv'' a'' hw hm' ht''=> ?_;exact ⟨⟨tm',hp',b'⟩,S'',X'',V'',m'',hv'',hq _ _ _ hk,⟨(AHn9 ht.rel.slt).trans hw,hm'⟩,ht''⟩
  ·split at h
   ·rename_i k hk;have h':ARd9 P X M ops true tm hp b K:=by
     unfold ARd9;simp only [if_true,hk];exact h
    exact AJm9 hm hX hM h' hq
   ·exact h.elim
theorem CGk9 (hm:P.follows .mixedOrders=true) (hX:X.Ok) (hM:MOk Ev M) {wl:Code→List AV→List Blk→Ev.β→(Exit→List AV→List Blk→Ev.β→Prop)→Prop}
 (hwl:∀c tm hp b K,wl c tm hp b K→W Ev c ⟨tm,hp,b⟩ (fun e s=>K e s.tm s.hp s.b)):∀c tm hp b K,wlS P X M wl c tm hp b K→W Ev c ⟨tm,hp,b⟩ (fun e s=>K e s.tm s.hp s.b):=by
 intro c tm hp b K h;cases c with
 |region id ops d=>exact ARc9 hm hX hM h fun _ _ _ h=>h
 |_=>exact hwl _ _ _ _ _ h
end
end Go.Proofs.YthcbbmnjikhihaaGreat.Am
namespace Go.Proofs.YthcbbmnjikhihaaGreat.Am
open Go Go.RowKit Go.Proofs Tryz
open AV renaming agg → Zaq, bad → Zab, d → Zae, fn → Zax, ptr → Zaf, rptr → Zag
open _root_.Array renaming getElem?_eq_some_iff → Zal
open AskT renaming of → Zgd, pe → Zfp, sl → Zcr
open BIf renaming f → Zda, of → Zba, t → Zaz
open BitVec renaming ofInt → Zeq
open Bool renaming and_eq_true → Zai, false_and → Zcj, or_eq_true → Zeb, or_true → Zfb, true_and → Zey, true_or → Zei
open AAc9 renaming cons → Zaj, nil → Zak
open Go.Code renaming loop → Zat
open Dv renaming s → Zdy, sl → Zan
open Go.Exit renaming exit → Zbj
open GraT renaming of → Zfe, pe → Zgg, sl → Zdg, un → Zeh
open Int renaming toNat → Zam
open Go.IntKind renaming i64 → Zbc, wrap → Zad
open LeH renaming refl → Zbp
open List renaming all_eq_true → Zbd, any → Zcv, any_eq_true → Zdv, length → Zaa, mem_map → Zbg, mem_range → Zci, range → Zbs, replicate → Zap
open MStep renaming refl → Zef
open Nat renaming eq_of_beq_eq_true → Zbz, le_refl → Zaw, lt_or_ge → Zdc
open NearT renaming ak → Zer, gs → Zck, us → Zcp
open PCall renaming ofFn → Zbf, ofFnW → Zcu
open Prod renaming fst → Zgl
open Go.Region renaming ready → Zec
open AAl9 renaming nil → Zah
open UseT renaming of → Zek, pe → Zgk, sl → Zcy
open Go.Value renaming map → Zbm, pointer → Zcc
open WR renaming ofMask → Zdj
open Go.World renaming putObj_heap_other → Zch
variable {β:Type} (wl:WLT β) (y:ACw9 β) (b:β) (R:AV→β→Prop) (Kr:AV→List Blk→β→Prop) (K:Exit→List AV→List Blk→β→Prop) (Kh:Exit→List Blk→β→Prop) (Q:β→Prop)
open AV (bad)
theorem mixed:Tryz.prog.follows .mixedOrders=true:=by kernel_rfl
set_option linter.unusedVariables false
set_option maxRecDepth 20000
def rowA (m:Int) (b:List Int):AV:= .agg [.d (i64 m), .d (.sl 1 (BIt9 b))]
def pad (b:List Int):List Int:=(b++Zap 16 0).take 16
def fine (m:Int) (b:List Int):Bool:=decide (m≥1)&&(decide (m<65536)&&((b.length:Int)==16))
def xor8 (a b:Int):Int:=Zad IntKind.u8 ↑((Zeq 8 a ^^^ Zeq 8 b).toNat)
def xorL (p q:List Int):List Int:=(Zbs 16).map fun i=>xor8 (nth p i) (nth q i)
def lead (m:Int):Int:=(2 ^ m.toNat.log2:Nat)
def b16 (p:List Int):List Int:=(Zbs 16).map (nth p)
abbrev Row:=Int×List Int
def rowD (r:Row):List Dv:= [i64 r.1, .sl 1 (BIt9 r.2)]
def rowsR (l:List Row):List (List Dv):=l.map rowD
def and64 (a b:Int):Int:=Zad .i64 ((Zeq 64 a&&&Zeq 64 b).toNat:Nat)
def or64 (a b:Int):Int:=Zad .i64 ((Zeq 64 a|||Zeq 64 b).toNat:Nat)
def xor64 (a b:Int):Int:=Zad .i64 ((Zeq 64 a ^^^ Zeq 64 b).toNat:Nat)
def red (x:Row) (r:Row):Row:=if and64 x.1 (lead r.1) !=0 then (xor64 x.1 r.1,xorL x.2 (pad r.2)) else x
abbrev cell (x:Dv):Blk:=⟨[.d x],false,false,0⟩
def vA:List Row→Int×Int→(Int×Int)×Bool
 | [],s=>(s,true)
 |r::l,s=>if fine r.1 r.2&&decide (lead r.1<s.2) then vA l (or64 s.1 (lead r.1),lead r.1) else (s,false)
def vB (L:Int) (l:List Row):Bool:=l.all fun r=>and64 r.1 L==lead r.1
def CGl9 (l:List Row):Bool:=(vA l (0,65536)).2&&vB (vA l (0,65536)).1.1 l
def keepR (r:Row):Row:=(r.1,b16 (pad r.2))
def stepB (e:Row) (s:List Row×Bool) (r:Row):List Row×Bool:=
 ((if !s.2&&decide (lead r.1<lead e.1) then s.1++ [(e.1,b16 e.2)] else s.1)++ [if and64 r.1 (lead e.1) !=0 then (xor64 r.1 e.1,b16 (xorL (pad r.2) e.2)) else (r.1,b16 (pad r.2))],
  s.2||decide (lead r.1<lead e.1))
def CFz9 (p:List Int):Bool:=(Zbs 16).all fun i=>nth p i==0
def addR (x:List Row×Bool×Int):AV:= .tup [.d (.sl 2 (rowsR x.1)), .d (bo x.2.1), .d (i64 x.2.2)]
def addS (l:List Row) (m:Int) (b:List Int):List Row×Bool×Int:=
 if !CGl9 l|| !fine m b then ([],false,1) else
 let x:=l.foldl red (m,pad b)
 if x.1==0&&CFz9 x.2 then (l.map keepR,false,0) else if x.1==0 then ([],false,12) else
 let s:=l.foldl (stepB x) ([],false)
 (if !s.2 then s.1++ [(x.1,b16 x.2)] else s.1,true,0)
def c12 (args:List AV) (K:AV→Prop):Prop:=∃(l:List Row) (m:Int) (b:List Int) (x:List Row×Bool×Int),args= [.d (.sl 2 (rowsR l)),rowA m b]∧2*l.length≤1000000∧x=addS l m b∧K (addR x)
def fewS (l:List Row):Bool:=(l.all fun r=>decide (r.2.length≤100))&&decide (l.length≤40)
def c11 (args:List AV) (K:AV→Prop):Prop:=∃(l:List Row),args= [.d (.sl 2 (rowsR l))]∧l.length≤9223372036854775807∧K (.d (bo (fewS l)))
def c25 (args:List AV) (K:AV→Prop):Prop:=∃(p q r:List Int),args= [.d (.sl 1 (BIt9 p)), .d (.sl 1 (BIt9 q))]∧(16≤p.length∧16≤q.length)∧r=xorL p q∧K (.d (.sl 1 (BIt9 r)))
def nilA:AV:= .d (.s (.slice none 0 0))
set_option maxHeartbeats 1000000
structure LayT where
 no:Int
 da:Int
def layA (l:LayT):AV:= .agg [.d (i64 l.no), .d (i64 l.da)]
def cellA (sl of:Int):AV:= .agg [.d (i64 sl), .d (i64 of)]
def useA (u:UseT):AV:= .agg [.d (i64 u.sl), .d (i64 u.of), .d (i64 u.pe), .d (i64 u.st)]
def graA (g:GraT):AV:= .agg [.d (i64 g.sl), .d (i64 g.of), .d (i64 g.pe), .d (i64 g.st), .d (i64 g.un)]
def askA (a:AskT):AV:= .agg [.d (i64 a.sl), .d (i64 a.of), .d (i64 a.pe)]
def inN (n h:Int):Bool:=decide (n≥0)&&decide (n≤h)
def ABe9 (sl of pe:Int) (l:LayT):Bool:=decide (sl≥0)&&(decide (sl<l.da)&&(decide (of≥0)&&(decide (of<16)&&(decide (pe≥0)&&decide (pe<l.no)))))
theorem in_nf (n h:Int):wpFn prog ⟨[], [],wl,y,false⟩ 100 f36 [.d (i64 n), .d (i64 h)] b R=(BIf (decide (n≥(0:Int))) (R (Zae (bo (decide (n≤h)))) b) (R (Zae (bo false)) b)):=by kernel_rfl
theorem BTb9 (u:UseT):wpFn prog ⟨[], [],wl,y,false⟩ 100 f108 [useA u] b R=(R (Zaq [Zae (i64 (Zcy u)),Zae (i64 (Zek u)),Zae (i64 (Zgk u)),Zae (i64 (UseT.st u))]) b):=by kernel_rfl
theorem BTc9 (g:GraT):wpFn prog ⟨[], [],wl,y,false⟩ 100 f95 [graA g] b R=(R (Zaq [Zae (i64 (Zdg g)),Zae (i64 (Zfe g)),Zae (i64 (Zgg g)),Zae (i64 (GraT.st g)),Zae (i64 (Zeh g))]) b):=by kernel_rfl
theorem BTd9 (a:AskT):wpFn prog ⟨[], [],wl,y,false⟩ 100 f118 [askA a] b R=(R (Zaq [Zae (i64 (Zcr a)),Zae (i64 (Zgd a)),Zae (i64 (Zfp a))]) b):=by kernel_rfl
theorem BLc9 (sl of pe:Int) (l:LayT):wpFn prog ⟨[], [],wl,y,false⟩ 100 f169 [cellA sl of, .d (i64 pe),layA l] b R=(BIf (decide (sl≥(0:Int))) (BIf (decide (sl<LayT.da l)) (BIf (decide (of≥(0:Int))) (BIf (decide (of<(16:Int))) (BIf (decide (pe≥(0:Int))) (R (.d (bo (decide (pe<LayT.no l)))) b) (R (.d (bo false)) b)) (R (.d (bo false)) b)) (R (.d (bo false)) b)) (R (.d (bo false)) b)) (R (.d (bo false)) b)):=by kernel_rfl
theorem BNm9 (sl of pe:Int) (l:LayT):wpFn prog ⟨[], [],wl,y,false⟩ 100 f62 [cellA sl of, .d (i64 pe),layA l] b R=(BIf (decide (sl≥(0:Int))) (BIf (decide (sl<LayT.da l)) (BIf (decide (of≥(0:Int))) (BIf (decide (of<(16:Int))) (BIf (decide (pe≥(0:Int))) (R (.d (bo (decide (pe<LayT.no l)))) b) (R (.d (bo false)) b)) (R (.d (bo false)) b)) (R (.d (bo false)) b)) (R (.d (bo false)) b)) (R (.d (bo false)) b)):=by kernel_rfl
theorem BMb9 (l:LayT):wpFn prog ⟨[], [],wl,y,false⟩ 100 f70 [layA l] b R=(BIf (decide (LayT.no l≥(1:Int))) (BIf (decide (LayT.no l≤(60:Int))) (BIf (decide (LayT.da l≥(1:Int))) (R (.d (bo (decide (LayT.da l≤(60:Int))))) b) (R (.d (bo false)) b)) (R (.d (bo false)) b)) (R (.d (bo false)) b)):=by kernel_rfl
theorem BXa9 (u:UseT):wpFn prog ⟨[], [],wl,y,false⟩ 100 f170 [useA u] b R=(R (Zaq [Zae (i64 (Zcy u)),Zae (i64 (Zek u))]) b):=by kernel_rfl
theorem BXb9 (g:GraT):wpFn prog ⟨[], [],wl,y,false⟩ 100 f167 [graA g] b R=(R (Zaq [Zae (i64 (Zdg g)),Zae (i64 (Zfe g))]) b):=by kernel_rfl
theorem BNl9 (a:AskT):wpFn prog ⟨[], [],wl,y,false⟩ 100 f172 [askA a] b R=(R (Zaq [Zae (i64 (Zcr a)),Zae (i64 (Zgd a))]) b):=by kernel_rfl
theorem pcIn (n h:Int):PCall prog 36 [.d (i64 n), .d (i64 h)] (.d (bo (inN n h))):=by
 refine Zbf (n:=100) (u:=false) mixed Zak Zah func36 (by rfl) (by rfl) fun Ev bb=> ?_;rw [in_nf];repeat' (refine Zba (fun _=> ?_) fun _=> ?_)
 all_goals (rw [inN];simp only [*,Zey,Zcj])
def cIn (args:List AV) (K:AV→Prop):Prop:=∃(n h:Int) (z:Bool),args= [.d (i64 n), .d (i64 h)]∧z=inN n h∧K (.d (bo z))
theorem BHd9:∀args K,cIn args K→∃x,PCall prog 36 args x∧K x:=by
 rintro _ K ⟨n,h,_,rfl,rfl,hk⟩;exact ⟨_,pcIn n h,hk⟩
theorem CCf9 (u:UseT):PCall prog 108 [useA u] (useA u):=by
 refine Zbf (n:=100) (u:=false) mixed Zak Zah func108 (by rfl) (by rfl) fun Ev bb=> ?_;rw [BTb9];rfl
def BXf9 (args:List AV) (K:AV→Prop):Prop:=∃u:UseT,args= [useA u]∧K (useA u)
theorem AXa9:∀args K,BXf9 args K→∃x,PCall prog 108 args x∧K x:=by
 rintro _ K ⟨u,rfl,hk⟩;exact ⟨_,CCf9 u,hk⟩
theorem CCg9 (g:GraT):PCall prog 95 [graA g] (graA g):=by
 refine Zbf (n:=100) (u:=false) mixed Zak Zah func95 (by rfl) (by rfl) fun Ev bb=> ?_;rw [BTc9];rfl
def BNr9 (args:List AV) (K:AV→Prop):Prop:=∃u:GraT,args= [graA u]∧K (graA u)
theorem APu9:∀args K,BNr9 args K→∃x,PCall prog 95 args x∧K x:=by
 rintro _ K ⟨u,rfl,hk⟩;exact ⟨_,CCg9 u,hk⟩
theorem CCh9 (a:AskT):PCall prog 118 [askA a] (askA a):=by
 refine Zbf (n:=100) (u:=false) mixed Zak Zah func118 (by rfl) (by rfl) fun Ev bb=> ?_;rw [BTd9];rfl
def BXg9 (args:List AV) (K:AV→Prop):Prop:=∃u:AskT,args= [askA u]∧K (askA u)
theorem AXb9:∀args K,BXg9 args K→∃x,PCall prog 118 args x∧K x:=by
 rintro _ K ⟨u,rfl,hk⟩;exact ⟨_,CCh9 u,hk⟩
theorem BTy9 (sl of pe:Int) (l:LayT):PCall prog 169 [cellA sl of, .d (i64 pe),layA l] (.d (bo (ABe9 sl of pe l))):=by
 refine Zbf (n:=100) (u:=false) mixed Zak Zah func169 (by rfl) (by rfl) fun Ev bb=> ?_;rw [BLc9];repeat' (refine Zba (fun _=> ?_) fun _=> ?_)
 all_goals (rw [ABe9];simp only [*,Zey,Zcj])
def BQh9 (args:List AV) (K:AV→Prop):Prop:=∃(sl of pe:Int) (l:LayT) (z:Bool),args= [cellA sl of, .d (i64 pe),layA l]∧z=ABe9 sl of pe l∧K (.d (bo z))
theorem BGw9:∀args K,BQh9 args K→∃x,PCall prog 169 args x∧K x:=by
 rintro _ K ⟨sl,of,pe,l,_,rfl,rfl,hk⟩;exact ⟨_,BTy9 sl of pe l,hk⟩
theorem BUv9 (sl of pe:Int) (l:LayT):PCall prog 62 [cellA sl of, .d (i64 pe),layA l] (.d (bo (ABe9 sl of pe l))):=by
 refine Zbf (n:=100) (u:=false) mixed Zak Zah func62 (by rfl) (by rfl) fun Ev bb=> ?_;rw [BNm9];repeat' (refine Zba (fun _=> ?_) fun _=> ?_)
 all_goals (rw [ABe9];simp only [*,Zey,Zcj])
def BIr9 (args:List AV) (K:AV→Prop):Prop:=∃(sl of pe:Int) (l:LayT) (z:Bool),args= [cellA sl of, .d (i64 pe),layA l]∧z=ABe9 sl of pe l∧K (.d (bo z))
theorem ASv9:∀args K,BIr9 args K→∃x,PCall prog 62 args x∧K x:=by
 rintro _ K ⟨sl,of,pe,l,_,rfl,rfl,hk⟩;exact ⟨_,BUv9 sl of pe l,hk⟩
def layOk (l:LayT):Bool:=decide (l.no≥1)&&(decide (l.no≤60)&&(decide (l.da≥1)&&decide (l.da≤60)))
theorem BTz9 (l:LayT):PCall prog 70 [layA l] (.d (bo (layOk l))):=by
 refine Zbf (n:=100) (u:=false) mixed Zak Zah func70 (by rfl) (by rfl) fun Ev bb=> ?_;rw [BMb9];repeat' (refine Zba (fun _=> ?_) fun _=> ?_)
 all_goals (rw [layOk];simp only [*,Zey,Zcj])
def BQi9 (args:List AV) (K:AV→Prop):Prop:=∃(l:LayT) (z:Bool),args= [layA l]∧z=layOk l∧K (.d (bo z))
theorem BGy9:∀args K,BQi9 args K→∃x,PCall prog 70 args x∧K x:=by
 rintro _ K ⟨l,_,rfl,rfl,hk⟩;exact ⟨_,BTz9 l,hk⟩
theorem CCu9 (u:UseT):PCall prog 170 [useA u] (cellA u.sl u.of):=by
 refine Zbf (n:=100) (u:=false) mixed Zak Zah func170 (by rfl) (by rfl) fun Ev bb=> ?_;rw [BXa9];rfl
theorem CCv9 (u:GraT):PCall prog 167 [graA u] (cellA u.sl u.of):=by
 refine Zbf (n:=100) (u:=false) mixed Zak Zah func167 (by rfl) (by rfl) fun Ev bb=> ?_;rw [BXb9];rfl
theorem CCw9 (u:AskT):PCall prog 172 [askA u] (cellA u.sl u.of):=by
 refine Zbf (n:=100) (u:=false) mixed Zak Zah func172 (by rfl) (by rfl) fun Ev bb=> ?_;rw [BNl9];rfl
def BOf9 (args:List AV) (K:AV→Prop):Prop:=∃u:UseT,args= [useA u]∧K (cellA u.sl u.of)
theorem APv9:∀args K,BOf9 args K→∃x,PCall prog 170 args x∧K x:=by
 rintro _ K ⟨u,rfl,hk⟩;exact ⟨_,CCu9 u,hk⟩
def BOg9 (args:List AV) (K:AV→Prop):Prop:=∃u:GraT,args= [graA u]∧K (cellA u.sl u.of)
theorem APw9:∀args K,BOg9 args K→∃x,PCall prog 167 args x∧K x:=by
 rintro _ K ⟨u,rfl,hk⟩;exact ⟨_,CCv9 u,hk⟩
def BRd9 (args:List AV) (K:AV→Prop):Prop:=∃u:AskT,args= [askA u]∧K (cellA u.sl u.of)
theorem BIq9:∀args K,BRd9 args K→∃x,PCall prog 172 args x∧K x:=by
 rintro _ K ⟨u,rfl,hk⟩;exact ⟨_,CCw9 u,hk⟩
def useOk (u:UseT) (l:LayT):Bool:=ABe9 u.sl u.of u.pe l&&(decide (u.st≥0)&&decide (u.st≤1000000000))
def graOk (g:GraT) (l:LayT):Bool:=ABe9 g.sl g.of g.pe l&&(decide (g.st≥0)&&(decide (g.st≤g.un)&&decide (g.un≤1000000000)))
def askOk (a:AskT) (l:LayT):Bool:=ABe9 a.sl a.of a.pe l
def TPl:List (Nat×(List AV→(AV→Prop)→Prop)):= [(169,BQh9),(62,BIr9),(36,cIn)]
theorem BBd9:AAc9 prog TPl:=Zaj BGw9 (Zaj ASv9 (Zaj BHd9 Zak))
abbrev Qz3 (v0:LayT):List AV:= [Zae (i64 (LayT.no v0)),Zae (i64 (LayT.da v0))]
abbrev Qz39 (v0:Int) (v1:Int) (v2:Int) (v3:LayT):List AV:= [Zaq [Zae (i64 v0),Zae (i64 v1)],Zae (i64 v2),Zaq (Qz3 v3)]
abbrev Qz86 (v0:UseT):List AV:= [Zae (i64 (Zcy v0)),Zae (i64 (Zek v0))]
theorem BKi9 (u:UseT) (l:LayT):wpFn prog ⟨TPl, [],wl,y,false⟩ 100 f171 [useA u,layA l] b R=(∃(sl0:Int) (of1:Int) (pe2:Int) (l3:LayT) (z4:Bool), [Zaq (Qz86 u),Zae (i64 (Zgk u)),Zaq (Qz3 l)]=(Qz39 sl0 of1 pe2 l3)∧z4=ABe9 sl0 of1 pe2 l3∧BIf z4 (BIf (decide (UseT.st u≥(0:Int))) (R (.d (bo (decide (UseT.st u≤(1000000000:Int))))) b) (R (.d (bo false)) b)) (R (.d (bo false)) b)):=by kernel_rfl
abbrev Qz59 (v0:GraT):List AV:= [Zae (i64 (Zdg v0)),Zae (i64 (Zfe v0))]
theorem BMk9 (u:GraT) (l:LayT):wpFn prog ⟨TPl, [],wl,y,false⟩ 100 f168 [graA u,layA l] b R=(∃(sl0:Int) (of1:Int) (pe2:Int) (l3:LayT) (z4:Bool), [Zaq (Qz59 u),Zae (i64 (Zgg u)),Zaq (Qz3 l)]=(Qz39 sl0 of1 pe2 l3)∧z4=ABe9 sl0 of1 pe2 l3∧BIf z4 (BIf (decide (GraT.st u≥(0:Int))) (BIf (decide (GraT.st u≤Zeh u)) (R (.d (bo (decide (Zeh u≤(1000000000:Int))))) b) (R (.d (bo false)) b)) (R (.d (bo false)) b)) (R (.d (bo false)) b)):=by kernel_rfl
theorem BOj9 (u:AskT) (l:LayT):wpFn prog ⟨TPl, [],wl,y,false⟩ 100 f173 [askA u,layA l] b R=(∃(sl0:Int) (of1:Int) (pe2:Int) (l3:LayT) (z4:Bool), [Zaq [Zae (i64 (Zcr u)),Zae (i64 (Zgd u))],Zae (i64 (Zfp u)),Zaq (Qz3 l)]=(Qz39 sl0 of1 pe2 l3)∧z4=ABe9 sl0 of1 pe2 l3∧R (.d (bo z4)) b):=by kernel_rfl
theorem BSx9 (u:UseT) (l:LayT):wpFn prog ⟨TPl, [],wl,y,false⟩ 100 f71 [useA u,layA l] b R=(∃(sl0:Int) (of1:Int) (pe2:Int) (l3:LayT) (z4:Bool), [Zaq (Qz86 u),Zae (i64 (Zgk u)),Zaq (Qz3 l)]=(Qz39 sl0 of1 pe2 l3)∧z4=ABe9 sl0 of1 pe2 l3∧BIf z4 (BIf (decide (UseT.st u≥(0:Int))) (R (.d (bo (decide (UseT.st u≤(1000000000:Int))))) b) (R (.d (bo false)) b)) (R (.d (bo false)) b)):=by kernel_rfl
theorem BVz9 (u:GraT) (l:LayT):wpFn prog ⟨TPl, [],wl,y,false⟩ 100 f72 [graA u,layA l] b R=(∃(sl0:Int) (of1:Int) (pe2:Int) (l3:LayT) (z4:Bool), [Zaq (Qz59 u),Zae (i64 (Zgg u)),Zaq (Qz3 l)]=(Qz39 sl0 of1 pe2 l3)∧z4=ABe9 sl0 of1 pe2 l3∧BIf z4 (BIf (decide (GraT.st u≥(0:Int))) (BIf (decide (GraT.st u≤Zeh u)) (R (.d (bo (decide (Zeh u≤(1000000000:Int))))) b) (R (.d (bo false)) b)) (R (.d (bo false)) b)) (R (.d (bo false)) b)):=by kernel_rfl
theorem BMh9 (sl of pe:Int) (l:LayT):wpFn prog ⟨TPl, [],wl,y,false⟩ 100 f81 [layA l,cellA sl of, .d (i64 pe)] b R=(∃(n0:Int) (h1:Int) (z2:Bool), [Zae (i64 sl),Zae (i64 (Zad .i64 (LayT.da l - (1:Int))))]= [Zae (i64 n0),Zae (i64 h1)]∧z2=inN n0 h1∧BIf z2 (∃(n3:Int) (h4:Int) (z5:Bool), [Zae (i64 of),Zae (i64 15)]= [Zae (i64 n3),Zae (i64 h4)]∧z5=inN n3 h4∧BIf z5 (∃(n6:Int) (h7:Int) (z8:Bool), [Zae (i64 pe),Zae (i64 (Zad .i64 (LayT.no l - (1:Int))))]= [Zae (i64 n6),Zae (i64 h7)]∧z8=inN n6 h7∧R (.d (bo z8)) b) (R (.d (bo false)) b)) (R (.d (bo false)) b)):=by kernel_rfl
theorem BTw9 (u:UseT) (l:LayT):PCall prog 171 [useA u,layA l] (.d (bo (useOk u l))):=by
 refine Zbf (n:=100) (u:=false) mixed BBd9 Zah func171 (by rfl) (by rfl) fun Ev bb=> ?_;rw [BKi9];refine ⟨_,_,_,l,_,rfl,rfl, ?_⟩;repeat' (refine Zba (fun _=> ?_) fun _=> ?_)
 all_goals (rw [useOk];simp only [*,Zey,Zcj])
theorem CCc9 (u:UseT) (l:LayT):PCall prog 71 [useA u,layA l] (.d (bo (useOk u l))):=by
 refine Zbf (n:=100) (u:=false) mixed BBd9 Zah func71 (by rfl) (by rfl) fun Ev bb=> ?_;rw [BSx9];refine ⟨_,_,_,l,_,rfl,rfl, ?_⟩;repeat' (refine Zba (fun _=> ?_) fun _=> ?_)
 all_goals (rw [useOk];simp only [*,Zey,Zcj])
theorem BUg9 (u:GraT) (l:LayT):PCall prog 168 [graA u,layA l] (.d (bo (graOk u l))):=by
 refine Zbf (n:=100) (u:=false) mixed BBd9 Zah func168 (by rfl) (by rfl) fun Ev bb=> ?_;rw [BMk9];refine ⟨_,_,_,l,_,rfl,rfl, ?_⟩;repeat' (refine Zba (fun _=> ?_) fun _=> ?_)
 all_goals (rw [graOk];simp only [*,Zey,Zcj])
theorem CCo9 (u:GraT) (l:LayT):PCall prog 72 [graA u,layA l] (.d (bo (graOk u l))):=by
 refine Zbf (n:=100) (u:=false) mixed BBd9 Zah func72 (by rfl) (by rfl) fun Ev bb=> ?_;rw [BVz9];refine ⟨_,_,_,l,_,rfl,rfl, ?_⟩;repeat' (refine Zba (fun _=> ?_) fun _=> ?_)
 all_goals (rw [graOk];simp only [*,Zey,Zcj])
theorem BUw9 (u:AskT) (l:LayT):PCall prog 173 [askA u,layA l] (.d (bo (askOk u l))):=by
 refine Zbf (n:=100) (u:=false) mixed BBd9 Zah func173 (by rfl) (by rfl) fun Ev bb=> ?_;rw [BOj9];exact ⟨_,_,_,l,_,rfl,rfl,rfl⟩
def ABw9 (sl of pe:Int) (l:LayT):Bool:=inN sl (Zad Zbc (l.da - 1))&&(inN of 15&&inN pe (Zad Zbc (l.no - 1)))
theorem BUd9 (sl of pe:Int) (l:LayT):PCall prog 81 [layA l,cellA sl of, .d (i64 pe)] (.d (bo (ABw9 sl of pe l))):=by
 refine Zbf (n:=100) (u:=false) mixed BBd9 Zah func81 (by rfl) (by rfl) fun Ev bb=> ?_;rw [BMh9];refine ⟨_,_,_,rfl,rfl,Zba (fun h1=>⟨_,_,_,rfl,rfl,Zba (fun h2=>⟨_,_,_,rfl,rfl, ?_⟩) fun h2=> ?_⟩) fun h1=> ?_⟩;all_goals (rw [ABw9];simp only [*,Zey,Zcj])
def AWy9 (args:List AV) (K:AV→Prop):Prop:=∃(u:UseT) (l:LayT) (z:Bool),args= [useA u,layA l]∧z=useOk u l∧K (.d (bo z))
theorem BGr9:∀args K,AWy9 args K→∃x,PCall prog 171 args x∧K x:=by
 rintro _ K ⟨u,l,_,rfl,rfl,hk⟩;exact ⟨_,BTw9 u l,hk⟩
theorem BNo9:∀args K,AWy9 args K→∃x,PCall prog 71 args x∧K x:=by
 rintro _ K ⟨u,l,_,rfl,rfl,hk⟩;exact ⟨_,CCc9 u l,hk⟩
def AXm9 (args:List AV) (K:AV→Prop):Prop:=∃(u:GraT) (l:LayT) (z:Bool),args= [graA u,layA l]∧z=graOk u l∧K (.d (bo z))
theorem BHn9:∀args K,AXm9 args K→∃x,PCall prog 168 args x∧K x:=by
 rintro _ K ⟨u,l,_,rfl,rfl,hk⟩;exact ⟨_,BUg9 u l,hk⟩
theorem BNz9:∀args K,AXm9 args K→∃x,PCall prog 72 args x∧K x:=by
 rintro _ K ⟨u,l,_,rfl,rfl,hk⟩;exact ⟨_,CCo9 u l,hk⟩
def BRe9 (args:List AV) (K:AV→Prop):Prop:=∃(u:AskT) (l:LayT) (z:Bool),args= [askA u,layA l]∧z=askOk u l∧K (.d (bo z))
theorem BIs9:∀args K,BRe9 args K→∃x,PCall prog 173 args x∧K x:=by
 rintro _ K ⟨u,l,_,rfl,rfl,hk⟩;exact ⟨_,BUw9 u l,hk⟩
def BHc9 (args:List AV) (K:AV→Prop):Prop:=∃(sl of pe:Int) (l:LayT) (z:Bool),args= [layA l,cellA sl of, .d (i64 pe)]∧z=ABw9 sl of pe l∧K (.d (bo z))
theorem ASr9:∀args K,BHc9 args K→∃x,PCall prog 81 args x∧K x:=by
 rintro _ K ⟨sl,of,pe,l,_,rfl,rfl,hk⟩;exact ⟨_,BUd9 sl of pe l,hk⟩
theorem wrapN {j:Nat} (h:j<9223372036854775807):Zad Zbc ((j:Int)+1)=((j+1:Nat):Int):=by
 rw [AAx9 (by omega) (by omega)];omega
theorem WR.scanL {α:Type} {P:Program} {Ev:Env P} {X:CX Ev.β} {lp:Code} {b:Ev.β} {Q:Exit→St Ev.β→Prop} {k:Nat} (keep:List Nat) (hm:P.follows .mixedOrders=true) (hX:X.Ok) (xs:List α) (p:α→Bool) (tmOf tmR:Nat→List AV) (hp:List Blk) (id:Nat)
 (hr:∀(i:Nat) (x:α),i<xs.length→xs[i]? =some x→∀K:Exit→List AV→List Blk→Ev.β→Prop,(p x=true→K .ret (tmR i) hp b)→(p x=false→K .normal (tmOf (i+1)) hp b)→wpc P X k lp (tmOf i) hp b (maskK hp.length keep K))
 (he:∀K:Exit→List AV→List Blk→Ev.β→Prop,K (.exit id) (tmOf xs.length) hp b→wpc P X k lp (tmOf xs.length) hp b (maskK hp.length keep K))
 (h1:xs.any p=false→Q (.exit id) ⟨tmOf xs.length,hp,b⟩) (h2:xs.any p=true→∀i,Q .ret ⟨tmR i,hp,b⟩):WR Ev lp (xs.length+1) ⟨tmOf 0,hp,b⟩ Q:=by
 have key:∀(m i:Nat),i+m=xs.length→(xs.take i).any p=false→WR Ev lp (m+1) ⟨tmOf i,hp,b⟩ Q:=by
  intro m;induction m with
  | zero=>
   intro i hi hj;have:i=xs.length:=by omega
   subst this;rw [List.take_length] at hj;exact Zdj keep hm hX (he _ (h1 hj))
  | succ m ih=>
   intro i hi hj;have hil:i<xs.length:=by omega
   refine Zdj keep hm hX (hr i xs[i] hil (by simp [hil]) _ (fun h=>h2 ?_ _) fun h=> ?_)
   ·exact Zdv.2 ⟨xs[i],List.getElem_mem hil,h⟩
   ·refine ih (i+1) (by omega) ?_;rw [List.take_succ_eq_append_getElem hil,List.any_append,hj];simp [h]
 exact key xs.length 0 (by omega) rfl
theorem WR.gathL {α γ:Type} {P:Program} {Ev:Env P} {X:CX Ev.β} {lp:Code} {b:Ev.β} {Q:Exit→St Ev.β→Prop} {k:Nat} (keep:List Nat) (hm:P.follows .mixedOrders=true) (hX:X.Ok) (xs:List α) (f:α→List γ) (hf:∀x,(f x).length≤1) (tmOf:List γ→Nat→List AV) (hp:List Blk) (id:Nat)
 (hr:∀(i:Nat) (x:α) (acc:List γ),i<xs.length→xs[i]? =some x→acc.length≤i→∀K:Exit→List AV→List Blk→Ev.β→Prop,K .normal (tmOf (acc++f x) (i+1)) hp b→wpc P X k lp (tmOf acc i) hp b (maskK hp.length keep K))
 (he:∀(acc:List γ) (K:Exit→List AV→List Blk→Ev.β→Prop),K (.exit id) (tmOf acc xs.length) hp b→wpc P X k lp (tmOf acc xs.length) hp b (maskK hp.length keep K))
 (hQ:Q (.exit id) ⟨tmOf (xs.flatMap f) xs.length,hp,b⟩):WR Ev lp (xs.length+1) ⟨tmOf [] 0,hp,b⟩ Q:=by
 have hlen:∀i,((xs.take i).flatMap f).length≤i:=by
  intro i;have:∀l:List α,(l.flatMap f).length≤l.length:=by
   intro l;induction l with
   |nil=>exact Zaw _
   |cons x r ih=>have:=hf x;simp only [List.flatMap_cons,List.length_append,List.length_cons];omega
  have h1:=this (xs.take i);have h2:(xs.take i).length≤i:=List.length_take_le _ _;omega
 have key:∀(m i:Nat),i+m=xs.length→WR Ev lp (m+1) ⟨tmOf ((xs.take i).flatMap f) i,hp,b⟩ Q:=by
  intro m;induction m with
  | zero=>
   intro i hi;have:i=xs.length:=by omega
   subst this;rw [List.take_length];exact Zdj keep hm hX (he _ _ hQ)
  | succ m ih=>
   intro i hi;have hil:i<xs.length:=by omega
   refine Zdj keep hm hX (hr i xs[i] _ hil (by simp [hil]) (hlen i) _ ?_);have e:(xs.take i).flatMap f++f xs[i]=(xs.take (i+1)).flatMap f:=by
    rw [List.take_succ_eq_append_getElem hil,List.flatMap_append];simp
   rw [e];exact ih (i+1) (by omega)
 exact key xs.length 0 (by omega)
structure TabT where
 us:List UseT
 gs:List GraT
 ak:List AskT
def tabA (t:TabT):AV:= .agg [.d (.sl 4 (rowsU t.us)), .d (.sl 5 (rowsG t.gs)), .d (.sl 3 (rowsA t.ak))]
def tabB (t:TabT):Blk:=⟨[.d (.sl 4 (rowsU t.us)), .d (.sl 5 (rowsG t.gs)), .d (.sl 3 (rowsA t.ak))],false,false,0⟩
theorem AAh9 (l:List UseT):(rowsU l).length=l.length:=by simp [rowsU]
theorem AAf9 (l:List GraT):(rowsG l).length=l.length:=by simp [rowsG]
theorem AAn9 (l:List AskT):(rowsA l).length=l.length:=by simp [rowsA]
theorem ACb9 {l:List UseT} {i:Nat} {x:UseT} (h:l[i]? =some x):(rowsU l)[Zam ((i:Nat):Int)]? =some (useR x):=by simp [rowsU,h]
theorem ABj9 {l:List GraT} {i:Nat} {x:GraT} (h:l[i]? =some x):(rowsG l)[Zam ((i:Nat):Int)]? =some (graR x):=by simp [rowsG,h]
theorem ABk9 {l:List AskT} {i:Nat} {x:AskT} (h:l[i]? =some x):(rowsA l)[Zam ((i:Nat):Int)]? =some (askR x):=by simp [rowsA,h]
theorem natI (i:Nat):(true&&decide ((0:Int)≤((i:Nat):Int)))=true:=by simp
def nearA (n:NearT):AV:= .agg [.d (i64 n.fr), .d (i64 n.fm), .d (i64 n.x2), .d (i64 n.x3), .d (i64 n.x4), .d (i64 n.x5), .d (i64 n.x6), .d (i64 n.x7), .d (i64 n.x8), .d (i64 n.x9), .d (i64 n.x10), .d (i64 n.x11), .d (.sl 4 (rowsU n.us)), .d (.sl 5 (rowsG n.gs)), .d (.sl 3 (rowsA n.ak)), .d (.sl 4 n.s15), .d (bo n.b16), .d (.sl 8 n.s17), .d (.sl 8 n.s18), .d (.sl 1 n.s19), .d (i64 n.x20), .d (i64 n.x21), .d (u64 n.x22), .d (i64 n.x23), .d (i64 n.x24), .d (i64 n.x25), .d (i64 n.x26), .d (i64 n.x27), .d (.sl 1 n.s28), .d (.sl 1 n.s29), .d (bo n.b30)]
def nearB (n:NearT):Blk:=⟨[.d (i64 n.fr), .d (i64 n.fm), .d (i64 n.x2), .d (i64 n.x3), .d (i64 n.x4), .d (i64 n.x5), .d (i64 n.x6), .d (i64 n.x7), .d (i64 n.x8), .d (i64 n.x9), .d (i64 n.x10), .d (i64 n.x11), .d (.sl 4 (rowsU n.us)), .d (.sl 5 (rowsG n.gs)), .d (.sl 3 (rowsA n.ak)), .d (.sl 4 n.s15), .d (bo n.b16), .d (.sl 8 n.s17), .d (.sl 8 n.s18), .d (.sl 1 n.s19), .d (i64 n.x20), .d (i64 n.x21), .d (u64 n.x22), .d (i64 n.x23), .d (i64 n.x24), .d (i64 n.x25), .d (i64 n.x26), .d (i64 n.x27), .d (.sl 1 n.s28), .d (.sl 1 n.s29), .d (bo n.b30)],false,false,0⟩
theorem ABm9 (l:List NearT):(rowsN l).length=l.length:=by simp [rowsN]
theorem ABc9 {l:List NearT} {i:Nat} {x:NearT} (h:l[i]? =some x):(rowsN l)[Zam ((i:Nat):Int)]? =some (nearR x):=by simp [rowsN,h]
def layB (l:LayT):Blk:=⟨[.d (i64 l.no), .d (i64 l.da)],false,false,0⟩
def cellB (sl of:Int):Blk:=⟨[.d (i64 sl), .d (i64 of)],false,false,0⟩
def TV12:List (Nat×(List AV→(AV→Prop)→Prop)):= [(71,AWy9),(72,AXm9),(62,BIr9)]
theorem AGz9:AAc9 prog TV12:=Zaj BNo9 (Zaj BNz9 (Zaj ASv9 Zak))
noncomputable def ASa9:Code:=sub [1,0,1,2,3] (code f22)
def AIa9 (t:TabT) (s:Int) (z:Bool) (i:Int):List AV:= [.bad, .d (i64 s), .ptr 0 0, .bad, .d (bo z), .d (i64 i)]++Zap 33 .bad
abbrev Qz1 (v0:TabT):List AV:= [Zae (Zan 4 (rowsU (TabT.us v0))),Zae (Zan 5 (rowsG (TabT.gs v0))),Zae (Zan 3 (rowsA (TabT.ak v0)))]
def bds:Nat→List AV→List AV|0,l=>l|n+1,l=>Zab::bds n l
theorem CBw9 (t:TabT) (s:Int) (i:Int):wpc prog ⟨[], [],wl,y,false⟩ 100 ASa9 (AIa9 t s false i) [tabB t] b (maskK 1 [1,2,4,5] K)=(BIf (decide (i<((Zaa (rowsU (TabT.us t)):Nat):Int))) (BIf (true&&decide (0≤i)) (∃(x0:Int) (x1:Int) (x2:Int) (x3:Int),(rowsU (TabT.us t))[Zam i]? =some [i64 x0,i64 x1,i64 x2,i64 x3]∧BIf (x0==s) (K .ret (Zab::Zae (i64 s)::Zaf 0 0::Zab::Zae (bo true)::Zae (i64 i)::bds 33 []) [Blk.mk (Qz1 t) false false 0] b) (K .normal (Zab::Zae (i64 s)::Zaf 0 0::Zab::Zae (bo false)::Zae (i64 (Zad .i64 (i+1)))::bds 33 []) [Blk.mk (Qz1 t) false false 0] b)) False) (K (Zbj 0) (Zab::Zae (i64 s)::Zaf 0 0::Zab::Zae (bo false)::Zae (i64 i)::bds 33 []) [Blk.mk (Qz1 t) false false 0] b)):=by kernel_rfl
theorem BZn9 {Ev:Env prog} {b:Ev.β} {Q:Exit→St Ev.β→Prop} (t:TabT) (s:Int) (hl:(t.us).length≤9223372036854775807) (h1:(t.us).any (fun x:UseT=>x.sl==s)=false→∀i:Int,Q (.exit 0) ⟨AIa9 t s false i, [tabB t],b⟩) (h2:(t.us).any (fun x:UseT=>x.sl==s)=true→∀i:Int,Q .ret ⟨AIa9 t s true i, [tabB t],b⟩):
 WR Ev ASa9 ((t.us).length+1) ⟨AIa9 t s false (0:Nat), [tabB t],b⟩ Q:=by
 refine WR.scanL (X:=⟨[], [],wlW Ev,Ev.Y,false⟩) (k:=100) [1,2,4,5] mixed (CX.Ok.of Zak Zah) (t.us) (fun x:UseT=>x.sl==s) (fun i=>AIa9 t s false (i:Nat)) (fun i=>AIa9 t s true (i:Nat)) [tabB t] 0 (fun i x hi hx K k1 k2=> ?_) (fun K k1=> ?_) (fun h=>h1 h _) fun h i=>h2 h _
 ·refine Eq.mpr (CBw9 _ _ _ K t s i) ?_;rw [AAh9,ACb9 hx];refine Zaz (by simp;omega) (Zaz (natI i) ⟨_,_,_,_,rfl, ?_⟩);repeat' (refine Zba (fun _=> ?_) fun _=> ?_)
  all_goals first|exact k1 (by simp [*])|(rw [wrapN (by omega)];exact k2 (by simp [*]))
 ·refine Eq.mpr (CBw9 _ _ _ K t s _) ?_;rw [AAh9];exact Zda (by simp) k1
noncomputable def ARz9:Code:=sub [1,1,0,1,2,3] (code f22)
def AHz9 (t:TabT) (s:Int) (z:Bool) (i:Int):List AV:= [.bad, .d (i64 s), .ptr 0 0, .bad, .d (bo z), .bad, .d (i64 i)]++Zap 32 .bad
abbrev Qz41 (v0:Int) (v1:Int) (v2:Int) (v3:Int) (v4:Int):= [i64 v0,i64 v1,i64 v2,i64 v3,i64 v4]
theorem CBv9 (t:TabT) (s:Int) (i:Int):wpc prog ⟨[], [],wl,y,false⟩ 100 ARz9 (AHz9 t s false i) [tabB t] b (maskK 1 [1,2,4,6] K)=(BIf (decide (i<((Zaa (rowsG (TabT.gs t)):Nat):Int))) (BIf (true&&decide (0≤i)) (∃(x0:Int) (x1:Int) (x2:Int) (x3:Int) (x4:Int),(rowsG (TabT.gs t))[Zam i]? =some (Qz41 x0 x1 x2 x3 x4)∧BIf (x0==s) (K .ret (Zab::Zae (i64 s)::Zaf 0 0::Zab::Zae (bo true)::Zab::Zae (i64 i)::bds 32 []) [Blk.mk (Qz1 t) false false 0] b) (K .normal (Zab::Zae (i64 s)::Zaf 0 0::Zab::Zae (bo false)::Zab::Zae (i64 (Zad .i64 (i+1)))::bds 32 []) [Blk.mk (Qz1 t) false false 0] b)) False) (K (Zbj 2) (Zab::Zae (i64 s)::Zaf 0 0::Zab::Zae (bo false)::Zab::Zae (i64 i)::bds 32 []) [Blk.mk (Qz1 t) false false 0] b)):=by kernel_rfl
theorem BZm9 {Ev:Env prog} {b:Ev.β} {Q:Exit→St Ev.β→Prop} (t:TabT) (s:Int) (hl:(t.gs).length≤9223372036854775807) (h1:(t.gs).any (fun x:GraT=>x.sl==s)=false→∀i:Int,Q (.exit 2) ⟨AHz9 t s false i, [tabB t],b⟩) (h2:(t.gs).any (fun x:GraT=>x.sl==s)=true→∀i:Int,Q .ret ⟨AHz9 t s true i, [tabB t],b⟩):
 WR Ev ARz9 ((t.gs).length+1) ⟨AHz9 t s false (0:Nat), [tabB t],b⟩ Q:=by
 refine WR.scanL (X:=⟨[], [],wlW Ev,Ev.Y,false⟩) (k:=100) [1,2,4,6] mixed (CX.Ok.of Zak Zah) (t.gs) (fun x:GraT=>x.sl==s) (fun i=>AHz9 t s false (i:Nat)) (fun i=>AHz9 t s true (i:Nat)) [tabB t] 2 (fun i x hi hx K k1 k2=> ?_) (fun K k1=> ?_) (fun h=>h1 h _) fun h i=>h2 h _
 ·refine Eq.mpr (CBv9 _ _ _ K t s i) ?_;rw [AAf9,ABj9 hx];refine Zaz (by simp;omega) (Zaz (natI i) ⟨_,_,_,_,_,rfl, ?_⟩);repeat' (refine Zba (fun _=> ?_) fun _=> ?_)
  all_goals first|exact k1 (by simp [*])|(rw [wrapN (by omega)];exact k2 (by simp [*]))
 ·refine Eq.mpr (CBv9 _ _ _ K t s _) ?_;rw [AAf9];exact Zda (by simp) k1
def BKe9 {β:Type}:WLT β:=fun cd tm hp b K=>match cidO cd with
 |3=>∃(t:TabT) (s:Int) (q:Bool),cd= .loop ASa9∧AAv9 [1,2,4,5] 0 tm=AIa9 t s false 0∧hp= [tabB t]∧((t.us).length≤9223372036854775807∧q=(t.us).any (fun x:UseT=>x.sl==s))∧BIf q (∀i:Int,K .ret (AIa9 t s true i) [tabB t] b) (∀i:Int,K (.exit 0) (AIa9 t s false i) [tabB t] b)
 |8=>∃(t:TabT) (s:Int) (q:Bool),cd= .loop ARz9∧AAv9 [1,2,4,6] 0 tm=AHz9 t s false 0∧hp= [tabB t]∧((t.gs).length≤9223372036854775807∧q=(t.gs).any (fun x:GraT=>x.sl==s))∧BIf q (∀i:Int,K .ret (AHz9 t s true i) [tabB t] b) (∀i:Int,K (.exit 2) (AHz9 t s false i) [tabB t] b)
 |_=>False
theorem BKd9 {Ev:Env prog} (c:Code) (tm:List AV) (hp:List Blk) (b:Ev.β) (K:Exit→List AV→List Blk→Ev.β→Prop) (h:BKe9 c tm hp b K):W Ev c ⟨tm,hp,b⟩ (fun e s=>K e s.tm s.hp s.b):=by
 unfold BKe9 at h;split at h
 ·obtain ⟨t,s,q,rfl,htm,rfl,⟨hl,hz⟩,hK⟩:=h;refine W.cast (htm▸AAb9 _ tm 0) (Zbp _) ?_;exact W.rounds (BZn9 (Q:=fun e s=>K e s.tm s.hp s.b) t s hl (fun h=>by rw [hz,h] at hK;exact hK) fun h=>by rw [hz,h] at hK;exact hK)
 ·obtain ⟨t,s,q,rfl,htm,rfl,⟨hl,hz⟩,hK⟩:=h;refine W.cast (htm▸AAb9 _ tm 0) (Zbp _) ?_;exact W.rounds (BZm9 (Q:=fun e s=>K e s.tm s.hp s.b) t s hl (fun h=>by rw [hz,h] at hK;exact hK) fun h=>by rw [hz,h] at hK;exact hK)
 ·exact h.elim
def BusyS (t:TabT) (s:Int):Bool:=(t.us).any (fun x:UseT=>x.sl==s)||(t.gs).any (fun x:GraT=>x.sl==s)
abbrev Qz78 (v0:Int):=Zab::Zae (i64 v0)::Zaf 0 0::Zab::Zae (bo false)::Zab::Zae (i64 0)::bds 32 []
abbrev Qz83 (v0:Int):=Zab::Zae (i64 v0)::Zaf 0 0::Zab::Zae (bo false)::Zae (i64 0)::bds 33 []
theorem CFx9 (t:TabT) (s:Int):wpFn prog ⟨[], [],BKe9,y,false⟩ 100 f22 [tabA t, .d (i64 s)] b R=(∃(t0:TabT) (s1:Int) (q2:Bool),Zat ASa9=Zat ASa9∧(Qz83 s)=(Qz83 s1)∧ [Blk.mk (Qz1 t) false false 0]= [Blk.mk (Qz1 t0) false false 0]∧(Zaa (TabT.us t0)≤9223372036854775807∧q2=Zcv (TabT.us t0) fun (x3:UseT)=>Zcy x3==s1)∧BIf q2 (∀(i:Int),R (.d (bo true)) b) (∀(i:Int),∃(t4:TabT) (s5:Int) (q6:Bool),Zat ARz9=Zat ARz9∧(Qz78 s1)=(Qz78 s5)∧ [Blk.mk (Qz1 t0) false false 0]= [Blk.mk (Qz1 t4) false false 0]∧(Zaa (TabT.gs t4)≤9223372036854775807∧q6=Zcv (TabT.gs t4) fun (x7:GraT)=>Zdg x7==s5)∧BIf q6 (∀(i:Int),R (.d (bo true)) b) (∀(i:Int),R (.d (bo false)) b))):=by kernel_rfl
theorem CHi9 (t:TabT) (s:Int) (hl0:(t.us).length≤9223372036854775807) (hl1:(t.gs).length≤9223372036854775807):PCall prog 22 [tabA t, .d (i64 s)] (.d (bo (BusyS t s))):=by
 refine Zcu (n:=100) (u:=false) (fun _=>BKe9) mixed Zak Zah (fun Ev=>BKd9) func22 (by rfl) (by rfl) fun Ev bb=> ?_;rw [CFx9];exact ⟨t,s,_,rfl,rfl,rfl,⟨hl0,rfl⟩,Zba (fun h0 i=>by rw [BusyS];simp only [h0,Zfb,Zei,Bool.false_or]) fun h0 i=>⟨t,s,_,rfl,rfl,rfl,⟨hl1,rfl⟩,Zba (fun h1 i=>by rw [BusyS];simp only [h0,h1,Zfb,Zei,Bool.false_or]) fun h1 i=>by rw [BusyS];simp only [h0,h1,Bool.or_false,Bool.false_or]⟩⟩
def cBusy (args:List AV) (K:AV→Prop):Prop:=∃(t:TabT) (s:Int) (q:Bool),args= [tabA t, .d (i64 s)]∧((t.us).length≤9223372036854775807∧(t.gs).length≤9223372036854775807∧q=BusyS t s)∧K (.d (bo q))
theorem BXr9:∀args K,cBusy args K→∃x,PCall prog 22 args x∧K x:=by
 rintro _ K ⟨t,s,_,rfl,⟨hl0,hl1,rfl⟩,hk⟩;exact ⟨_,CHi9 t s hl0 hl1,hk⟩
noncomputable def BVi9:Code:=sub [1,0,1,2,3] (code f58)
def ATv9 (l:List AskT) (s:Int) (z:Bool) (i:Int):List AV:= [.d (.sl 3 (rowsA l)), .d (i64 s), .bad, .bad, .d (bo z), .d (i64 i)]++Zap 14 .bad
def CJj9 {β:Type}:WLT β:=fun cd tm hp b K=>match cidO cd with
 |3=>∃(l:List AskT) (s:Int) (q:Bool),cd= .loop BVi9∧AAv9 [0,1,4,5] 0 tm=ATv9 l s false 0∧hp= []∧((l).length≤9223372036854775807∧q=(l).any (fun x:AskT=>x.sl==s))∧BIf q (∀i:Int,K .ret (ATv9 l s true i) [] b) (∀i:Int,K (.exit 0) (ATv9 l s false i) [] b)
 |_=>False
noncomputable def ARn9:Code:=sub [1,0,1,2,3] (code f25)
def AHr9 (l:LayT) (n:NearT) (sl:Int) (of:Int) (pe:Int) (z:Bool) (i:Int):List AV:= [.bad, .bad, .bad, .d (i64 pe), .ptr 0 0, .ptr 1 0, .ptr 2 0, .bad, .d (bo z), .d (i64 i)]++Zap 36 .bad
abbrev Qz7 (v0:UseT):List AV:= [Zae (i64 (Zcy v0)),Zae (i64 (Zek v0)),Zae (i64 (Zgk v0)),Zae (i64 (UseT.st v0))]
abbrev Qz20 (v0:LayT) (v1:NearT) (v2:Int) (v3:Int):= [Blk.mk (Qz3 v0) false false 0,nearB v1,Blk.mk [Zae (i64 v2),Zae (i64 v3)] false false 0]
abbrev Qz37 (v0:Int) (v1:Int) (v2:Int) (v3:Int):List AV:= [Zae (i64 v0),Zae (i64 v1),Zae (i64 v2),Zae (i64 v3)]
abbrev Qz79 (v0:Int) (v1:Int):List AV:=bds 3 (Zae (i64 v0)::Zaf 0 0::Zaf 1 0::Zaf 2 0::Zab::Zae (bo true)::Zae (i64 v1)::bds 36 [])
theorem CBj9 (l:LayT) (n:NearT) (sl:Int) (of:Int) (pe:Int) (i:Int):wpc prog ⟨TV12, [],wl,y,false⟩ 100 ARn9 (AHr9 l n sl of pe false i) [layB l,nearB n,cellB sl of] b (maskK 3 [3,4,5,6,8,9] K)=(BIf (decide (i<((Zaa (rowsU (Zcp n)):Nat):Int))) (BIf (true&&decide (0≤i)) (∃(x0:Int) (x1:Int) (x2:Int) (x3:Int),(rowsU (Zcp n))[Zam i]? =some [i64 x0,i64 x1,i64 x2,i64 x3]∧∃(u6:UseT) (l7:LayT) (z8:Bool), [Zaq (Qz37 x0 x1 x2 x3),Zaq (Qz3 l)]= [Zaq (Qz7 u6),Zaq (Qz3 l7)]∧z8=useOk u6 l7∧BIf z8 (BIf (x0==sl&&(x1==of&&true)) (BIf (decide (pe<(0:Int))) (K .ret (Qz79 pe i) (Qz20 l n sl of) b) (BIf (x2==pe) (K .ret (Qz79 pe i) (Qz20 l n sl of) b) (K .normal (bds 3 (Zae (i64 pe)::Zaf 0 0::Zaf 1 0::Zaf 2 0::Zab::Zae (bo false)::Zae (i64 (Zad .i64 (i+1)))::bds 36 [])) (Qz20 l n sl of) b))) (K .normal (bds 3 (Zae (i64 pe)::Zaf 0 0::Zaf 1 0::Zaf 2 0::Zab::Zae (bo false)::Zae (i64 (Zad .i64 (i+1)))::bds 36 [])) (Qz20 l n sl of) b)) (K .normal (bds 3 (Zae (i64 pe)::Zaf 0 0::Zaf 1 0::Zaf 2 0::Zab::Zae (bo false)::Zae (i64 (Zad .i64 (i+1)))::bds 36 [])) (Qz20 l n sl of) b)) False) (K (Zbj 0) (bds 3 (Zae (i64 pe)::Zaf 0 0::Zaf 1 0::Zaf 2 0::Zab::Zae (bo false)::Zae (i64 i)::bds 36 [])) (Qz20 l n sl of) b)):=by kernel_rfl
theorem BZa9 {Ev:Env prog} {b:Ev.β} {Q:Exit→St Ev.β→Prop} (l:LayT) (n:NearT) (sl:Int) (of:Int) (pe:Int) (hl:(n.us).length≤9223372036854775807) (h1:(n.us).any (fun x:UseT=>useOk x l&&((x.sl==sl&&x.of==of)&&(decide (pe<0)||x.pe==pe)))=false→∀i:Int,Q (.exit 0) ⟨AHr9 l n sl of pe false i, [layB l,nearB n,cellB sl of],b⟩) (h2:(n.us).any (fun x:UseT=>useOk x l&&((x.sl==sl&&x.of==of)&&(decide (pe<0)||x.pe==pe)))=true→∀i:Int,Q .ret ⟨AHr9 l n sl of pe true i, [layB l,nearB n,cellB sl of],b⟩):
 WR Ev ARn9 ((n.us).length+1) ⟨AHr9 l n sl of pe false (0:Nat), [layB l,nearB n,cellB sl of],b⟩ Q:=by
 refine WR.scanL (X:=⟨TV12, [],wlW Ev,Ev.Y,false⟩) (k:=100) [3,4,5,6,8,9] mixed (CX.Ok.of AGz9 Zah) (n.us) (fun x:UseT=>useOk x l&&((x.sl==sl&&x.of==of)&&(decide (pe<0)||x.pe==pe))) (fun i=>AHr9 l n sl of pe false (i:Nat)) (fun i=>AHr9 l n sl of pe true (i:Nat)) [layB l,nearB n,cellB sl of] 0 (fun i x hi hx K k1 k2=> ?_) (fun K k1=> ?_) (fun h=>h1 h _) fun h i=>h2 h _
 ·refine Eq.mpr (CBj9 _ _ _ K l n sl of pe i) ?_;rw [AAh9,ACb9 hx];refine Zaz (by simp;omega) (Zaz (natI i) ⟨_,_,_,_,rfl, ?_⟩);refine ⟨x,l,_,rfl,rfl, ?_⟩;repeat' (refine Zba (fun _=> ?_) fun _=> ?_)
  all_goals first|exact k1 (by simp_all)|(rw [wrapN (by omega)];exact k2 (by simp_all))
 ·refine Eq.mpr (CBj9 _ _ _ K l n sl of pe _) ?_;rw [AAh9];exact Zda (by simp) k1
def BJx9 {β:Type}:WLT β:=fun cd tm hp b K=>match cidO cd with
 |3=>∃(l:LayT) (n:NearT) (sl:Int) (of:Int) (pe:Int) (q:Bool),cd= .loop ARn9∧AAv9 [3,4,5,6,8,9] 0 tm=AHr9 l n sl of pe false 0∧hp= [layB l,nearB n,cellB sl of]∧((n.us).length≤9223372036854775807∧q=(n.us).any (fun x:UseT=>useOk x l&&((x.sl==sl&&x.of==of)&&(decide (pe<0)||x.pe==pe))))∧BIf q (∀i:Int,K .ret (AHr9 l n sl of pe true i) [layB l,nearB n,cellB sl of] b) (∀i:Int,K (.exit 0) (AHr9 l n sl of pe false i) [layB l,nearB n,cellB sl of] b)
 |_=>False
theorem BJw9 {Ev:Env prog} (c:Code) (tm:List AV) (hp:List Blk) (b:Ev.β) (K:Exit→List AV→List Blk→Ev.β→Prop) (h:BJx9 c tm hp b K):W Ev c ⟨tm,hp,b⟩ (fun e s=>K e s.tm s.hp s.b):=by
 unfold BJx9 at h;split at h
 ·obtain ⟨l,n,sl,of,pe,q,rfl,htm,rfl,⟨hl,hz⟩,hK⟩:=h;refine W.cast (htm▸AAb9 _ tm 0) (Zbp _) ?_;exact W.rounds (BZa9 (Q:=fun e s=>K e s.tm s.hp s.b) l n sl of pe hl (fun h=>by rw [hz,h] at hK;exact hK) fun h=>by rw [hz,h] at hK;exact hK)
 ·exact h.elim
def UsesS (l:LayT) (n:NearT) (sl:Int) (of:Int) (pe:Int):Bool:=(n.us).any (fun x:UseT=>useOk x l&&((x.sl==sl&&x.of==of)&&(decide (pe<0)||x.pe==pe)))
abbrev Qz70 (v0:Int):List AV:=bds 3 (Zae (i64 v0)::Zaf 0 0::Zaf 1 0::Zaf 2 0::Zab::Zae (bo false)::Zae (i64 0)::bds 36 [])
theorem CFe9 (l:LayT) (n:NearT) (sl:Int) (of:Int) (pe:Int):wpFn prog ⟨[], [],BJx9,y,false⟩ 100 f25 [layA l,nearA n,cellA sl of, .d (i64 pe)] b R=(∃(l0:LayT) (n1:NearT) (sl2:Int) (of3:Int) (pe4:Int) (q5:Bool),Zat ARn9=Zat ARn9∧(Qz70 pe)=(Qz70 pe4)∧(Qz20 l n sl of)=(Qz20 l0 n1 sl2 of3)∧(Zaa (Zcp n1)≤9223372036854775807∧q5=Zcv (Zcp n1) fun (x6:UseT)=>useOk x6 l0&&(Zcy x6==sl2&&Zek x6==of3&&(decide (pe4<(0:Int))||Zgk x6==pe4)))∧BIf q5 (∀(i:Int),R (.d (bo true)) b) (∀(i:Int),R (.d (bo false)) b)):=by kernel_rfl
theorem CGt9 (l:LayT) (n:NearT) (sl:Int) (of:Int) (pe:Int) (hl0:(n.us).length≤9223372036854775807):PCall prog 25 [layA l,nearA n,cellA sl of, .d (i64 pe)] (.d (bo (UsesS l n sl of pe))):=by
 refine Zcu (n:=100) (u:=false) (fun _=>BJx9) mixed Zak Zah (fun Ev=>BJw9) func25 (by rfl) (by rfl) fun Ev bb=> ?_;rw [CFe9];exact ⟨l,n,sl,of,pe,_,rfl,rfl,rfl,⟨hl0,rfl⟩,Zba (fun h0 i=>by rw [UsesS,h0]) fun h0 i=>by rw [UsesS,h0]⟩
def cUses (args:List AV) (K:AV→Prop):Prop:=∃(l:LayT) (n:NearT) (sl:Int) (of:Int) (pe:Int) (q:Bool),args= [layA l,nearA n,cellA sl of, .d (i64 pe)]∧((n.us).length≤9223372036854775807∧q=UsesS l n sl of pe)∧K (.d (bo q))
theorem BXc9:∀args K,cUses args K→∃x,PCall prog 25 args x∧K x:=by
 rintro _ K ⟨l,n,sl,of,pe,_,rfl,⟨hl0,rfl⟩,hk⟩;exact ⟨_,CGt9 l n sl of pe hl0,hk⟩
def AAy9 (x:NearT):Prop:=x.us.length≤9223372036854775807∧x.gs.length≤9223372036854775807∧x.ak.length≤9223372036854775807
noncomputable def AIl9:Code:=sub [1,0,1,2,3] (code f23)
def ADp9 (l:LayT) (n:NearT) (s:Int) (z:Bool) (i:Int):List AV:= [.bad, .bad, .d (i64 s), .ptr 0 0, .ptr 1 0, .bad, .d (bo z), .d (i64 i)]++Zap 61 .bad
theorem BDp9 (l:LayT) (n:NearT) (s:Int) (i:Int):wpc prog ⟨TV12, [],wl,y,false⟩ 100 AIl9 (ADp9 l n s false i) [layB l,nearB n] b (maskK 2 [2,3,4,6,7] K)=(BIf (decide (i<((Zaa (rowsU (Zcp n)):Nat):Int))) (BIf (true&&decide (0≤i)) (∃(x0:Int) (x1:Int) (x2:Int) (x3:Int),(rowsU (Zcp n))[Zam i]? =some [i64 x0,i64 x1,i64 x2,i64 x3]∧∃(u6:UseT) (l7:LayT) (z8:Bool), [Zaq (Qz37 x0 x1 x2 x3),Zaq (Qz3 l)]= [Zaq (Qz7 u6),Zaq (Qz3 l7)]∧z8=useOk u6 l7∧BIf z8 (BIf (true&&decide (0≤i)) (∃(x9:Int) (x10:Int) (x11:Int) (x12:Int),(rowsU (Zcp n))[Zam i]? =some [i64 x9,i64 x10,i64 x11,i64 x12]∧BIf (x9==s) (K .ret (Zab::Zab::Zae (i64 s)::Zaf 0 0::Zaf 1 0::Zab::Zae (bo true)::Zae (i64 i)::bds 61 []) [Blk.mk (Qz3 l) false false 0,nearB n] b) (K .normal (Zab::Zab::Zae (i64 s)::Zaf 0 0::Zaf 1 0::Zab::Zae (bo false)::Zae (i64 (Zad .i64 (i+1)))::bds 61 []) [Blk.mk (Qz3 l) false false 0,nearB n] b)) False) (K .normal (Zab::Zab::Zae (i64 s)::Zaf 0 0::Zaf 1 0::Zab::Zae (bo false)::Zae (i64 (Zad .i64 (i+1)))::bds 61 []) [Blk.mk (Qz3 l) false false 0,nearB n] b)) False) (K (Zbj 0) (Zab::Zab::Zae (i64 s)::Zaf 0 0::Zaf 1 0::Zab::Zae (bo false)::Zae (i64 i)::bds 61 []) [Blk.mk (Qz3 l) false false 0,nearB n] b)):=by kernel_rfl
theorem BJv9 {Ev:Env prog} {b:Ev.β} {Q:Exit→St Ev.β→Prop} (l:LayT) (n:NearT) (s:Int) (hl:(n.us).length≤9223372036854775807) (h1:(n.us).any (fun x:UseT=>useOk x l&&x.sl==s)=false→∀i:Int,Q (.exit 0) ⟨ADp9 l n s false i, [layB l,nearB n],b⟩) (h2:(n.us).any (fun x:UseT=>useOk x l&&x.sl==s)=true→∀i:Int,Q .ret ⟨ADp9 l n s true i, [layB l,nearB n],b⟩):
 WR Ev AIl9 ((n.us).length+1) ⟨ADp9 l n s false (0:Nat), [layB l,nearB n],b⟩ Q:=by
 refine WR.scanL (X:=⟨TV12, [],wlW Ev,Ev.Y,false⟩) (k:=100) [2,3,4,6,7] mixed (CX.Ok.of AGz9 Zah) (n.us) (fun x:UseT=>useOk x l&&x.sl==s) (fun i=>ADp9 l n s false (i:Nat)) (fun i=>ADp9 l n s true (i:Nat)) [layB l,nearB n] 0 (fun i x hi hx K k1 k2=> ?_) (fun K k1=> ?_) (fun h=>h1 h _) fun h i=>h2 h _
 ·refine Eq.mpr (BDp9 _ _ _ K l n s i) ?_;rw [AAh9,ACb9 hx];refine Zaz (by simp;omega) (Zaz (natI i) ⟨_,_,_,_,rfl, ?_⟩);refine ⟨x,l,_,rfl,rfl, ?_⟩;refine Zba (fun g1=>Zaz (natI i) ⟨_,_,_,_,rfl,Zba (fun g2=> ?_) fun g2=> ?_⟩) fun g1=> ?_;all_goals first|exact k1 (by simp_all)|(rw [wrapN (by omega)];exact k2 (by simp_all))
 ·refine Eq.mpr (BDp9 _ _ _ K l n s _) ?_;rw [AAh9];exact Zda (by simp) k1
noncomputable def AIk9:Code:=sub [1,1,0,1,2,3] (code f23)
def ADo9 (l:LayT) (n:NearT) (s:Int) (z:Bool) (i:Int):List AV:= [.bad, .bad, .d (i64 s), .ptr 0 0, .ptr 1 0, .bad, .d (bo z), .bad, .bad, .d (i64 i)]++Zap 59 .bad
abbrev Qz5 (v0:GraT):List AV:= [Zae (i64 (Zdg v0)),Zae (i64 (Zfe v0)),Zae (i64 (Zgg v0)),Zae (i64 (GraT.st v0)),Zae (i64 (Zeh v0))]
abbrev Qz22 (v0:Int) (v1:Int) (v2:Int) (v3:Int) (v4:Int):List AV:= [Zae (i64 v0),Zae (i64 v1),Zae (i64 v2),Zae (i64 v3),Zae (i64 v4)]
theorem BDo9 (l:LayT) (n:NearT) (s:Int) (i:Int):wpc prog ⟨TV12, [],wl,y,false⟩ 100 AIk9 (ADo9 l n s false i) [layB l,nearB n] b (maskK 2 [2,3,4,6,9] K)=(BIf (decide (i<((Zaa (rowsG (Zck n)):Nat):Int))) (BIf (true&&decide (0≤i)) (∃(x0:Int) (x1:Int) (x2:Int) (x3:Int) (x4:Int),(rowsG (Zck n))[Zam i]? =some (Qz41 x0 x1 x2 x3 x4)∧∃(u7:GraT) (l8:LayT) (z9:Bool), [Zaq (Qz22 x0 x1 x2 x3 x4),Zaq (Qz3 l)]= [Zaq (Qz5 u7),Zaq (Qz3 l8)]∧z9=graOk u7 l8∧BIf z9 (BIf (true&&decide (0≤i)) (∃(x10:Int) (x11:Int) (x12:Int) (x13:Int) (x14:Int),(rowsG (Zck n))[Zam i]? =some (Qz41 x10 x11 x12 x13 x14)∧BIf (x10==s) (K .ret (Zab::Zab::Zae (i64 s)::Zaf 0 0::Zaf 1 0::Zab::Zae (bo true)::Zab::Zab::Zae (i64 i)::bds 59 []) [Blk.mk (Qz3 l) false false 0,nearB n] b) (K .normal (Zab::Zab::Zae (i64 s)::Zaf 0 0::Zaf 1 0::Zab::Zae (bo false)::Zab::Zab::Zae (i64 (Zad .i64 (i+1)))::bds 59 []) [Blk.mk (Qz3 l) false false 0,nearB n] b)) False) (K .normal (Zab::Zab::Zae (i64 s)::Zaf 0 0::Zaf 1 0::Zab::Zae (bo false)::Zab::Zab::Zae (i64 (Zad .i64 (i+1)))::bds 59 []) [Blk.mk (Qz3 l) false false 0,nearB n] b)) False) (K (Zbj 2) (Zab::Zab::Zae (i64 s)::Zaf 0 0::Zaf 1 0::Zab::Zae (bo false)::Zab::Zab::Zae (i64 i)::bds 59 []) [Blk.mk (Qz3 l) false false 0,nearB n] b)):=by kernel_rfl
theorem BJu9 {Ev:Env prog} {b:Ev.β} {Q:Exit→St Ev.β→Prop} (l:LayT) (n:NearT) (s:Int) (hl:(n.gs).length≤9223372036854775807) (h1:(n.gs).any (fun x:GraT=>graOk x l&&x.sl==s)=false→∀i:Int,Q (.exit 2) ⟨ADo9 l n s false i, [layB l,nearB n],b⟩) (h2:(n.gs).any (fun x:GraT=>graOk x l&&x.sl==s)=true→∀i:Int,Q .ret ⟨ADo9 l n s true i, [layB l,nearB n],b⟩):
 WR Ev AIk9 ((n.gs).length+1) ⟨ADo9 l n s false (0:Nat), [layB l,nearB n],b⟩ Q:=by
 refine WR.scanL (X:=⟨TV12, [],wlW Ev,Ev.Y,false⟩) (k:=100) [2,3,4,6,9] mixed (CX.Ok.of AGz9 Zah) (n.gs) (fun x:GraT=>graOk x l&&x.sl==s) (fun i=>ADo9 l n s false (i:Nat)) (fun i=>ADo9 l n s true (i:Nat)) [layB l,nearB n] 2 (fun i x hi hx K k1 k2=> ?_) (fun K k1=> ?_) (fun h=>h1 h _) fun h i=>h2 h _
 ·refine Eq.mpr (BDo9 _ _ _ K l n s i) ?_;rw [AAf9,ABj9 hx];refine Zaz (by simp;omega) (Zaz (natI i) ⟨_,_,_,_,_,rfl, ?_⟩);refine ⟨x,l,_,rfl,rfl, ?_⟩;refine Zba (fun g1=>Zaz (natI i) ⟨_,_,_,_,_,rfl,Zba (fun g2=> ?_) fun g2=> ?_⟩) fun g1=> ?_;all_goals first|exact k1 (by simp_all)|(rw [wrapN (by omega)];exact k2 (by simp_all))
 ·refine Eq.mpr (BDo9 _ _ _ K l n s _) ?_;rw [AAf9];exact Zda (by simp) k1
def AOh9 {β:Type}:WLT β:=fun cd tm hp b K=>match cidO cd with
 |3=>∃(l:LayT) (n:NearT) (s:Int) (q:Bool),cd= .loop AIl9∧AAv9 [2,3,4,6,7] 0 tm=ADp9 l n s false 0∧hp= [layB l,nearB n]∧((n.us).length≤9223372036854775807∧q=(n.us).any (fun x:UseT=>useOk x l&&x.sl==s))∧BIf q (∀i:Int,K .ret (ADp9 l n s true i) [layB l,nearB n] b) (∀i:Int,K (.exit 0) (ADp9 l n s false i) [layB l,nearB n] b)
 |9=>∃(l:LayT) (n:NearT) (s:Int) (q:Bool),cd= .loop AIk9∧AAv9 [2,3,4,6,9] 0 tm=ADo9 l n s false 0∧hp= [layB l,nearB n]∧((n.gs).length≤9223372036854775807∧q=(n.gs).any (fun x:GraT=>graOk x l&&x.sl==s))∧BIf q (∀i:Int,K .ret (ADo9 l n s true i) [layB l,nearB n] b) (∀i:Int,K (.exit 2) (ADo9 l n s false i) [layB l,nearB n] b)
 |_=>False
theorem AYi9 {Ev:Env prog} (c:Code) (tm:List AV) (hp:List Blk) (b:Ev.β) (K:Exit→List AV→List Blk→Ev.β→Prop) (h:AOh9 c tm hp b K):W Ev c ⟨tm,hp,b⟩ (fun e s=>K e s.tm s.hp s.b):=by
 unfold AOh9 at h;split at h
 ·obtain ⟨l,n,s,q,rfl,htm,rfl,⟨hl,hz⟩,hK⟩:=h;refine W.cast (htm▸AAb9 _ tm 0) (Zbp _) ?_;exact W.rounds (BJv9 (Q:=fun e s=>K e s.tm s.hp s.b) l n s hl (fun h=>by rw [hz,h] at hK;exact hK) fun h=>by rw [hz,h] at hK;exact hK)
 ·obtain ⟨l,n,s,q,rfl,htm,rfl,⟨hl,hz⟩,hK⟩:=h;refine W.cast (htm▸AAb9 _ tm 0) (Zbp _) ?_;exact W.rounds (BJu9 (Q:=fun e s=>K e s.tm s.hp s.b) l n s hl (fun h=>by rw [hz,h] at hK;exact hK) fun h=>by rw [hz,h] at hK;exact hK)
 ·exact h.elim
def AJs9 (l:LayT) (n:NearT) (s:Int):Bool:=(n.us).any (fun x:UseT=>useOk x l&&x.sl==s)||(n.gs).any (fun x:GraT=>graOk x l&&x.sl==s)
abbrev Qz64 (v0:Int):=Zab::Zab::Zae (i64 v0)::Zaf 0 0::Zaf 1 0::Zab::Zae (bo false)::Zab::Zab::Zae (i64 0)::bds 59 []
abbrev Qz74 (v0:Int):=Zab::Zab::Zae (i64 v0)::Zaf 0 0::Zaf 1 0::Zab::Zae (bo false)::Zae (i64 0)::bds 61 []
theorem BPa9 (l:LayT) (n:NearT) (s:Int):wpFn prog ⟨[], [],AOh9,y,false⟩ 100 f23 [layA l,nearA n, .d (i64 s)] b R=(∃(l0:LayT) (n1:NearT) (s2:Int) (q3:Bool),Zat AIl9=Zat AIl9∧(Qz74 s)=(Qz74 s2)∧ [Blk.mk (Qz3 l) false false 0,nearB n]= [Blk.mk (Qz3 l0) false false 0,nearB n1]∧(Zaa (Zcp n1)≤9223372036854775807∧q3=Zcv (Zcp n1) fun (x4:UseT)=>useOk x4 l0&&Zcy x4==s2)∧BIf q3 (∀(i:Int),R (.d (bo true)) b) (∀(i:Int),∃(l5:LayT) (n6:NearT) (s7:Int) (q8:Bool),Zat AIk9=Zat AIk9∧(Qz64 s2)=(Qz64 s7)∧ [Blk.mk (Qz3 l0) false false 0,nearB n1]= [Blk.mk (Qz3 l5) false false 0,nearB n6]∧(Zaa (Zck n6)≤9223372036854775807∧q8=Zcv (Zck n6) fun (x9:GraT)=>graOk x9 l5&&Zdg x9==s7)∧BIf q8 (∀(i:Int),R (.d (bo true)) b) (∀(i:Int),R (.d (bo false)) b))):=by kernel_rfl
theorem BUe9 (l:LayT) (n:NearT) (s:Int) (hl0:(n.us).length≤9223372036854775807) (hl1:(n.gs).length≤9223372036854775807):PCall prog 23 [layA l,nearA n, .d (i64 s)] (.d (bo (AJs9 l n s))):=by
 refine Zcu (n:=100) (u:=false) (fun _=>AOh9) mixed Zak Zah (fun Ev=>AYi9) func23 (by rfl) (by rfl) fun Ev bb=> ?_;rw [BPa9];exact ⟨l,n,s,_,rfl,rfl,rfl,⟨hl0,rfl⟩,Zba (fun h0 i=>by rw [AJs9];simp only [h0,Zfb,Zei,Bool.false_or]) fun h0 i=>⟨l,n,s,_,rfl,rfl,rfl,⟨hl1,rfl⟩,Zba (fun h1 i=>by rw [AJs9];simp only [h0,h1,Zfb,Zei,Bool.false_or]) fun h1 i=>by rw [AJs9];simp only [h0,h1,Bool.or_false,Bool.false_or]⟩⟩
def BQm9 (args:List AV) (K:AV→Prop):Prop:=∃(l:LayT) (n:NearT) (s:Int) (q:Bool),args= [layA l,nearA n, .d (i64 s)]∧((n.us).length≤9223372036854775807∧(n.gs).length≤9223372036854775807∧q=AJs9 l n s)∧K (.d (bo q))
theorem BHe9:∀args K,BQm9 args K→∃x,PCall prog 23 args x∧K x:=by
 rintro _ K ⟨l,n,s,_,rfl,⟨hl0,hl1,rfl⟩,hk⟩;exact ⟨_,BUe9 l n s hl0 hl1,hk⟩
noncomputable def ASb9:Code:=sub [1,0,1,2,3] (code f26)
def AIb9 (l:LayT) (n:NearT) (sl:Int) (of:Int) (pe:Int) (z:Bool) (i:Int):List AV:= [.bad, .bad, .bad, .d (i64 pe), .ptr 0 0, .ptr 1 0, .ptr 2 0, .bad, .d (bo z), .d (i64 i)]++Zap 35 .bad
theorem CBx9 (l:LayT) (n:NearT) (sl:Int) (of:Int) (pe:Int) (i:Int):wpc prog ⟨TV12, [],wl,y,false⟩ 100 ASb9 (AIb9 l n sl of pe false i) [layB l,nearB n,cellB sl of] b (maskK 3 [3,4,5,6,8,9] K)=(BIf (decide (i<((Zaa (rowsA (Zer n)):Nat):Int))) (BIf (true&&decide (0≤i)) (∃(x0:Int) (x1:Int) (x2:Int),(rowsA (Zer n))[Zam i]? =some [i64 x0,i64 x1,i64 x2]∧∃(sl5:Int) (of6:Int) (pe7:Int) (l8:LayT) (z9:Bool),(Qz39 x0 x1 x2 l)=(Qz39 sl5 of6 pe7 l8)∧z9=ABe9 sl5 of6 pe7 l8∧BIf z9 (BIf (x0==sl&&(x1==of&&true)) (BIf (x2==pe) (K .ret (bds 3 (Zae (i64 pe)::Zaf 0 0::Zaf 1 0::Zaf 2 0::Zab::Zae (bo true)::Zae (i64 i)::bds 35 [])) (Qz20 l n sl of) b) (K .normal (bds 3 (Zae (i64 pe)::Zaf 0 0::Zaf 1 0::Zaf 2 0::Zab::Zae (bo false)::Zae (i64 (Zad .i64 (i+1)))::bds 35 [])) (Qz20 l n sl of) b)) (K .normal (bds 3 (Zae (i64 pe)::Zaf 0 0::Zaf 1 0::Zaf 2 0::Zab::Zae (bo false)::Zae (i64 (Zad .i64 (i+1)))::bds 35 [])) (Qz20 l n sl of) b)) (K .normal (bds 3 (Zae (i64 pe)::Zaf 0 0::Zaf 1 0::Zaf 2 0::Zab::Zae (bo false)::Zae (i64 (Zad .i64 (i+1)))::bds 35 [])) (Qz20 l n sl of) b)) False) (K (Zbj 0) (bds 3 (Zae (i64 pe)::Zaf 0 0::Zaf 1 0::Zaf 2 0::Zab::Zae (bo false)::Zae (i64 i)::bds 35 [])) (Qz20 l n sl of) b)):=by kernel_rfl
theorem BZo9 {Ev:Env prog} {b:Ev.β} {Q:Exit→St Ev.β→Prop} (l:LayT) (n:NearT) (sl:Int) (of:Int) (pe:Int) (hl:(n.ak).length≤9223372036854775807) (h1:(n.ak).any (fun x:AskT=>ABe9 x.sl x.of x.pe l&&((x.sl==sl&&x.of==of)&&x.pe==pe))=false→∀i:Int,Q (.exit 0) ⟨AIb9 l n sl of pe false i, [layB l,nearB n,cellB sl of],b⟩) (h2:(n.ak).any (fun x:AskT=>ABe9 x.sl x.of x.pe l&&((x.sl==sl&&x.of==of)&&x.pe==pe))=true→∀i:Int,Q .ret ⟨AIb9 l n sl of pe true i, [layB l,nearB n,cellB sl of],b⟩):
 WR Ev ASb9 ((n.ak).length+1) ⟨AIb9 l n sl of pe false (0:Nat), [layB l,nearB n,cellB sl of],b⟩ Q:=by
 refine WR.scanL (X:=⟨TV12, [],wlW Ev,Ev.Y,false⟩) (k:=100) [3,4,5,6,8,9] mixed (CX.Ok.of AGz9 Zah) (n.ak) (fun x:AskT=>ABe9 x.sl x.of x.pe l&&((x.sl==sl&&x.of==of)&&x.pe==pe)) (fun i=>AIb9 l n sl of pe false (i:Nat)) (fun i=>AIb9 l n sl of pe true (i:Nat)) [layB l,nearB n,cellB sl of] 0 (fun i x hi hx K k1 k2=> ?_) (fun K k1=> ?_) (fun h=>h1 h _) fun h i=>h2 h _
 ·refine Eq.mpr (CBx9 _ _ _ K l n sl of pe i) ?_;rw [AAn9,ABk9 hx];refine Zaz (by simp;omega) (Zaz (natI i) ⟨_,_,_,rfl, ?_⟩);refine ⟨x.sl,x.of,x.pe,l,_,rfl,rfl, ?_⟩;repeat' (refine Zba (fun _=> ?_) fun _=> ?_)
  all_goals first|exact k1 (by simp_all)|(rw [wrapN (by omega)];exact k2 (by simp_all))
 ·refine Eq.mpr (CBx9 _ _ _ K l n sl of pe _) ?_;rw [AAn9];exact Zda (by simp) k1
def BKg9 {β:Type}:WLT β:=fun cd tm hp b K=>match cidO cd with
 |3=>∃(l:LayT) (n:NearT) (sl:Int) (of:Int) (pe:Int) (q:Bool),cd= .loop ASb9∧AAv9 [3,4,5,6,8,9] 0 tm=AIb9 l n sl of pe false 0∧hp= [layB l,nearB n,cellB sl of]∧((n.ak).length≤9223372036854775807∧q=(n.ak).any (fun x:AskT=>ABe9 x.sl x.of x.pe l&&((x.sl==sl&&x.of==of)&&x.pe==pe)))∧BIf q (∀i:Int,K .ret (AIb9 l n sl of pe true i) [layB l,nearB n,cellB sl of] b) (∀i:Int,K (.exit 0) (AIb9 l n sl of pe false i) [layB l,nearB n,cellB sl of] b)
 |_=>False
theorem BKf9 {Ev:Env prog} (c:Code) (tm:List AV) (hp:List Blk) (b:Ev.β) (K:Exit→List AV→List Blk→Ev.β→Prop) (h:BKg9 c tm hp b K):W Ev c ⟨tm,hp,b⟩ (fun e s=>K e s.tm s.hp s.b):=by
 unfold BKg9 at h;split at h
 ·obtain ⟨l,n,sl,of,pe,q,rfl,htm,rfl,⟨hl,hz⟩,hK⟩:=h;refine W.cast (htm▸AAb9 _ tm 0) (Zbp _) ?_;exact W.rounds (BZo9 (Q:=fun e s=>K e s.tm s.hp s.b) l n sl of pe hl (fun h=>by rw [hz,h] at hK;exact hK) fun h=>by rw [hz,h] at hK;exact hK)
 ·exact h.elim
def AsksS (l:LayT) (n:NearT) (sl:Int) (of:Int) (pe:Int):Bool:=(n.ak).any (fun x:AskT=>ABe9 x.sl x.of x.pe l&&((x.sl==sl&&x.of==of)&&x.pe==pe))
abbrev Qz71 (v0:Int):List AV:=bds 3 (Zae (i64 v0)::Zaf 0 0::Zaf 1 0::Zaf 2 0::Zab::Zae (bo false)::Zae (i64 0)::bds 35 [])
theorem CFy9 (l:LayT) (n:NearT) (sl:Int) (of:Int) (pe:Int):wpFn prog ⟨[], [],BKg9,y,false⟩ 100 f26 [layA l,nearA n,cellA sl of, .d (i64 pe)] b R=(∃(l0:LayT) (n1:NearT) (sl2:Int) (of3:Int) (pe4:Int) (q5:Bool),Zat ASb9=Zat ASb9∧(Qz71 pe)=(Qz71 pe4)∧(Qz20 l n sl of)=(Qz20 l0 n1 sl2 of3)∧(Zaa (Zer n1)≤9223372036854775807∧q5=Zcv (Zer n1) fun (x6:AskT)=>ABe9 (Zcr x6) (Zgd x6) (Zfp x6) l0&&(Zcr x6==sl2&&Zgd x6==of3&&Zfp x6==pe4))∧BIf q5 (∀(i:Int),R (.d (bo true)) b) (∀(i:Int),R (.d (bo false)) b)):=by kernel_rfl
theorem CHj9 (l:LayT) (n:NearT) (sl:Int) (of:Int) (pe:Int) (hl0:(n.ak).length≤9223372036854775807):PCall prog 26 [layA l,nearA n,cellA sl of, .d (i64 pe)] (.d (bo (AsksS l n sl of pe))):=by
 refine Zcu (n:=100) (u:=false) (fun _=>BKg9) mixed Zak Zah (fun Ev=>BKf9) func26 (by rfl) (by rfl) fun Ev bb=> ?_;rw [CFy9];exact ⟨l,n,sl,of,pe,_,rfl,rfl,rfl,⟨hl0,rfl⟩,Zba (fun h0 i=>by rw [AsksS,h0]) fun h0 i=>by rw [AsksS,h0]⟩
def cAsks (args:List AV) (K:AV→Prop):Prop:=∃(l:LayT) (n:NearT) (sl:Int) (of:Int) (pe:Int) (q:Bool),args= [layA l,nearA n,cellA sl of, .d (i64 pe)]∧((n.ak).length≤9223372036854775807∧q=AsksS l n sl of pe)∧K (.d (bo q))
theorem BXu9:∀args K,cAsks args K→∃x,PCall prog 26 args x∧K x:=by
 rintro _ K ⟨l,n,sl,of,pe,_,rfl,⟨hl0,rfl⟩,hk⟩;exact ⟨_,CHj9 l n sl of pe hl0,hk⟩
noncomputable def BEr9:Code:=sub [1,0,1,2,3] (code f24)
def AOk9 (t:TabT) (sl:Int) (of:Int) (pe:Int) (z:Bool) (i:Int):List AV:= [.bad, .bad, .d (i64 pe), .ptr 0 0, .ptr 1 0, .bad, .d (bo z), .d (i64 i)]++Zap 25 .bad
abbrev Qz46 (v0:TabT) (v1:Int) (v2:Int):= [Blk.mk (Qz1 v0) false false 0,Blk.mk [Zae (i64 v1),Zae (i64 v2)] false false 0]
theorem rHad0 (t:TabT) (sl:Int) (of:Int) (pe:Int) (i:Int):wpc prog ⟨[], [],wl,y,false⟩ 100 BEr9 (AOk9 t sl of pe false i) [tabB t,cellB sl of] b (maskK 2 [2,3,4,6,7] K)=(BIf (decide (i<((Zaa (rowsG (TabT.gs t)):Nat):Int))) (BIf (true&&decide (0≤i)) (∃(x0:Int) (x1:Int) (x2:Int) (x3:Int) (x4:Int),(rowsG (TabT.gs t))[Zam i]? =some (Qz41 x0 x1 x2 x3 x4)∧BIf (x0==sl&&(x1==of&&true)) (BIf (true&&decide (0≤i)) (∃(x7:Int) (x8:Int) (x9:Int) (x10:Int) (x11:Int),(rowsG (TabT.gs t))[Zam i]? =some (Qz41 x7 x8 x9 x10 x11)∧BIf (x9==pe) (K .ret (Zab::Zab::Zae (i64 pe)::Zaf 0 0::Zaf 1 0::Zab::Zae (bo true)::Zae (i64 i)::bds 25 []) (Qz46 t sl of) b) (K .normal (Zab::Zab::Zae (i64 pe)::Zaf 0 0::Zaf 1 0::Zab::Zae (bo false)::Zae (i64 (Zad .i64 (i+1)))::bds 25 []) (Qz46 t sl of) b)) False) (K .normal (Zab::Zab::Zae (i64 pe)::Zaf 0 0::Zaf 1 0::Zab::Zae (bo false)::Zae (i64 (Zad .i64 (i+1)))::bds 25 []) (Qz46 t sl of) b)) False) (K (Zbj 0) (Zab::Zab::Zae (i64 pe)::Zaf 0 0::Zaf 1 0::Zab::Zae (bo false)::Zae (i64 i)::bds 25 []) (Qz46 t sl of) b)):=by kernel_rfl
theorem CGd9 {Ev:Env prog} {b:Ev.β} {Q:Exit→St Ev.β→Prop} (t:TabT) (sl:Int) (of:Int) (pe:Int) (hl:(t.gs).length≤9223372036854775807) (h1:(t.gs).any (fun x:GraT=>(x.sl==sl&&x.of==of)&&x.pe==pe)=false→∀i:Int,Q (.exit 0) ⟨AOk9 t sl of pe false i, [tabB t,cellB sl of],b⟩) (h2:(t.gs).any (fun x:GraT=>(x.sl==sl&&x.of==of)&&x.pe==pe)=true→∀i:Int,Q .ret ⟨AOk9 t sl of pe true i, [tabB t,cellB sl of],b⟩):
 WR Ev BEr9 ((t.gs).length+1) ⟨AOk9 t sl of pe false (0:Nat), [tabB t,cellB sl of],b⟩ Q:=by
 refine WR.scanL (X:=⟨[], [],wlW Ev,Ev.Y,false⟩) (k:=100) [2,3,4,6,7] mixed (CX.Ok.of Zak Zah) (t.gs) (fun x:GraT=>(x.sl==sl&&x.of==of)&&x.pe==pe) (fun i=>AOk9 t sl of pe false (i:Nat)) (fun i=>AOk9 t sl of pe true (i:Nat)) [tabB t,cellB sl of] 0 (fun i x hi hx K k1 k2=> ?_) (fun K k1=> ?_) (fun h=>h1 h _) fun h i=>h2 h _
 ·refine Eq.mpr (rHad0 _ _ _ K t sl of pe i) ?_;rw [AAf9,ABj9 hx];refine Zaz (by simp;omega) (Zaz (natI i) ⟨_,_,_,_,_,rfl, ?_⟩);refine Zba (fun g1=>Zaz (natI i) ⟨_,_,_,_,_,rfl,Zba (fun g2=> ?_) fun g2=> ?_⟩) fun g1=> ?_;all_goals first|exact k1 (by simp_all)|(rw [wrapN (by omega)];exact k2 (by simp_all))
 ·refine Eq.mpr (rHad0 _ _ _ K t sl of pe _) ?_;rw [AAf9];exact Zda (by simp) k1
def wlHad {β:Type}:WLT β:=fun cd tm hp b K=>match cidO cd with
 |3=>∃(t:TabT) (sl:Int) (of:Int) (pe:Int) (q:Bool),cd= .loop BEr9∧AAv9 [2,3,4,6,7] 0 tm=AOk9 t sl of pe false 0∧hp= [tabB t,cellB sl of]∧((t.gs).length≤9223372036854775807∧q=(t.gs).any (fun x:GraT=>(x.sl==sl&&x.of==of)&&x.pe==pe))∧BIf q (∀i:Int,K .ret (AOk9 t sl of pe true i) [tabB t,cellB sl of] b) (∀i:Int,K (.exit 0) (AOk9 t sl of pe false i) [tabB t,cellB sl of] b)
 |_=>False
theorem BSq9 {Ev:Env prog} (c:Code) (tm:List AV) (hp:List Blk) (b:Ev.β) (K:Exit→List AV→List Blk→Ev.β→Prop) (h:wlHad c tm hp b K):W Ev c ⟨tm,hp,b⟩ (fun e s=>K e s.tm s.hp s.b):=by
 unfold wlHad at h;split at h
 ·obtain ⟨t,sl,of,pe,q,rfl,htm,rfl,⟨hl,hz⟩,hK⟩:=h;refine W.cast (htm▸AAb9 _ tm 0) (Zbp _) ?_;exact W.rounds (CGd9 (Q:=fun e s=>K e s.tm s.hp s.b) t sl of pe hl (fun h=>by rw [hz,h] at hK;exact hK) fun h=>by rw [hz,h] at hK;exact hK)
 ·exact h.elim
def HadS (t:TabT) (sl:Int) (of:Int) (pe:Int):Bool:=(t.gs).any (fun x:GraT=>(x.sl==sl&&x.of==of)&&x.pe==pe)
abbrev Qz75 (v0:Int):=Zab::Zab::Zae (i64 v0)::Zaf 0 0::Zaf 1 0::Zab::Zae (bo false)::Zae (i64 0)::bds 25 []
theorem CJh9 (t:TabT) (sl:Int) (of:Int) (pe:Int):wpFn prog ⟨[], [],wlHad,y,false⟩ 100 f24 [tabA t,cellA sl of, .d (i64 pe)] b R=(∃(t0:TabT) (sl1:Int) (of2:Int) (pe3:Int) (q4:Bool),Zat BEr9=Zat BEr9∧(Qz75 pe)=(Qz75 pe3)∧(Qz46 t sl of)=(Qz46 t0 sl1 of2)∧(Zaa (TabT.gs t0)≤9223372036854775807∧q4=Zcv (TabT.gs t0) fun (x5:GraT)=>Zdg x5==sl1&&Zfe x5==of2&&Zgg x5==pe3)∧BIf q4 (∀(i:Int),R (.d (bo true)) b) (∀(i:Int),R (.d (bo false)) b)):=by kernel_rfl
theorem pcHad (t:TabT) (sl:Int) (of:Int) (pe:Int) (hl0:(t.gs).length≤9223372036854775807):PCall prog 24 [tabA t,cellA sl of, .d (i64 pe)] (.d (bo (HadS t sl of pe))):=by
 refine Zcu (n:=100) (u:=false) (fun _=>wlHad) mixed Zak Zah (fun Ev=>BSq9) func24 (by rfl) (by rfl) fun Ev bb=> ?_;rw [CJh9];exact ⟨t,sl,of,pe,_,rfl,rfl,rfl,⟨hl0,rfl⟩,Zba (fun h0 i=>by rw [HadS,h0]) fun h0 i=>by rw [HadS,h0]⟩
def cHad (args:List AV) (K:AV→Prop):Prop:=∃(t:TabT) (sl:Int) (of:Int) (pe:Int) (q:Bool),args= [tabA t,cellA sl of, .d (i64 pe)]∧((t.gs).length≤9223372036854775807∧q=HadS t sl of pe)∧K (.d (bo q))
theorem CEs9:∀args K,cHad args K→∃x,PCall prog 24 args x∧K x:=by
 rintro _ K ⟨t,sl,of,pe,_,rfl,⟨hl0,rfl⟩,hk⟩;exact ⟨_,pcHad t sl of pe hl0,hk⟩
def TtU:List (Nat×(List AV→(AV→Prop)→Prop)):= [(108,BXf9),(95,BNr9),(118,BXg9)]
theorem BYc9:AAc9 prog TtU:=Zaj AXa9 (Zaj APu9 (Zaj AXb9 Zak))
noncomputable def lpEU:Code:=sub [1,1,0,1,2,3] (code f113)
noncomputable def lpEG:Code:=sub [1,1,0,1,2,3] (code f115)
noncomputable def lpEA:Code:=sub [1,1,0,1,2,3] (code f117)
def tmE (k cf:Nat) (xs:List (List Dv)) (acc:AV) (n i:Int):List AV:= [.bad, .fn (.func cf) [] [], .bad, .bad, .bad,acc, .bad, .bad, .d (.sl k xs), .d (i64 n), .d (i64 i)]++Zap 11 .bad
abbrev Qz14 (v0:UseT):= [i64 (Zcy v0),i64 (Zek v0),i64 (Zgk v0),i64 (UseT.st v0)]
theorem rEU (l:List UseT) (xs:List (List Dv)) (n i:Int):wpc prog ⟨TtU, [],wl,y,false⟩ 100 lpEU (tmE 4 108 (rowsU l) (.own 149 4 xs) n i) [] b (maskK 0 [1,5,8,9,10] K)=(BIf (decide (i<n)) (BIf (true&&decide (0≤i)) (∃(x0:Int) (x1:Int) (x2:Int) (x3:Int),(rowsU l)[Zam i]? =some [i64 x0,i64 x1,i64 x2,i64 x3]∧∃(u6:UseT), [Zaq (Qz37 x0 x1 x2 x3)]= [Zaq (Qz7 u6)]∧BIf (true&&decide ((Zaa xs+1)*32≤140737488355328)) (K .normal (Zab::Zax (Fn.func 108) [] []::bds 3 (AV.own 149 4 (xs++ [Qz14 u6])::Zab::Zab::Zae (Zan 4 (rowsU l))::Zae (i64 n)::Zae (i64 (Zad .i64 (i+1)))::bds 11 [])) [] b) False) False) (K (Zbj 0) (Zab::Zax (Fn.func 108) [] []::bds 3 (AV.own 149 4 xs::Zab::Zab::Zae (Zan 4 (rowsU l))::Zae (i64 n)::Zae (i64 i)::bds 11 [])) [] b)):=by kernel_rfl
abbrev Qz17 (v0:GraT):= [i64 (Zdg v0),i64 (Zfe v0),i64 (Zgg v0),i64 (GraT.st v0),i64 (Zeh v0)]
theorem rEG (l:List GraT) (xs:List (List Dv)) (n i:Int):wpc prog ⟨TtU, [],wl,y,false⟩ 100 lpEG (tmE 5 95 (rowsG l) (.own 140 5 xs) n i) [] b (maskK 0 [1,5,8,9,10] K)=(BIf (decide (i<n)) (BIf (true&&decide (0≤i)) (∃(x0:Int) (x1:Int) (x2:Int) (x3:Int) (x4:Int),(rowsG l)[Zam i]? =some (Qz41 x0 x1 x2 x3 x4)∧∃(u7:GraT), [Zaq (Qz22 x0 x1 x2 x3 x4)]= [Zaq (Qz5 u7)]∧BIf (true&&decide ((Zaa xs+1)*40≤140737488355328)) (K .normal (Zab::Zax (Fn.func 95) [] []::bds 3 (AV.own 140 5 (xs++ [Qz17 u7])::Zab::Zab::Zae (Zan 5 (rowsG l))::Zae (i64 n)::Zae (i64 (Zad .i64 (i+1)))::bds 11 [])) [] b) False) False) (K (Zbj 0) (Zab::Zax (Fn.func 95) [] []::bds 3 (AV.own 140 5 xs::Zab::Zab::Zae (Zan 5 (rowsG l))::Zae (i64 n)::Zae (i64 i)::bds 11 [])) [] b)):=by kernel_rfl
abbrev Qz12 (v0:AskT):List AV:= [Zae (i64 (Zcr v0)),Zae (i64 (Zgd v0)),Zae (i64 (Zfp v0))]
abbrev Qz31 (v0:Int) (v1:Int) (v2:Int):List AV:= [Zae (i64 v0),Zae (i64 v1),Zae (i64 v2)]
theorem rEA (l:List AskT) (xs:List (List Dv)) (n i:Int):wpc prog ⟨TtU, [],wl,y,false⟩ 100 lpEA (tmE 3 118 (rowsA l) (.own 162 3 xs) n i) [] b (maskK 0 [1,5,8,9,10] K)=(BIf (decide (i<n)) (BIf (true&&decide (0≤i)) (∃(x0:Int) (x1:Int) (x2:Int),(rowsA l)[Zam i]? =some [i64 x0,i64 x1,i64 x2]∧∃(u5:AskT), [Zaq (Qz31 x0 x1 x2)]= [Zaq (Qz12 u5)]∧BIf (true&&decide ((Zaa xs+1)*24≤140737488355328)) (K .normal (Zab::Zax (Fn.func 118) [] []::bds 3 (AV.own 162 3 (xs++ [[i64 (Zcr u5),i64 (Zgd u5),i64 (Zfp u5)]])::Zab::Zab::Zae (Zan 3 (rowsA l))::Zae (i64 n)::Zae (i64 (Zad .i64 (i+1)))::bds 11 [])) [] b) False) False) (K (Zbj 0) (Zab::Zax (Fn.func 118) [] []::bds 3 (AV.own 162 3 xs::Zab::Zab::Zae (Zan 3 (rowsA l))::Zae (i64 n)::Zae (i64 i)::bds 11 [])) [] b)):=by kernel_rfl
theorem AWc9 (a b:List UseT):rowsU (a++b)=rowsU a++rowsU b:=by simp [rowsU]
theorem AOr9 (a b:List GraT):rowsG (a++b)=rowsG a++rowsG b:=by simp [rowsG]
theorem AWd9 (a b:List AskT):rowsA (a++b)=rowsA a++rowsA b:=by simp [rowsA]
theorem wrEU {Ev:Env prog} {b:Ev.β} {Q:Exit→St Ev.β→Prop} (l:List UseT) (hl:l.length<1000000) (hQ:∀i:Int,Q (.exit 0) ⟨tmE 4 108 (rowsU l) (.own 149 4 (rowsU l)) l.length i, [],b⟩):
 WR Ev lpEU (l.length+1) ⟨tmE 4 108 (rowsU l) (.own 149 4 (rowsU [])) l.length (0:Nat), [],b⟩ Q:=by
 refine WR.gathL (X:=⟨TtU, [],wlW Ev,Ev.Y,false⟩) (k:=100) [1,5,8,9,10] mixed (CX.Ok.of BYc9 Zah) l (fun x=> [x]) (fun _=>Zaw _) (fun acc i=>tmE 4 108 (rowsU l) (.own 149 4 (rowsU acc)) l.length (i:Nat)) [] 0 (fun i x acc hi hx ha K k1=> ?_) (fun acc K k1=> ?_) ?_
 ·refine Eq.mpr (rEU _ _ _ K l _ l.length i) ?_;rw [ACb9 hx];refine Zaz (by simp;omega) (Zaz (natI i) ⟨_,_,_,_,rfl,x,rfl,Zaz (by simp [AAh9];omega) ?_⟩);rw [AWc9] at k1;rw [wrapN (by omega)];exact k1
 ·refine Eq.mpr (rEU _ _ _ K l _ l.length _) ?_;exact Zda (by simp) k1
 ·rw [List.flatMap_singleton'];exact hQ _
def wlEU {β:Type}:WLT β:=fun cd tm hp b K=>∃l:List UseT,cd= .loop lpEU∧AAv9 [1,5,8,9,10] 0 tm=tmE 4 108 (rowsU l) nilA (rowsU l).length 0∧hp= []∧l.length<1000000∧
 ∀i:Int,K (.exit 0) (tmE 4 108 (rowsU l) (.own 149 4 (rowsU l)) l.length i) [] b
theorem CAh9 {Ev:Env prog} (c:Code) (tm:List AV) (hp:List Blk) (b:Ev.β) (K:Exit→List AV→List Blk→Ev.β→Prop) (h:wlEU c tm hp b K):W Ev c ⟨tm,hp,b⟩ (fun e s=>K e s.tm s.hp s.b):=by
 obtain ⟨l,rfl,htm,rfl,hl,hK⟩:=h;rw [AAh9] at htm;refine W.cast (htm▸AAb9 _ tm 0) (Zbp _) ?_;refine W.cast (tm':=tmE 4 108 (rowsU l) (.own 149 4 (rowsU [])) l.length 0) (LeL.at [_,_,_,_,_] _ (LeA.nilOwn rfl)) (Zbp _) ?_;exact W.rounds (wrEU (Q:=fun e s=>K e s.tm s.hp s.b) l hl hK)
theorem CDx9 (l:List UseT):wpFn prog ⟨[], [],wlEU,y,false⟩ 100 f113 [.d (.sl 4 (rowsU l)), .fn (.func 108) [] []] b R=(∃(l0:List UseT),Zat lpEU=Zat lpEU∧(Zab::Zax (Fn.func 108) [] []::bds 3 (Zae (Zdy (.slice none 0 0))::Zab::Zab::Zae (Zan 4 (rowsU l))::Zae (i64 ((Zaa (rowsU l):Nat):Int))::Zae (i64 0)::bds 11 []))=(Zab::Zax (Fn.func 108) [] []::bds 3 (Zae (Zdy (.slice none 0 0))::Zab::Zab::Zae (Zan 4 (rowsU l0))::Zae (i64 ((Zaa (rowsU l0):Nat):Int))::Zae (i64 0)::bds 11 []))∧([]:List Blk)= []∧Zaa l0<1000000∧∀(i:Int),R (.d (Zan 4 (rowsU l0))) b):=by kernel_rfl
theorem pcEU (l:List UseT) (hl:l.length<1000000):PCall prog 113 [.d (.sl 4 (rowsU l)), .fn (.func 108) [] []] (.d (.sl 4 (rowsU l))):=by
 refine PCall.ofFnL (n:=100) (u:=false) (fun _=>wlEU) mixed Zak Zah (fun Ev=>CAh9) func113 (by rfl) (by rfl) fun Ev bb=> ?_;rw [CDx9];exact ⟨l,rfl,rfl,rfl,hl,fun i=> .base LeA.rfl⟩
def cEU (args:List AV) (K:AV→Prop):Prop:=∃l:List UseT,args= [.d (.sl 4 (rowsU l)), .fn (.func 108) [] []]∧l.length<1000000∧K (.d (.sl 4 (rowsU l)))
theorem CHy9:∀args K,cEU args K→∃x,PCall prog 113 args x∧K x:=by
 rintro _ K ⟨l,rfl,hl,hk⟩;exact ⟨_,pcEU l hl,hk⟩
theorem wrEG {Ev:Env prog} {b:Ev.β} {Q:Exit→St Ev.β→Prop} (l:List GraT) (hl:l.length<1000000) (hQ:∀i:Int,Q (.exit 0) ⟨tmE 5 95 (rowsG l) (.own 140 5 (rowsG l)) l.length i, [],b⟩):
 WR Ev lpEG (l.length+1) ⟨tmE 5 95 (rowsG l) (.own 140 5 (rowsG [])) l.length (0:Nat), [],b⟩ Q:=by
 refine WR.gathL (X:=⟨TtU, [],wlW Ev,Ev.Y,false⟩) (k:=100) [1,5,8,9,10] mixed (CX.Ok.of BYc9 Zah) l (fun x=> [x]) (fun _=>Zaw _) (fun acc i=>tmE 5 95 (rowsG l) (.own 140 5 (rowsG acc)) l.length (i:Nat)) [] 0 (fun i x acc hi hx ha K k1=> ?_) (fun acc K k1=> ?_) ?_
 ·refine Eq.mpr (rEG _ _ _ K l _ l.length i) ?_;rw [ABj9 hx];refine Zaz (by simp;omega) (Zaz (natI i) ⟨_,_,_,_,_,rfl,x,rfl,Zaz (by simp [AAf9];omega) ?_⟩);rw [AOr9] at k1;rw [wrapN (by omega)];exact k1
 ·refine Eq.mpr (rEG _ _ _ K l _ l.length _) ?_;exact Zda (by simp) k1
 ·rw [List.flatMap_singleton'];exact hQ _
def wlEG {β:Type}:WLT β:=fun cd tm hp b K=>∃l:List GraT,cd= .loop lpEG∧AAv9 [1,5,8,9,10] 0 tm=tmE 5 95 (rowsG l) nilA (rowsG l).length 0∧hp= []∧l.length<1000000∧
 ∀i:Int,K (.exit 0) (tmE 5 95 (rowsG l) (.own 140 5 (rowsG l)) l.length i) [] b
theorem CAi9 {Ev:Env prog} (c:Code) (tm:List AV) (hp:List Blk) (b:Ev.β) (K:Exit→List AV→List Blk→Ev.β→Prop) (h:wlEG c tm hp b K):W Ev c ⟨tm,hp,b⟩ (fun e s=>K e s.tm s.hp s.b):=by
 obtain ⟨l,rfl,htm,rfl,hl,hK⟩:=h;rw [AAf9] at htm;refine W.cast (htm▸AAb9 _ tm 0) (Zbp _) ?_;refine W.cast (tm':=tmE 5 95 (rowsG l) (.own 140 5 (rowsG [])) l.length 0) (LeL.at [_,_,_,_,_] _ (LeA.nilOwn rfl)) (Zbp _) ?_;exact W.rounds (wrEG (Q:=fun e s=>K e s.tm s.hp s.b) l hl hK)
theorem CDz9 (l:List GraT):wpFn prog ⟨[], [],wlEG,y,false⟩ 100 f115 [.d (.sl 5 (rowsG l)), .fn (.func 95) [] []] b R=(∃(l0:List GraT),Zat lpEG=Zat lpEG∧(Zab::Zax (Fn.func 95) [] []::bds 3 (Zae (Zdy (.slice none 0 0))::Zab::Zab::Zae (Zan 5 (rowsG l))::Zae (i64 ((Zaa (rowsG l):Nat):Int))::Zae (i64 0)::bds 11 []))=(Zab::Zax (Fn.func 95) [] []::bds 3 (Zae (Zdy (.slice none 0 0))::Zab::Zab::Zae (Zan 5 (rowsG l0))::Zae (i64 ((Zaa (rowsG l0):Nat):Int))::Zae (i64 0)::bds 11 []))∧([]:List Blk)= []∧Zaa l0<1000000∧∀(i:Int),R (.d (Zan 5 (rowsG l0))) b):=by kernel_rfl
theorem pcEG (l:List GraT) (hl:l.length<1000000):PCall prog 115 [.d (.sl 5 (rowsG l)), .fn (.func 95) [] []] (.d (.sl 5 (rowsG l))):=by
 refine PCall.ofFnL (n:=100) (u:=false) (fun _=>wlEG) mixed Zak Zah (fun Ev=>CAi9) func115 (by rfl) (by rfl) fun Ev bb=> ?_;rw [CDz9];exact ⟨l,rfl,rfl,rfl,hl,fun i=> .base LeA.rfl⟩
def cEG (args:List AV) (K:AV→Prop):Prop:=∃l:List GraT,args= [.d (.sl 5 (rowsG l)), .fn (.func 95) [] []]∧l.length<1000000∧K (.d (.sl 5 (rowsG l)))
theorem CHz9:∀args K,cEG args K→∃x,PCall prog 115 args x∧K x:=by
 rintro _ K ⟨l,rfl,hl,hk⟩;exact ⟨_,pcEG l hl,hk⟩
theorem wrEA {Ev:Env prog} {b:Ev.β} {Q:Exit→St Ev.β→Prop} (l:List AskT) (hl:l.length<1000000) (hQ:∀i:Int,Q (.exit 0) ⟨tmE 3 118 (rowsA l) (.own 162 3 (rowsA l)) l.length i, [],b⟩):
 WR Ev lpEA (l.length+1) ⟨tmE 3 118 (rowsA l) (.own 162 3 (rowsA [])) l.length (0:Nat), [],b⟩ Q:=by
 refine WR.gathL (X:=⟨TtU, [],wlW Ev,Ev.Y,false⟩) (k:=100) [1,5,8,9,10] mixed (CX.Ok.of BYc9 Zah) l (fun x=> [x]) (fun _=>Zaw _) (fun acc i=>tmE 3 118 (rowsA l) (.own 162 3 (rowsA acc)) l.length (i:Nat)) [] 0 (fun i x acc hi hx ha K k1=> ?_) (fun acc K k1=> ?_) ?_
 ·refine Eq.mpr (rEA _ _ _ K l _ l.length i) ?_;rw [ABk9 hx];refine Zaz (by simp;omega) (Zaz (natI i) ⟨_,_,_,rfl,x,rfl,Zaz (by simp [AAn9];omega) ?_⟩);rw [AWd9] at k1;rw [wrapN (by omega)];exact k1
 ·refine Eq.mpr (rEA _ _ _ K l _ l.length _) ?_;exact Zda (by simp) k1
 ·rw [List.flatMap_singleton'];exact hQ _
def wlEA {β:Type}:WLT β:=fun cd tm hp b K=>∃l:List AskT,cd= .loop lpEA∧AAv9 [1,5,8,9,10] 0 tm=tmE 3 118 (rowsA l) nilA (rowsA l).length 0∧hp= []∧l.length<1000000∧
 ∀i:Int,K (.exit 0) (tmE 3 118 (rowsA l) (.own 162 3 (rowsA l)) l.length i) [] b
theorem CAj9 {Ev:Env prog} (c:Code) (tm:List AV) (hp:List Blk) (b:Ev.β) (K:Exit→List AV→List Blk→Ev.β→Prop) (h:wlEA c tm hp b K):W Ev c ⟨tm,hp,b⟩ (fun e s=>K e s.tm s.hp s.b):=by
 obtain ⟨l,rfl,htm,rfl,hl,hK⟩:=h;rw [AAn9] at htm;refine W.cast (htm▸AAb9 _ tm 0) (Zbp _) ?_;refine W.cast (tm':=tmE 3 118 (rowsA l) (.own 162 3 (rowsA [])) l.length 0) (LeL.at [_,_,_,_,_] _ (LeA.nilOwn rfl)) (Zbp _) ?_;exact W.rounds (wrEA (Q:=fun e s=>K e s.tm s.hp s.b) l hl hK)
theorem CEa9 (l:List AskT):wpFn prog ⟨[], [],wlEA,y,false⟩ 100 f117 [.d (.sl 3 (rowsA l)), .fn (.func 118) [] []] b R=(∃(l0:List AskT),Zat lpEA=Zat lpEA∧(Zab::Zax (Fn.func 118) [] []::bds 3 (Zae (Zdy (.slice none 0 0))::Zab::Zab::Zae (Zan 3 (rowsA l))::Zae (i64 ((Zaa (rowsA l):Nat):Int))::Zae (i64 0)::bds 11 []))=(Zab::Zax (Fn.func 118) [] []::bds 3 (Zae (Zdy (.slice none 0 0))::Zab::Zab::Zae (Zan 3 (rowsA l0))::Zae (i64 ((Zaa (rowsA l0):Nat):Int))::Zae (i64 0)::bds 11 []))∧([]:List Blk)= []∧Zaa l0<1000000∧∀(i:Int),R (.d (Zan 3 (rowsA l0))) b):=by kernel_rfl
theorem pcEA (l:List AskT) (hl:l.length<1000000):PCall prog 117 [.d (.sl 3 (rowsA l)), .fn (.func 118) [] []] (.d (.sl 3 (rowsA l))):=by
 refine PCall.ofFnL (n:=100) (u:=false) (fun _=>wlEA) mixed Zak Zah (fun Ev=>CAj9) func117 (by rfl) (by rfl) fun Ev bb=> ?_;rw [CEa9];exact ⟨l,rfl,rfl,rfl,hl,fun i=> .base LeA.rfl⟩
def cEA (args:List AV) (K:AV→Prop):Prop:=∃l:List AskT,args= [.d (.sl 3 (rowsA l)), .fn (.func 118) [] []]∧l.length<1000000∧K (.d (.sl 3 (rowsA l)))
theorem CIa9:∀args K,cEA args K→∃x,PCall prog 117 args x∧K x:=by
 rintro _ K ⟨l,rfl,hl,hk⟩;exact ⟨_,pcEA l hl,hk⟩
open Go.Maps (Keyed)
variable {β:Type} (wl:WLT β) (y:ACw9 β) (b:β) (R:AV→β→Prop) (K:Exit→List AV→List Blk→β→Prop) (Q:β→Prop)
abbrev Cnt:=List (Int×Int)
def getC (k:Int) (ts:Cnt):Int:=((ts.find? fun p=>p.1==k).map (·.2)).getD 0
def hasC (k:Int) (ts:Cnt):Bool:=ts.any fun p=>p.1==k
def insC (h:Int×Int):Cnt→Cnt
 | []=> [h]
 |x::r=>if h.1<x.1 then h::x::r else x::insC h r
def putC (h:Int×Int) (ts:Cnt):Cnt:=insC h (ts.filter fun x=> !(x.1==h.1))
def entC (ts:Cnt):MC:=ts.map fun h=>(Lit.int .i64 h.1,Zae (i64 h.2))
abbrev CntG:=Option (Nat×Cnt)
def cnF:CntG→List MapC
 |none=> []
 |some (d,ts)=> [⟨d,3,entC ts⟩]
structure NoG (g:CntG):Prop where
 e:g=none
def mapA (d:Nat):AV:= .d (.s (.map (some d)))
def recA (r:Nat):AV:= .d (.s (.pointer (some ⟨r,0,none⟩)))
structure InI (k:Int):Prop where
 lo: -9223372036854775808≤k
 hi:k≤9223372036854775807
theorem ADt9 (a k:Int):(Lit.int .i64 a).sameKey (Lit.int .i64 k)=(a==k):=by
 by_cases h:a=k<;>simp [Lit.sameKey,h]
theorem BGa9 (k:Int) (ts:Cnt):atK (Lit.int .i64 k) (.d (i64 0)) (entC ts)= .d (i64 (getC k ts)):=by
 induction ts with
 |nil=>rfl
 | cons h t ih=>
  simp only [atK,entC,getC,List.map_cons,List.find?_cons,ADt9] at ih ⊢;cases h.1==k
  ·exact ih
  ·rfl
theorem BFz9 (k:Int) (ts:Cnt):hasK (Lit.int .i64 k) (entC ts)=hasC k ts:=by
 simp [hasK,entC,hasC,List.any_map,Function.comp_def,ADt9]
theorem BWo9 (k:Int) (ts:Cnt):delK (Lit.int .i64 k) (entC ts)=entC (ts.filter fun x=> !(x.1==k)):=by
 simp only [delK,entC,List.filter_map];congr 1;apply List.filter_congr;intro x _;simp only [Function.comp,ADt9]
theorem BWn9 (h:Int×Int) (ts:Cnt):insK (Lit.int .i64 h.1, .d (i64 h.2)) (entC ts)=entC (insC h ts):=by
 induction ts with
 |nil=>rfl
 | cons x t ih=>
  simp only [entC,List.map_cons,insK,insC,Lit.before] at ih ⊢;by_cases hx:h.1<x.1
  ·simp [hx]
  ·simp [hx,ih]
theorem BWm9 (h:Int×Int) (ts:Cnt):putK (Lit.int .i64 h.1) (.d (i64 h.2)) (entC ts)=entC (putC h ts):=by
 rw [putK,BWo9,BWn9];rfl
theorem BKj9:Tryz.prog.underlying 3=some (.int .i64):=by kernel_rfl
theorem AUe9:Keyed prog 3:=Go.Maps.int_keyed (q:= .i64) BKj9
theorem ATu9:Tryz.prog.underlying 154=some (.map 3 3):=by kernel_rfl
theorem key3 {k:Int} (h:InI k):keyOf prog 3 (.int .i64 k)=some (.int .i64 k):=Go.Maps.keyOf_int_mk BKj9 (by obtain ⟨h1,h2⟩:=h;simp [Lit.wf,IntKind.min,IntKind.max,IntKind.signed,IntKind.bits];omega)
theorem zero3 (w:World):(zeroValue 3).run prog w= .ok (.int .i64 0) w:=by rfl
theorem ATc9 (S:Pr) (w:World):RV S w [] none (.d (i64 0)) (.int .i64 0):= .d (.s _)
theorem inv3:∀key kl,keyOf prog 3 key=some kl→∃n,kl= .int .i64 n∧key= .int .i64 n:=by
 intro key kl h;rw [Go.keyOf_int BKj9] at h;unfold mapKey at h;rw [BKj9] at h;cases key<;>simp_all
def MCT (γ:Type):=List (Nat×(List AV→γ→(AV→γ→Prop)→Prop))
noncomputable def cnM (I:List (Nat×(List AV→(AV→Prop)→Prop))) (C:MCT CntG):MHook CntG:=fun o s g K=>match o.op with
 | .makeMap t none=>some (NoG g∧t=154∧∀d,K {tm:=putA s.tm o.dst (mapA d),hp:=s.hp,pv:=pvPut s.pv o.dst} (some (d, [])))
 | .lookup t m x false=>some (t=154∧∃(d:Nat) (ts:Cnt) (k v:Int),g=some (d,ts)∧evalA s.tm m=mapA d∧evalA s.tm x= .d (i64 k)∧InI k∧v=getC k ts∧
  K {tm:=putA s.tm o.dst (.d (i64 v)),hp:=s.hp,pv:=pvPut s.pv o.dst} g)
 | .mapUpdate t m x v=>some (t=154∧∃(d:Nat) (ts ts':Cnt) (k n:Int),g=some (d,ts)∧evalA s.tm m=mapA d∧evalA s.tm x= .d (i64 k)∧evalA s.tm v= .d (i64 n)∧InI k∧ts.length<1000000∧ts'=putC (k,n) ts∧
  K {tm:=putA s.tm o.dst (.d (.s undef)),hp:=s.hp,pv:=pvPut s.pv o.dst} (some (d,ts')))
 | .call c=>match c.callee with
  | .value _=>match AHh9 s.tm o with
   | some (k,args)=>match C.lookup k with
    |some f=>some (ABu9 args=true∧f args g fun x g'=>K {tm:=putA s.tm o.dst x.view,hp:=s.hp,pv:=pvPut s.pv o.dst} g')
    |none=>none
   |none=>none
  | .invoke _ _=>invH prog I o s g K
  |_=>none
 |_=>none
def MCTok (C:MCT CntG):Prop:=∀k f,C.lookup k=some f→∀args g K,f args g K→∃R,MCall prog cnF k args g R∧∀x g',R x g'→K x g'
theorem MCTok.nil:MCTok []:=fun _ _ h=>by cases h
theorem BQb9 {d:Nat} {ts:Cnt}:(⟨d,3,entC ts⟩:MapC)∈cnF (some (d,ts)):=by simp [cnF]
theorem CEg9 {I:List (Nat×(List AV→(AV→Prop)→Prop))} {C:MCT CntG} (hI:AAc9 prog I) (hC:MCTok C) (N:Nat) (w0:World) (lent:List Nat):MOk (Env.mapped prog none N w0 lent cnF) (cnM I C):=by
 intro o s g K p hp h;unfold cnM at hp;split at hp
 ·rename_i t ho;cases hp;obtain ⟨⟨rfl⟩,rfl,hk⟩:=h;refine ⟨_,ANq9 (g:=none) (mk:=fun d=>some (d, [])) (k:=3) ho (fun d=>rfl), ?_⟩;rintro s' b' ⟨d,rfl,rfl⟩;exact hk d
 ·rename_i t m x ho;cases hp;obtain ⟨rfl,d,ts,k,_,rfl,hm,hx,hi,rfl,hk⟩:=h;refine ⟨_,ASc9 (g:=some (d,ts)) (c:=⟨d,3,entC ts⟩) (z:= .d (i64 0)) ho BQb9 hm (key:= .int .i64 k) (by rw [hx];rfl) AUe9 ATu9 (key3 hi) zero3 ATc9 (by rfl), ?_⟩;rintro s' b' ⟨rfl,rfl⟩;simp only [Bool.false_eq_true,if_false,BGa9] at hk ⊢;exact hk
 ·rename_i t m x v ho;cases hp;obtain ⟨rfl,d,ts,_,k,n,rfl,hm,hx,hv,hi,hl,rfl,hk⟩:=h;refine ⟨_,AJo9 (g:=some (d,ts)) (g':=some (d,putC (k,n) ts)) (l1:= []) (l2:= []) (c:=⟨d,3,entC ts⟩) ho rfl hm (key:= .int .i64 k) (by rw [hx];rfl) AUe9 ATu9 (key3 hi) (by simp [entC,maxLen];omega) (by rw [hv];rfl) ?_, ?_⟩
  ·rw [hv];simp only [cnF,List.nil_append];rw [show (Zae (i64 n)).view=Zae (i64 n) from rfl];have:=BWm9 (k,n) ts;simp only at this;rw [this]
  ·rintro s' b' ⟨rfl,rfl⟩;exact hk
 ·rename_i c ho;split at hp
  ·rename_i fo hc;split at hp
   ·rename_i k args hcall;split at hp
    ·rename_i f hf;cases hp;obtain ⟨hcl,h⟩:=h;obtain ⟨R,h1,h2⟩:=hC k f hf args g _ h;refine ⟨_,BLy9 (g:=g) (g0:=g) (up:=id) (f':=cnF) (l1:= []) (l2:= []) hcall hcl (by simp) (by simp) h1, ?_⟩;rintro s' b' ⟨x,g1,hR,rfl,he⟩;cases he;exact h2 x _ hR
    ·cases hp
   ·cases hp
  ·exact BPs9 hI o s g K p hp h
  ·cases hp
 ·cases hp
noncomputable def cnR (I:List (Nat×(List AV→(AV→Prop)→Prop))) (C:MCT CntG):MHook (CntG×Option AEf9):=fun o s b K=>match b with
 | (g,none)=>match o.op with
  | .range t mo=>some (t=154∧∃(d:Nat) (ts:Cnt),g=some (d,ts)∧evalA s.tm mo=mapA d∧∀r,K {tm:=putA s.tm o.dst (recA r),hp:=s.hp,pv:=pvPut s.pv o.dst} (some (d,ts),some ⟨d,r,3,entC ts,fun kl=>hasK kl (entC ts),(entC ts).length,none⟩))
  |_=>cnM I C o s g fun s' g'=>K s' (g',none)
 | (g,some c)=>match o.op with
  | .next io false=>some (∃(d:Nat) (ts:Cnt),g=some (d,ts)∧c.k=3∧c.es=entC ts∧evalA s.tm io=recA c.r∧((∀kl,c.left kl=false)→K {tm:=putA s.tm o.dst (.tup [.d (bo false)]),hp:=s.hp,pv:=pvPut s.pv o.dst} (g,some c))∧
   ∀n cnt',c.left (.int .i64 n)=true→hasC n ts=true→cnt'<c.cnt→K {tm:=putA s.tm o.dst (.tup [.d (bo true), .d (i64 n), .d (i64 (getC n ts))]),hp:=s.hp,pv:=pvPut s.pv o.dst} (g,some {c with left:=fun x=>c.left x&& !x.sameKey (.int .i64 n),cnt:=cnt',cur:=some (.int .i64 n)}))
  | .entry io=>some (∃(d:Nat) (ts:Cnt) (n:Int),g=some (d,ts)∧c.k=3∧c.es=entC ts∧evalA s.tm io=recA c.r∧c.cur=some (.int .i64 n)∧K {tm:=putA s.tm o.dst (.tup [.d (i64 n), .d (i64 (getC n ts))]),hp:=s.hp,pv:=pvPut s.pv o.dst} (g,some c))
  |_=>none
theorem CHv9 {I:List (Nat×(List AV→(AV→Prop)→Prop))} {C:MCT CntG} (hI:AAc9 prog I) (hC:MCTok C) (N:Nat) (w0:World) (lent:List Nat):MOk (Env.rngd prog none N w0 lent cnF) (cnR I C):=by
 intro o s b K p hp h;obtain ⟨g,q⟩:=b;cases q with
 | none=>
  unfold cnR at hp;simp only at hp;split at hp
  ·rename_i t mo ho;cases hp;obtain ⟨rfl,d,ts,rfl,hm,hk⟩:=h;refine ⟨_,BKx9 (g:=some (d,ts)) (c:=⟨d,3,entC ts⟩) ho BQb9 hm AUe9 ATu9, ?_⟩;rintro s' b' ⟨r,rfl,rfl⟩;exact hk r
  ·obtain ⟨T,h1,h2⟩:=CEg9 hI hC N w0 lent o s g _ p hp h;refine ⟨_,h1.lift, ?_⟩;rintro s' ⟨g',q'⟩ ⟨rfl,hT⟩;exact h2 s' g' hT
 | some c=>
  unfold cnR at hp;simp only at hp;split at hp
  ·rename_i io ho;cases hp;obtain ⟨d,ts,rfl,hk3,hes,hm,h1,h2⟩:=h;refine ⟨_,BVb9 (g:=some (d,ts)) (c:=c) (z:= .d (i64 0)) ho hm (by rw [hk3];exact AUe9) (by rw [hk3];exact inv3) ATc9, ?_⟩;rintro s' b' (⟨rfl,rfl,hl⟩|⟨n,cnt',hl,hh,hc,rfl,rfl⟩)
   ·exact h1 hl
   ·rw [show atK (Lit.int .i64 n) (.d (i64 0)) c.es= .d (i64 (getC n ts)) by rw [hes,BGa9]];rw [hes,BFz9] at hh;exact h2 n cnt' hl hh hc
  ·rename_i io ho;cases hp;obtain ⟨d,ts,n,rfl,hk3,hes,hm,hcur,h1⟩:=h;refine ⟨_,BMt9 (g:=some (d,ts)) (c:=c) (z:= .d (i64 0)) ho hm (by rw [hk3];exact AUe9) (by rw [hk3];exact inv3) hcur ATc9, ?_⟩;rintro s' b' ⟨rfl,rfl⟩;rw [hes,BGa9];exact h1
  ·cases hp
def cNone (args:List AV) (K:AV→Prop):Prop:=False
theorem ABy9 (n:Nat):∀args K,cNone args K→∃x,PCall prog n args x∧K x:=fun args K h=>by cases h
def TSo:List (Nat×(List AV→(AV→Prop)→Prop)):= [(4000005,cNone),(4000007,cNone),(4000008,cNone)]
theorem BBc9:AAc9 prog TSo:=Zaj (ABy9 _) (Zaj (ABy9 _) (Zaj (ABy9 _) Zak))
def IVa:List (Nat×(List AV→(AV→Prop)→Prop)):= [(171,AWy9),(168,AXm9),(173,BRe9),(170,BOf9),(167,BOg9),(172,BRd9)]
theorem ASz9:AAc9 prog IVa:=Zaj BGr9 (Zaj BHn9 (Zaj BIs9 (Zaj APv9 (Zaj APw9 (Zaj BIq9 Zak)))))
noncomputable def wlCn (T:List (Nat×(List AV→(AV→Prop)→Prop))) (I:List (Nat×(List AV→(AV→Prop)→Prop))) (C:MCT CntG):WLT CntG:=wlM prog ⟨T, [],fun _ _ _ _ _=>False,fun _ _ _=>False,false⟩ (cnM I C) fun _ _ _ _ _=>False
theorem CAm9 {T I:List (Nat×(List AV→(AV→Prop)→Prop))} {C:MCT CntG} (hT:AAc9 prog T) (hI:AAc9 prog I) (hC:MCTok C) (lent:List Nat) (N:Nat) (w0:World):
 ∀c tm hp b K,wlCn T I C c tm hp b K→W (Env.mapped prog none N w0 lent cnF) c ⟨tm,hp,b⟩ (fun e s=>K e s.tm s.hp s.b):=
 BSo9 (Ev:=Env.mapped prog none N w0 lent cnF) mixed (CX.Ok.ofWl (Ev:=Env.mapped prog none N w0 lent cnF) hT Zah fun _ _ _ _ _ h=>h.elim) (CEg9 hI hC N w0 lent) fun _ _ _ _ _ h=>h.elim
noncomputable def lpSU:Code:=sub [1,1,0,1,2,3] (code f112)
noncomputable def lpSG:Code:=sub [1,1,0,1,2,3] (code f114)
noncomputable def lpSA:Code:=sub [1,1,0,1,2,3] (code f116)
def tmSo (k:Nat) (xs:List (List Dv)) (d:Nat) (last n i:Int):List AV:= [.bad, .bad,mapA d, .bad, .ptr 0 0, .bad, .d (bo false), .d (i64 last), .bad, .bad, .d (.sl k xs), .d (i64 n), .d (i64 i)]++Zap 25 .bad
section
variable (y:ACw9 CntG) (K:Exit→List AV→List Blk→CntG→Prop)
abbrev Qz42 (v0:Nat) (v1:Int) (v2:List UseT) (v3:Int) (v4:Int):=Zab::Zab::Zae (Zdy (Zbm (some v0)))::Zab::Zaf 0 0::Zab::Zae (bo false)::Zae (i64 v1)::Zab::Zab::Zae (Zan 4 (rowsU v2))::Zae (i64 v3)::Zae (i64 v4)::bds 25 []
theorem rSU (us:List UseT) (d:Nat) (ts:Cnt) (l:LayT) (last n i:Int):wpc prog ⟨TSo, [],wlCn TSo IVa [],y,false⟩ 100 lpSU (tmSo 4 (rowsU us) d last n i) [layB l] (some (d,ts)) (maskK 1 [2,4,6,7,10,11,12] K)=(BIf (decide (i<n)) (BIf (true&&decide (0≤i)) (∃(x0:Int) (x1:Int) (x2:Int) (x3:Int),(rowsU us)[Zam i]? =some [i64 x0,i64 x1,i64 x2,i64 x3]∧true=true∧∃(u6:UseT) (l7:LayT) (z8:Bool), [Zaq (Qz37 x0 x1 x2 x3),Zaq (Qz3 l)]= [Zaq (Qz7 u6),Zaq (Qz3 l7)]∧z8=useOk u6 l7∧BIf (!z8) (K .ret (Qz42 d last us n i) [Blk.mk (Qz3 l) false false 0] (some (d,ts))) (true=true∧∃(u9:UseT), [Zaq (Qz37 x0 x1 x2 x3)]= [Zaq (Qz7 u9)]∧BIf (decide (Zcy u9≤last)) (K .ret (Qz42 d last us n i) [Blk.mk (Qz3 l) false false 0] (some (d,ts))) (true=true∧∃(u10:UseT), [Zaq (Qz37 x0 x1 x2 x3)]= [Zaq (Qz7 u10)]∧154=154∧∃(d11:Nat) (ts12:Cnt) (k13:Int) (v14:Int),some (d,ts)=some (d11,ts12)∧Zae (Zdy (Zbm (some d)))=Zae (Zdy (Zbm (some d11)))∧Zae (i64 (Zcy u10))=Zae (i64 k13)∧InI k13∧v14=getC k13 ts12∧154=154∧∃(d15:Nat) (ts16:Cnt) (ts17:Cnt) (k18:Int) (n19:Int),some (d,ts)=some (d15,ts16)∧Zae (Zdy (Zbm (some d)))=Zae (Zdy (Zbm (some d15)))∧Zae (i64 (Zcy u10))=Zae (i64 k18)∧Zae (i64 (Zad .i64 (v14+1)))=Zae (i64 n19)∧InI k18∧Zaa ts16<1000000∧ts17=putC (k18,n19) ts16∧K .normal (Zab::Zab::Zae (Zdy (Zbm (some d)))::Zab::Zaf 0 0::Zab::Zae (bo false)::Zae (i64 (Zcy u10))::Zab::Zab::Zae (Zan 4 (rowsU us))::Zae (i64 n)::Zae (i64 (Zad .i64 (i+1)))::bds 25 []) [Blk.mk (Qz3 l) false false 0] (some (d15,ts17))))) False) (K (Zbj 0) (Qz42 d last us n i) [Blk.mk (Qz3 l) false false 0] (some (d,ts)))):=by kernel_rfl
abbrev Qz43 (v0:Nat) (v1:Int) (v2:List GraT) (v3:Int) (v4:Int):=Zab::Zab::Zae (Zdy (Zbm (some v0)))::Zab::Zaf 0 0::Zab::Zae (bo false)::Zae (i64 v1)::Zab::Zab::Zae (Zan 5 (rowsG v2))::Zae (i64 v3)::Zae (i64 v4)::bds 25 []
theorem rSG (us:List GraT) (d:Nat) (ts:Cnt) (l:LayT) (last n i:Int):wpc prog ⟨TSo, [],wlCn TSo IVa [],y,false⟩ 100 lpSG (tmSo 5 (rowsG us) d last n i) [layB l] (some (d,ts)) (maskK 1 [2,4,6,7,10,11,12] K)=(BIf (decide (i<n)) (BIf (true&&decide (0≤i)) (∃(x0:Int) (x1:Int) (x2:Int) (x3:Int) (x4:Int),(rowsG us)[Zam i]? =some (Qz41 x0 x1 x2 x3 x4)∧true=true∧∃(u7:GraT) (l8:LayT) (z9:Bool), [Zaq (Qz22 x0 x1 x2 x3 x4),Zaq (Qz3 l)]= [Zaq (Qz5 u7),Zaq (Qz3 l8)]∧z9=graOk u7 l8∧BIf (!z9) (K .ret (Qz43 d last us n i) [Blk.mk (Qz3 l) false false 0] (some (d,ts))) (true=true∧∃(u10:GraT), [Zaq (Qz22 x0 x1 x2 x3 x4)]= [Zaq (Qz5 u10)]∧BIf (decide (Zdg u10≤last)) (K .ret (Qz43 d last us n i) [Blk.mk (Qz3 l) false false 0] (some (d,ts))) (true=true∧∃(u11:GraT), [Zaq (Qz22 x0 x1 x2 x3 x4)]= [Zaq (Qz5 u11)]∧154=154∧∃(d12:Nat) (ts13:Cnt) (k14:Int) (v15:Int),some (d,ts)=some (d12,ts13)∧Zae (Zdy (Zbm (some d)))=Zae (Zdy (Zbm (some d12)))∧Zae (i64 (Zdg u11))=Zae (i64 k14)∧InI k14∧v15=getC k14 ts13∧154=154∧∃(d16:Nat) (ts17:Cnt) (ts18:Cnt) (k19:Int) (n20:Int),some (d,ts)=some (d16,ts17)∧Zae (Zdy (Zbm (some d)))=Zae (Zdy (Zbm (some d16)))∧Zae (i64 (Zdg u11))=Zae (i64 k19)∧Zae (i64 (Zad .i64 (v15+1)))=Zae (i64 n20)∧InI k19∧Zaa ts17<1000000∧ts18=putC (k19,n20) ts17∧K .normal (Zab::Zab::Zae (Zdy (Zbm (some d)))::Zab::Zaf 0 0::Zab::Zae (bo false)::Zae (i64 (Zdg u11))::Zab::Zab::Zae (Zan 5 (rowsG us))::Zae (i64 n)::Zae (i64 (Zad .i64 (i+1)))::bds 25 []) [Blk.mk (Qz3 l) false false 0] (some (d16,ts18))))) False) (K (Zbj 0) (Qz43 d last us n i) [Blk.mk (Qz3 l) false false 0] (some (d,ts)))):=by kernel_rfl
abbrev Qz44 (v0:Nat) (v1:Int) (v2:List AskT) (v3:Int) (v4:Int):=Zab::Zab::Zae (Zdy (Zbm (some v0)))::Zab::Zaf 0 0::Zab::Zae (bo false)::Zae (i64 v1)::Zab::Zab::Zae (Zan 3 (rowsA v2))::Zae (i64 v3)::Zae (i64 v4)::bds 25 []
theorem rSA (us:List AskT) (d:Nat) (ts:Cnt) (l:LayT) (last n i:Int):wpc prog ⟨TSo, [],wlCn TSo IVa [],y,false⟩ 100 lpSA (tmSo 3 (rowsA us) d last n i) [layB l] (some (d,ts)) (maskK 1 [2,4,6,7,10,11,12] K)=(BIf (decide (i<n)) (BIf (true&&decide (0≤i)) (∃(x0:Int) (x1:Int) (x2:Int),(rowsA us)[Zam i]? =some [i64 x0,i64 x1,i64 x2]∧true=true∧∃(u5:AskT) (l6:LayT) (z7:Bool), [Zaq (Qz31 x0 x1 x2),Zaq (Qz3 l)]= [Zaq (Qz12 u5),Zaq (Qz3 l6)]∧z7=askOk u5 l6∧BIf (!z7) (K .ret (Qz44 d last us n i) [Blk.mk (Qz3 l) false false 0] (some (d,ts))) (true=true∧∃(u8:AskT), [Zaq (Qz31 x0 x1 x2)]= [Zaq (Qz12 u8)]∧BIf (decide (Zcr u8≤last)) (K .ret (Qz44 d last us n i) [Blk.mk (Qz3 l) false false 0] (some (d,ts))) (true=true∧∃(u9:AskT), [Zaq (Qz31 x0 x1 x2)]= [Zaq (Qz12 u9)]∧154=154∧∃(d10:Nat) (ts11:Cnt) (k12:Int) (v13:Int),some (d,ts)=some (d10,ts11)∧Zae (Zdy (Zbm (some d)))=Zae (Zdy (Zbm (some d10)))∧Zae (i64 (Zcr u9))=Zae (i64 k12)∧InI k12∧v13=getC k12 ts11∧154=154∧∃(d14:Nat) (ts15:Cnt) (ts16:Cnt) (k17:Int) (n18:Int),some (d,ts)=some (d14,ts15)∧Zae (Zdy (Zbm (some d)))=Zae (Zdy (Zbm (some d14)))∧Zae (i64 (Zcr u9))=Zae (i64 k17)∧Zae (i64 (Zad .i64 (v13+1)))=Zae (i64 n18)∧InI k17∧Zaa ts15<1000000∧ts16=putC (k17,n18) ts15∧K .normal (Zab::Zab::Zae (Zdy (Zbm (some d)))::Zab::Zaf 0 0::Zab::Zae (bo false)::Zae (i64 (Zcr u9))::Zab::Zab::Zae (Zan 3 (rowsA us))::Zae (i64 n)::Zae (i64 (Zad .i64 (i+1)))::bds 25 []) [Blk.mk (Qz3 l) false false 0] (some (d14,ts16))))) False) (K (Zbj 0) (Qz44 d last us n i) [Blk.mk (Qz3 l) false false 0] (some (d,ts)))):=by kernel_rfl
end
def incC (k:Int) (ts:Cnt):Cnt:=putC (k,Zad Zbc (getC k ts+1)) ts
def ABf9 {α:Type} (ok:α→Bool) (sl:α→Int):Int→List α→Cnt→Bool×Cnt
 |_, [],ts=>(true,ts)
 |last,x::r,ts=>if (!ok x)=true then (false,ts) else if sl x≤last then (false,ts) else ABf9 ok sl (sl x) r (incC (sl x) ts)
theorem BVq9 (h:Int×Int) (l:Cnt):(insC h l).length=l.length+1:=by
 induction l with
 |nil=>rfl
 |cons x r ih=>simp only [insC];split<;>simp [ih]
theorem APf9 (k:Int) (ts:Cnt):(incC k ts).length≤ts.length+1:=by
 rw [incC,putC,BVq9];exact Nat.succ_le_succ (List.length_filter_le _ _)
theorem ALd9 {α:Type} (ok:α→Bool) (sl:α→Int):∀(last:Int) (r:List α) (ts:Cnt),(ABf9 ok sl last r ts).2.length≤ts.length+r.length
 |_, [],ts=>by simp [ABf9]
 | last,x::r,ts=>by
  have:=ALd9 ok sl (sl x) r (incC (sl x) ts);have h2:=APf9 (sl x) ts;unfold ABf9;repeat' split
  all_goals simp only [List.length_cons];omega
theorem BGb9 {α:Type} {l rest:List α} {x:α} {i:Nat} (hd:l.drop i=x::rest):l[i]? =some x∧l.drop (i+1)=rest∧i<l.length:=by
 have h1:l[i]? =some x:=by
  have:=congrArg (fun l=>l[0]?) hd;simpa using this
 refine ⟨h1, ?_,(List.getElem?_eq_some_iff.1 h1).1⟩;have:=congrArg List.tail hd;simpa using this
abbrev EvC (N:Nat) (w0:World) (lent:List Nat):Env prog:=Env.mapped prog none N w0 lent cnF
theorem BAg9 {T I:List (Nat×(List AV→(AV→Prop)→Prop))} {C:MCT CntG} (hT:AAc9 prog T) (hI:AAc9 prog I) (hC:MCTok C) (lent:List Nat) (N:Nat) (w0:World):CX.Ok (EvC N w0 lent) ⟨T, [],wlCn T I C,fun _ _ _=>False,false⟩:=
 CX.Ok.ofWl (Ev:=EvC N w0 lent) hT Zah (CAm9 hT hI hC lent N w0)
theorem ALp9 {sl of pe:Int} {l:LayT} (h:ABe9 sl of pe l=true) (hd:l.da≤60):InI sl:=by
 simp only [ABe9,Zai,decide_eq_true_eq] at h;exact ⟨by omega,by omega⟩
def ACc9 (l:LayT) (us:List UseT) (ts:Cnt):Bool×Cnt:=ABf9 (fun x:UseT=>useOk x l) (fun x=>x.sl) (-1) us ts
theorem wrSU {N:Nat} {w0:World} {lent:List Nat} {Q:Exit→St CntG→Prop} (us:List UseT) (d:Nat) (l:LayT) (hd:l.da≤60) (hl:us.length<100000):∀(rest:List UseT) (i:Nat) (last:Int) (ts:Cnt),us.drop i=rest→ts.length+rest.length<1000000→
 ((ABf9 (fun x:UseT=>useOk x l) (fun x=>x.sl) last rest ts).1=true→∀last':Int,Q (.exit 0) ⟨tmSo 4 (rowsU us) d last' us.length us.length, [layB l],some (d,(ABf9 (fun x:UseT=>useOk x l) (fun x=>x.sl) last rest ts).2)⟩)→
 ((ABf9 (fun x:UseT=>useOk x l) (fun x=>x.sl) last rest ts).1=false→∀last' i':Int,Q .ret ⟨tmSo 4 (rowsU us) d last' us.length i', [layB l],some (d,(ABf9 (fun x:UseT=>useOk x l) (fun x=>x.sl) last rest ts).2)⟩)→
 i≤us.length→WR (EvC N w0 lent) lpSU (rest.length+1) ⟨tmSo 4 (rowsU us) d last us.length i, [layB l],some (d,ts)⟩ Q
 | [],i,last,ts,hdr,hlen,h1,h2,hi=>by
  refine Zdj [2,4,6,7,10,11,12] mixed (BAg9 BBc9 ASz9 MCTok.nil lent N w0) (k:=100) ?_;refine Eq.mpr (rSU _ _ us d ts l last us.length i) ?_;have:=List.drop_eq_nil_iff.1 hdr;obtain rfl:i=us.length:=by omega
  exact Zda (by simp) (h1 rfl last)
 | x::rest,i,last,ts,hdr,hlen,h1,h2,hi=>by
  refine Zdj [2,4,6,7,10,11,12] mixed (BAg9 BBc9 ASz9 MCTok.nil lent N w0) (k:=100) ?_;refine Eq.mpr (rSU _ _ us d ts l last us.length i) ?_;obtain ⟨hx,hdr',hi'⟩:=BGb9 hdr;rw [ACb9 hx];simp only [List.length_cons] at hlen;refine Zaz (by simp;omega) (Zaz (natI i) ⟨_,_,_,_,rfl,rfl,x,l,_,rfl,rfl,Zba (fun g1=> ?_) fun g1=>⟨rfl,x,rfl,Zba (fun g2=> ?_) fun g2=> ?_⟩⟩)
  ·have e:ABf9 (fun x:UseT=>useOk x l) (fun x=>x.sl) last (x::rest) ts=(false,ts):=by rw [ABf9,if_pos g1]
   rw [e] at h2;exact h2 rfl _ _
  ·have g2:=of_decide_eq_true g2;have e:ABf9 (fun x:UseT=>useOk x l) (fun x=>x.sl) last (x::rest) ts=(false,ts):=by rw [ABf9,if_neg (by rw [g1];decide),if_pos g2]
   rw [e] at h2;exact h2 rfl _ _
  ·have g2:=of_decide_eq_false g2;have h:useOk x l=true:=by simpa using g1
   have hI:InI x.sl:=ALp9 (by simp only [useOk,Zai] at h;exact h.1) hd;have e:ABf9 (fun x:UseT=>useOk x l) (fun x=>x.sl) last (x::rest) ts=ABf9 (fun x:UseT=>useOk x l) (fun x=>x.sl) x.sl rest (incC x.sl ts):=by rw [ABf9,if_neg (by rw [g1];decide),if_neg g2]
   rw [e] at h1 h2;refine ⟨rfl,x,rfl,rfl,d,ts,x.sl,_,rfl,rfl,rfl,hI,rfl,rfl,d,ts,_,x.sl,_,rfl,rfl,rfl,rfl,hI,by omega,rfl, ?_⟩;rw [wrapN (by omega)];have:=APf9 x.sl ts;exact wrSU us d l hd hl rest (i+1) x.sl (incC x.sl ts) hdr' (by omega) h1 h2 (by omega)
noncomputable def wlSU (T:List (Nat×(List AV→(AV→Prop)→Prop))):WLT CntG:=fun cd tm hp b K=>∃(us:List UseT) (d:Nat) (l:LayT) (ts ts':Cnt) (q:Bool),cd= .loop lpSU∧AAv9 [2,4,6,7,10,11,12] 0 tm=tmSo 4 (rowsU us) d (-1) (rowsU us).length 0∧hp= [layB l]∧b=some (d,ts)∧(l.da≤60∧us.length<100000∧ts.length<100000∧q=(ACc9 l us ts).1∧ts'=(ACc9 l us ts).2)∧
 BIf q (∀last':Int,K (.exit 0) (tmSo 4 (rowsU us) d last' us.length us.length) [layB l] (some (d,ts'))) (∀last' i':Int,K .ret (tmSo 4 (rowsU us) d last' us.length i') [layB l] (some (d,ts')))
theorem BZu9 {T:List (Nat×(List AV→(AV→Prop)→Prop))} (lent:List Nat) (N:Nat) (w0:World) (c:Code) (tm:List AV) (hp:List Blk) (b:CntG) (K:Exit→List AV→List Blk→CntG→Prop) (h:wlSU T c tm hp b K):W (EvC N w0 lent) c ⟨tm,hp,b⟩ (fun e s=>K e s.tm s.hp s.b):=by
 obtain ⟨us,d,l,ts,ts',q,rfl,htm,rfl,rfl,⟨hd,hl,ht,hq,rfl⟩,hK⟩:=h;rw [AAh9] at htm;refine W.cast (htm▸AAb9 _ tm 0) (Zbp _) ?_;refine W.rounds (wrSU (N:=N) (w0:=w0) (lent:=lent) (Q:=fun e s=>K e s.tm s.hp s.b) us d l hd hl us 0 (-1) ts rfl (by omega) (fun h=> ?_) (fun h=> ?_) (Nat.zero_le _))
 ·rw [hq,show (ACc9 l us ts).1=true from h] at hK;exact hK
 ·rw [hq,show (ACc9 l us ts).1=false from h] at hK;exact hK
section
variable (y:ACw9 CntG) (R:AV→CntG→Prop)
theorem BKm9 (us:List UseT) (d:Nat) (ts:Cnt) (l:LayT):wpFn prog ⟨[], [],wlSU [],y,false⟩ 100 f112 [.d (.sl 4 (rowsU us)),layA l,mapA d] (some (d,ts)) R=(∃(us0:List UseT) (d1:Nat) (l2:LayT) (ts3:Cnt) (ts4:Cnt) (q5:Bool),Zat lpSU=Zat lpSU∧(Zab::Zab::Zae (Zdy (Zbm (some d)))::Zab::Zaf 0 0::Zab::Zae (bo false)::Zae (i64 (-1))::Zab::Zab::Zae (Zan 4 (rowsU us))::Zae (i64 ((Zaa (rowsU us):Nat):Int))::Zae (i64 0)::bds 25 [])=(Zab::Zab::Zae (Zdy (Zbm (some d1)))::Zab::Zaf 0 0::Zab::Zae (bo false)::Zae (i64 (-1))::Zab::Zab::Zae (Zan 4 (rowsU us0))::Zae (i64 ((Zaa (rowsU us0):Nat):Int))::Zae (i64 0)::bds 25 [])∧ [Blk.mk (Qz3 l) false false 0]= [Blk.mk (Qz3 l2) false false 0]∧some (d,ts)=some (d1,ts3)∧(LayT.da l2≤(60:Int)∧Zaa us0<100000∧Zaa ts3<100000∧q5=Zgl (ACc9 l2 us0 ts3)∧ts4=Prod.snd (ACc9 l2 us0 ts3))∧BIf q5 (∀(last':Int),R (.d (bo true)) (some (d1,ts4))) (∀(last' i':Int),R (.d (bo false)) (some (d1,ts4)))):=by kernel_rfl
end
theorem BVf9 (us:List UseT) (d:Nat) (ts:Cnt) (l:LayT) (hd:l.da≤60) (hl:us.length<100000) (ht:ts.length<100000):
 MCall prog cnF 112 [.d (.sl 4 (rowsU us)),layA l,mapA d] (some (d,ts)) fun x g=>x= .d (bo (ACc9 l us ts).1)∧g=some (d,(ACc9 l us ts).2):=by
 refine MCall.ofFn (n:=100) (u:=false) (wlSU []) mixed Zak Zah (fun N w0=>BZu9 _ N w0) func112 (by rfl) (by rfl) ?_;rw [BKm9];exact ⟨us,d,l,ts,_,_,rfl,rfl,rfl,rfl,⟨hd,hl,ht,rfl,rfl⟩,Zba (fun h last'=>⟨by rw [h],rfl⟩) fun h last' i'=>⟨by rw [h],rfl⟩⟩
def BQd9 (args:List AV) (g:CntG) (K:AV→CntG→Prop):Prop:=∃(us:List UseT) (d:Nat) (ts ts':Cnt) (l:LayT) (q:Bool),args= [.d (.sl 4 (rowsU us)),layA l,mapA d]∧g=some (d,ts)∧(l.da≤60∧us.length<100000∧ts.length<100000∧q=(ACc9 l us ts).1∧ts'=(ACc9 l us ts).2)∧K (.d (bo q)) (some (d,ts'))
theorem BGs9:∀args g K,BQd9 args g K→∃R,MCall prog cnF 112 args g R∧∀x g',R x g'→K x g':=by
 rintro _ _ K ⟨us,d,ts,_,l,_,rfl,rfl,⟨hd,hl,ht,rfl,rfl⟩,hk⟩;refine ⟨_,BVf9 us d ts l hd hl ht, ?_⟩;rintro x g' ⟨rfl,rfl⟩;exact hk
def ADa9 (l:LayT) (us:List GraT) (ts:Cnt):Bool×Cnt:=ABf9 (fun x:GraT=>graOk x l) (fun x=>x.sl) (-1) us ts
theorem wrSG {N:Nat} {w0:World} {lent:List Nat} {Q:Exit→St CntG→Prop} (us:List GraT) (d:Nat) (l:LayT) (hd:l.da≤60) (hl:us.length<100000):∀(rest:List GraT) (i:Nat) (last:Int) (ts:Cnt),us.drop i=rest→ts.length+rest.length<1000000→
 ((ABf9 (fun x:GraT=>graOk x l) (fun x=>x.sl) last rest ts).1=true→∀last':Int,Q (.exit 0) ⟨tmSo 5 (rowsG us) d last' us.length us.length, [layB l],some (d,(ABf9 (fun x:GraT=>graOk x l) (fun x=>x.sl) last rest ts).2)⟩)→
 ((ABf9 (fun x:GraT=>graOk x l) (fun x=>x.sl) last rest ts).1=false→∀last' i':Int,Q .ret ⟨tmSo 5 (rowsG us) d last' us.length i', [layB l],some (d,(ABf9 (fun x:GraT=>graOk x l) (fun x=>x.sl) last rest ts).2)⟩)→
 i≤us.length→WR (EvC N w0 lent) lpSG (rest.length+1) ⟨tmSo 5 (rowsG us) d last us.length i, [layB l],some (d,ts)⟩ Q
 | [],i,last,ts,hdr,hlen,h1,h2,hi=>by
  refine Zdj [2,4,6,7,10,11,12] mixed (BAg9 BBc9 ASz9 MCTok.nil lent N w0) (k:=100) ?_;refine Eq.mpr (rSG _ _ us d ts l last us.length i) ?_;have:=List.drop_eq_nil_iff.1 hdr;obtain rfl:i=us.length:=by omega
  exact Zda (by simp) (h1 rfl last)
 | x::rest,i,last,ts,hdr,hlen,h1,h2,hi=>by
  refine Zdj [2,4,6,7,10,11,12] mixed (BAg9 BBc9 ASz9 MCTok.nil lent N w0) (k:=100) ?_;refine Eq.mpr (rSG _ _ us d ts l last us.length i) ?_;obtain ⟨hx,hdr',hi'⟩:=BGb9 hdr;rw [ABj9 hx];simp only [List.length_cons] at hlen;refine Zaz (by simp;omega) (Zaz (natI i) ⟨_,_,_,_,_,rfl,rfl,x,l,_,rfl,rfl,Zba (fun g1=> ?_) fun g1=>⟨rfl,x,rfl,Zba (fun g2=> ?_) fun g2=> ?_⟩⟩)
  ·have e:ABf9 (fun x:GraT=>graOk x l) (fun x=>x.sl) last (x::rest) ts=(false,ts):=by rw [ABf9,if_pos g1]
   rw [e] at h2;exact h2 rfl _ _
  ·have g2:=of_decide_eq_true g2;have e:ABf9 (fun x:GraT=>graOk x l) (fun x=>x.sl) last (x::rest) ts=(false,ts):=by rw [ABf9,if_neg (by rw [g1];decide),if_pos g2]
   rw [e] at h2;exact h2 rfl _ _
  ·have g2:=of_decide_eq_false g2;have h:graOk x l=true:=by simpa using g1
   have hI:InI x.sl:=ALp9 (by simp only [graOk,Zai] at h;exact h.1) hd;have e:ABf9 (fun x:GraT=>graOk x l) (fun x=>x.sl) last (x::rest) ts=ABf9 (fun x:GraT=>graOk x l) (fun x=>x.sl) x.sl rest (incC x.sl ts):=by rw [ABf9,if_neg (by rw [g1];decide),if_neg g2]
   rw [e] at h1 h2;refine ⟨rfl,x,rfl,rfl,d,ts,x.sl,_,rfl,rfl,rfl,hI,rfl,rfl,d,ts,_,x.sl,_,rfl,rfl,rfl,rfl,hI,by omega,rfl, ?_⟩;rw [wrapN (by omega)];have:=APf9 x.sl ts;exact wrSG us d l hd hl rest (i+1) x.sl (incC x.sl ts) hdr' (by omega) h1 h2 (by omega)
noncomputable def wlSG (T:List (Nat×(List AV→(AV→Prop)→Prop))):WLT CntG:=fun cd tm hp b K=>∃(us:List GraT) (d:Nat) (l:LayT) (ts ts':Cnt) (q:Bool),cd= .loop lpSG∧AAv9 [2,4,6,7,10,11,12] 0 tm=tmSo 5 (rowsG us) d (-1) (rowsG us).length 0∧hp= [layB l]∧b=some (d,ts)∧(l.da≤60∧us.length<100000∧ts.length<100000∧q=(ADa9 l us ts).1∧ts'=(ADa9 l us ts).2)∧
 BIf q (∀last':Int,K (.exit 0) (tmSo 5 (rowsG us) d last' us.length us.length) [layB l] (some (d,ts'))) (∀last' i':Int,K .ret (tmSo 5 (rowsG us) d last' us.length i') [layB l] (some (d,ts')))
theorem BZv9 {T:List (Nat×(List AV→(AV→Prop)→Prop))} (lent:List Nat) (N:Nat) (w0:World) (c:Code) (tm:List AV) (hp:List Blk) (b:CntG) (K:Exit→List AV→List Blk→CntG→Prop) (h:wlSG T c tm hp b K):W (EvC N w0 lent) c ⟨tm,hp,b⟩ (fun e s=>K e s.tm s.hp s.b):=by
 obtain ⟨us,d,l,ts,ts',q,rfl,htm,rfl,rfl,⟨hd,hl,ht,hq,rfl⟩,hK⟩:=h;rw [AAf9] at htm;refine W.cast (htm▸AAb9 _ tm 0) (Zbp _) ?_;refine W.rounds (wrSG (N:=N) (w0:=w0) (lent:=lent) (Q:=fun e s=>K e s.tm s.hp s.b) us d l hd hl us 0 (-1) ts rfl (by omega) (fun h=> ?_) (fun h=> ?_) (Nat.zero_le _))
 ·rw [hq,show (ADa9 l us ts).1=true from h] at hK;exact hK
 ·rw [hq,show (ADa9 l us ts).1=false from h] at hK;exact hK
section
variable (y:ACw9 CntG) (R:AV→CntG→Prop)
theorem BKn9 (us:List GraT) (d:Nat) (ts:Cnt) (l:LayT):wpFn prog ⟨[], [],wlSG [],y,false⟩ 100 f114 [.d (.sl 5 (rowsG us)),layA l,mapA d] (some (d,ts)) R=(∃(us0:List GraT) (d1:Nat) (l2:LayT) (ts3:Cnt) (ts4:Cnt) (q5:Bool),Zat lpSG=Zat lpSG∧(Zab::Zab::Zae (Zdy (Zbm (some d)))::Zab::Zaf 0 0::Zab::Zae (bo false)::Zae (i64 (-1))::Zab::Zab::Zae (Zan 5 (rowsG us))::Zae (i64 ((Zaa (rowsG us):Nat):Int))::Zae (i64 0)::bds 25 [])=(Zab::Zab::Zae (Zdy (Zbm (some d1)))::Zab::Zaf 0 0::Zab::Zae (bo false)::Zae (i64 (-1))::Zab::Zab::Zae (Zan 5 (rowsG us0))::Zae (i64 ((Zaa (rowsG us0):Nat):Int))::Zae (i64 0)::bds 25 [])∧ [Blk.mk (Qz3 l) false false 0]= [Blk.mk (Qz3 l2) false false 0]∧some (d,ts)=some (d1,ts3)∧(LayT.da l2≤(60:Int)∧Zaa us0<100000∧Zaa ts3<100000∧q5=Zgl (ADa9 l2 us0 ts3)∧ts4=Prod.snd (ADa9 l2 us0 ts3))∧BIf q5 (∀(last':Int),R (.d (bo true)) (some (d1,ts4))) (∀(last' i':Int),R (.d (bo false)) (some (d1,ts4)))):=by kernel_rfl
end
theorem BVg9 (us:List GraT) (d:Nat) (ts:Cnt) (l:LayT) (hd:l.da≤60) (hl:us.length<100000) (ht:ts.length<100000):
 MCall prog cnF 114 [.d (.sl 5 (rowsG us)),layA l,mapA d] (some (d,ts)) fun x g=>x= .d (bo (ADa9 l us ts).1)∧g=some (d,(ADa9 l us ts).2):=by
 refine MCall.ofFn (n:=100) (u:=false) (wlSG []) mixed Zak Zah (fun N w0=>BZv9 _ N w0) func114 (by rfl) (by rfl) ?_;rw [BKn9];exact ⟨us,d,l,ts,_,_,rfl,rfl,rfl,rfl,⟨hd,hl,ht,rfl,rfl⟩,Zba (fun h last'=>⟨by rw [h],rfl⟩) fun h last' i'=>⟨by rw [h],rfl⟩⟩
def BQe9 (args:List AV) (g:CntG) (K:AV→CntG→Prop):Prop:=∃(us:List GraT) (d:Nat) (ts ts':Cnt) (l:LayT) (q:Bool),args= [.d (.sl 5 (rowsG us)),layA l,mapA d]∧g=some (d,ts)∧(l.da≤60∧us.length<100000∧ts.length<100000∧q=(ADa9 l us ts).1∧ts'=(ADa9 l us ts).2)∧K (.d (bo q)) (some (d,ts'))
theorem BGt9:∀args g K,BQe9 args g K→∃R,MCall prog cnF 114 args g R∧∀x g',R x g'→K x g':=by
 rintro _ _ K ⟨us,d,ts,_,l,_,rfl,rfl,⟨hd,hl,ht,rfl,rfl⟩,hk⟩;refine ⟨_,BVg9 us d ts l hd hl ht, ?_⟩;rintro x g' ⟨rfl,rfl⟩;exact hk
def AEl9 (l:LayT) (us:List AskT) (ts:Cnt):Bool×Cnt:=ABf9 (fun x:AskT=>askOk x l) (fun x=>x.sl) (-1) us ts
theorem wrSA {N:Nat} {w0:World} {lent:List Nat} {Q:Exit→St CntG→Prop} (us:List AskT) (d:Nat) (l:LayT) (hd:l.da≤60) (hl:us.length<100000):∀(rest:List AskT) (i:Nat) (last:Int) (ts:Cnt),us.drop i=rest→ts.length+rest.length<1000000→
 ((ABf9 (fun x:AskT=>askOk x l) (fun x=>x.sl) last rest ts).1=true→∀last':Int,Q (.exit 0) ⟨tmSo 3 (rowsA us) d last' us.length us.length, [layB l],some (d,(ABf9 (fun x:AskT=>askOk x l) (fun x=>x.sl) last rest ts).2)⟩)→
 ((ABf9 (fun x:AskT=>askOk x l) (fun x=>x.sl) last rest ts).1=false→∀last' i':Int,Q .ret ⟨tmSo 3 (rowsA us) d last' us.length i', [layB l],some (d,(ABf9 (fun x:AskT=>askOk x l) (fun x=>x.sl) last rest ts).2)⟩)→
 i≤us.length→WR (EvC N w0 lent) lpSA (rest.length+1) ⟨tmSo 3 (rowsA us) d last us.length i, [layB l],some (d,ts)⟩ Q
 | [],i,last,ts,hdr,hlen,h1,h2,hi=>by
  refine Zdj [2,4,6,7,10,11,12] mixed (BAg9 BBc9 ASz9 MCTok.nil lent N w0) (k:=100) ?_;refine Eq.mpr (rSA _ _ us d ts l last us.length i) ?_;have:=List.drop_eq_nil_iff.1 hdr;obtain rfl:i=us.length:=by omega
  exact Zda (by simp) (h1 rfl last)
 | x::rest,i,last,ts,hdr,hlen,h1,h2,hi=>by
  refine Zdj [2,4,6,7,10,11,12] mixed (BAg9 BBc9 ASz9 MCTok.nil lent N w0) (k:=100) ?_;refine Eq.mpr (rSA _ _ us d ts l last us.length i) ?_;obtain ⟨hx,hdr',hi'⟩:=BGb9 hdr;rw [ABk9 hx];simp only [List.length_cons] at hlen;refine Zaz (by simp;omega) (Zaz (natI i) ⟨_,_,_,rfl,rfl,x,l,_,rfl,rfl,Zba (fun g1=> ?_) fun g1=>⟨rfl,x,rfl,Zba (fun g2=> ?_) fun g2=> ?_⟩⟩)
  ·have e:ABf9 (fun x:AskT=>askOk x l) (fun x=>x.sl) last (x::rest) ts=(false,ts):=by rw [ABf9,if_pos g1]
   rw [e] at h2;exact h2 rfl _ _
  ·have g2:=of_decide_eq_true g2;have e:ABf9 (fun x:AskT=>askOk x l) (fun x=>x.sl) last (x::rest) ts=(false,ts):=by rw [ABf9,if_neg (by rw [g1];decide),if_pos g2]
   rw [e] at h2;exact h2 rfl _ _
  ·have g2:=of_decide_eq_false g2;have h:askOk x l=true:=by simpa using g1
   have hI:InI x.sl:=ALp9 (by simpa only [askOk] using h) hd;have e:ABf9 (fun x:AskT=>askOk x l) (fun x=>x.sl) last (x::rest) ts=ABf9 (fun x:AskT=>askOk x l) (fun x=>x.sl) x.sl rest (incC x.sl ts):=by rw [ABf9,if_neg (by rw [g1];decide),if_neg g2]
   rw [e] at h1 h2;refine ⟨rfl,x,rfl,rfl,d,ts,x.sl,_,rfl,rfl,rfl,hI,rfl,rfl,d,ts,_,x.sl,_,rfl,rfl,rfl,rfl,hI,by omega,rfl, ?_⟩;rw [wrapN (by omega)];have:=APf9 x.sl ts;exact wrSA us d l hd hl rest (i+1) x.sl (incC x.sl ts) hdr' (by omega) h1 h2 (by omega)
noncomputable def wlSA (T:List (Nat×(List AV→(AV→Prop)→Prop))):WLT CntG:=fun cd tm hp b K=>∃(us:List AskT) (d:Nat) (l:LayT) (ts ts':Cnt) (q:Bool),cd= .loop lpSA∧AAv9 [2,4,6,7,10,11,12] 0 tm=tmSo 3 (rowsA us) d (-1) (rowsA us).length 0∧hp= [layB l]∧b=some (d,ts)∧(l.da≤60∧us.length<100000∧ts.length<100000∧q=(AEl9 l us ts).1∧ts'=(AEl9 l us ts).2)∧
 BIf q (∀last':Int,K (.exit 0) (tmSo 3 (rowsA us) d last' us.length us.length) [layB l] (some (d,ts'))) (∀last' i':Int,K .ret (tmSo 3 (rowsA us) d last' us.length i') [layB l] (some (d,ts')))
theorem BZw9 {T:List (Nat×(List AV→(AV→Prop)→Prop))} (lent:List Nat) (N:Nat) (w0:World) (c:Code) (tm:List AV) (hp:List Blk) (b:CntG) (K:Exit→List AV→List Blk→CntG→Prop) (h:wlSA T c tm hp b K):W (EvC N w0 lent) c ⟨tm,hp,b⟩ (fun e s=>K e s.tm s.hp s.b):=by
 obtain ⟨us,d,l,ts,ts',q,rfl,htm,rfl,rfl,⟨hd,hl,ht,hq,rfl⟩,hK⟩:=h;rw [AAn9] at htm;refine W.cast (htm▸AAb9 _ tm 0) (Zbp _) ?_;refine W.rounds (wrSA (N:=N) (w0:=w0) (lent:=lent) (Q:=fun e s=>K e s.tm s.hp s.b) us d l hd hl us 0 (-1) ts rfl (by omega) (fun h=> ?_) (fun h=> ?_) (Nat.zero_le _))
 ·rw [hq,show (AEl9 l us ts).1=true from h] at hK;exact hK
 ·rw [hq,show (AEl9 l us ts).1=false from h] at hK;exact hK
section
variable (y:ACw9 CntG) (R:AV→CntG→Prop)
theorem BKo9 (us:List AskT) (d:Nat) (ts:Cnt) (l:LayT):wpFn prog ⟨[], [],wlSA [],y,false⟩ 100 f116 [.d (.sl 3 (rowsA us)),layA l,mapA d] (some (d,ts)) R=(∃(us0:List AskT) (d1:Nat) (l2:LayT) (ts3:Cnt) (ts4:Cnt) (q5:Bool),Zat lpSA=Zat lpSA∧(Zab::Zab::Zae (Zdy (Zbm (some d)))::Zab::Zaf 0 0::Zab::Zae (bo false)::Zae (i64 (-1))::Zab::Zab::Zae (Zan 3 (rowsA us))::Zae (i64 ((Zaa (rowsA us):Nat):Int))::Zae (i64 0)::bds 25 [])=(Zab::Zab::Zae (Zdy (Zbm (some d1)))::Zab::Zaf 0 0::Zab::Zae (bo false)::Zae (i64 (-1))::Zab::Zab::Zae (Zan 3 (rowsA us0))::Zae (i64 ((Zaa (rowsA us0):Nat):Int))::Zae (i64 0)::bds 25 [])∧ [Blk.mk (Qz3 l) false false 0]= [Blk.mk (Qz3 l2) false false 0]∧some (d,ts)=some (d1,ts3)∧(LayT.da l2≤(60:Int)∧Zaa us0<100000∧Zaa ts3<100000∧q5=Zgl (AEl9 l2 us0 ts3)∧ts4=Prod.snd (AEl9 l2 us0 ts3))∧BIf q5 (∀(last':Int),R (.d (bo true)) (some (d1,ts4))) (∀(last' i':Int),R (.d (bo false)) (some (d1,ts4)))):=by kernel_rfl
end
theorem BVh9 (us:List AskT) (d:Nat) (ts:Cnt) (l:LayT) (hd:l.da≤60) (hl:us.length<100000) (ht:ts.length<100000):
 MCall prog cnF 116 [.d (.sl 3 (rowsA us)),layA l,mapA d] (some (d,ts)) fun x g=>x= .d (bo (AEl9 l us ts).1)∧g=some (d,(AEl9 l us ts).2):=by
 refine MCall.ofFn (n:=100) (u:=false) (wlSA []) mixed Zak Zah (fun N w0=>BZw9 _ N w0) func116 (by rfl) (by rfl) ?_;rw [BKo9];exact ⟨us,d,l,ts,_,_,rfl,rfl,rfl,rfl,⟨hd,hl,ht,rfl,rfl⟩,Zba (fun h last'=>⟨by rw [h],rfl⟩) fun h last' i'=>⟨by rw [h],rfl⟩⟩
def BQf9 (args:List AV) (g:CntG) (K:AV→CntG→Prop):Prop:=∃(us:List AskT) (d:Nat) (ts ts':Cnt) (l:LayT) (q:Bool),args= [.d (.sl 3 (rowsA us)),layA l,mapA d]∧g=some (d,ts)∧(l.da≤60∧us.length<100000∧ts.length<100000∧q=(AEl9 l us ts).1∧ts'=(AEl9 l us ts).2)∧K (.d (bo q)) (some (d,ts'))
theorem BGu9:∀args g K,BQf9 args g K→∃R,MCall prog cnF 116 args g R∧∀x g',R x g'→K x g':=by
 rintro _ _ K ⟨us,d,ts,_,l,_,rfl,rfl,⟨hd,hl,ht,rfl,rfl⟩,hk⟩;refine ⟨_,BVh9 us d ts l hd hl ht, ?_⟩;rintro x g' ⟨rfl,rfl⟩;exact hk
def TVd:List (Nat×(List AV→(AV→Prop)→Prop)):= [(113,cEU),(115,cEG),(117,cEA),(4000003,cNone),(4000004,cNone),(4000006,cNone),(4000007,cNone),(4000008,cNone)]
theorem BYd9:AAc9 prog TVd:=Zaj CHy9 (Zaj CHz9 (Zaj CIa9 (Zaj (ABy9 _) (Zaj (ABy9 _) (Zaj (ABy9 _) (Zaj (ABy9 _) (Zaj (ABy9 _) Zak)))))))
def CVd:MCT CntG:= [(112,BQd9),(114,BQe9),(116,BQf9)]
theorem CJi9:MCTok CVd:=by
 intro k f hk args g K h;simp only [CVd,List.lookup] at hk;split at hk
 ·rename_i e;cases hk;have:=eq_of_beq e;subst this;exact BGs9 args g K h
 ·split at hk
  ·rename_i e;cases hk;have:=eq_of_beq e;subst this;exact BGt9 args g K h
  ·split at hk
   ·rename_i e;cases hk;have:=eq_of_beq e;subst this;exact BGu9 args g K h
   ·cases hk
abbrev CntR:=CntG×Option AEf9
noncomputable def wlRn (wl:WLT CntR):WLT CntR:=wlS prog ⟨TVd, [],fun _ _ _ _ _=>False,fun _ _ _=>False,false⟩ (cnR [] CVd) wl
noncomputable def lpVd:Code:=sub [1,1,1,1,0,1,2,3] (code f73)
def tmVd (r:Nat):List AV:= [.bad, .bad, .bad, .bad, .d (bo false)]++Zap 64 .bad++ [recA r]++Zap 6 .bad
section
variable (y:ACw9 CntR) (K:Exit→List AV→List Blk→CntR→Prop)
abbrev Qz38 (v0:Nat):List AV:=bds 4 (Zae (bo false)::bds 64 (Zae (Zdy (Zcc (some (Addr.mk v0 0 none))))::bds 6 []))
abbrev Qz55 (v0:TabT) (v1:LayT):= [Blk.mk (Qz1 v0) false false 0,Blk.mk (Qz3 v1) false false 0]
theorem rVd (t:TabT) (l:LayT) (d r cnt:Nat) (ts:Cnt) (left:Lit→Bool) (cur:Option Lit):wpc prog ⟨TVd, [],wlRn (fun _ _ _ _ _=>False),y,false⟩ 100 lpVd (tmVd r) [tabB t,layB l] (some (d,ts),some ⟨d,r,3,entC ts,left,cnt,cur⟩) (maskK 2 [4,69] K)=(∃(d0:Nat) (ts1:Cnt),some (d,ts)=some (d0,ts1)∧3=3∧entC ts=entC ts1∧Zae (Zdy (Zcc (some (Addr.mk r 0 none))))=Zae (Zdy (Zcc (some (Addr.mk r 0 none))))∧((∀(kl:Lit),AEf9.left (AEf9.mk d r (3:TypeId) (entC ts) left cnt cur) kl=false)→K (Zbj 0) (Qz38 r) (Qz55 t l) (some (d,ts),some (AEf9.mk d r 3 (entC ts) left cnt cur)))∧∀(n:Int) (cnt':Nat),AEf9.left (AEf9.mk d r (3:TypeId) (entC ts) left cnt cur) (Lit.int Zbc n)=true→hasC n ts1=true→cnt'<AEf9.cnt (AEf9.mk d r (3:TypeId) (entC ts) left cnt cur)→∃(d2:Nat) (ts3:Cnt) (n4:Int),some (d,ts)=some (d2,ts3)∧3=3∧entC ts=entC ts3∧Zae (Zdy (Zcc (some (Addr.mk r 0 none))))=Zae (Zdy (Zcc (some (Addr.mk r 0 none))))∧some (Lit.int Zbc n)=some (Lit.int Zbc n4)∧BIf (decide (getC n4 ts3>(1:Int))) (K .ret (Qz38 r) (Qz55 t l) (some (d,ts),some (AEf9.mk d r 3 (entC ts) (fun (x5:Lit)=>left x5&& !Lit.sameKey x5 (Lit.int Zbc n)) cnt' (some (Lit.int Zbc n))))) (K .normal (Qz38 r) (Qz55 t l) (some (d,ts),some (AEf9.mk d r 3 (entC ts) (fun (x6:Lit)=>left x6&& !Lit.sameKey x6 (Lit.int Zbc n)) cnt' (some (Lit.int Zbc n)))))):=by kernel_rfl
end
def okC (ts:Cnt):Bool:=ts.all fun p=>decide (getC p.1 ts≤1)
abbrev EvR (N:Nat) (w0:World) (lent:List Nat):Env prog:=Env.rngd prog none N w0 lent cnF
theorem rn_ok {wl:WLT CntR} (lent:List Nat) (N:Nat) (w0:World) (hwl:∀c tm hp b K,wl c tm hp b K→W (EvR N w0 lent) c ⟨tm,hp,b⟩ (fun e s=>K e s.tm s.hp s.b)):∀c tm hp b K,wlRn wl c tm hp b K→W (EvR N w0 lent) c ⟨tm,hp,b⟩ (fun e s=>K e s.tm s.hp s.b):=
 CGk9 (Ev:=EvR N w0 lent) mixed (CX.Ok.ofWl (Ev:=EvR N w0 lent) BYd9 Zah fun _ _ _ _ _ h=>h.elim) (CHv9 Zak CJi9 N w0 lent) hwl
theorem CBg9 {wl:WLT CntR} (lent:List Nat) (N:Nat) (w0:World) (hwl:∀c tm hp b K,wl c tm hp b K→W (EvR N w0 lent) c ⟨tm,hp,b⟩ (fun e s=>K e s.tm s.hp s.b)):CX.Ok (EvR N w0 lent) ⟨TVd, [],wlRn wl,fun _ _ _=>False,false⟩:=
 CX.Ok.ofWl (Ev:=EvR N w0 lent) BYd9 Zah (rn_ok lent N w0 hwl)
theorem BFd9 {k:Int} {ts:Cnt}:hasC k ts=true↔∃p∈ts,p.1=k:=by simp [hasC]
theorem wrVd {N:Nat} {w0:World} {lent:List Nat} {Q:Exit→St CntR→Prop} (t:TabT) (l:LayT) (d r:Nat) (ts:Cnt) (hQ1:okC ts=true→∀c,Q (.exit 0) ⟨tmVd r, [tabB t,layB l],(some (d,ts),some c)⟩) (hQ2:okC ts=false→∀c,Q .ret ⟨tmVd r, [tabB t,layB l],(some (d,ts),some c)⟩):
 ∀(n cnt:Nat) (left:Lit→Bool) (cur:Option Lit),cnt≤n→(∀p∈ts,1<getC p.1 ts→left (.int .i64 p.1)=true)→WR (EvR N w0 lent) lpVd (n+1) ⟨tmVd r, [tabB t,layB l],(some (d,ts),some ⟨d,r,3,entC ts,left,cnt,cur⟩)⟩ Q:=by
 have fin:∀(left:Lit→Bool),(∀p∈ts,1<getC p.1 ts→left (.int .i64 p.1)=true)→(∀kl,left kl=false)→okC ts=true:=fun left hin hno=>by
  rw [okC,Zbd];intro p hp;refine decide_eq_true ?_;rcases Int.lt_or_le 1 (getC p.1 ts) with h|h
  ·have:=hin p hp h;rw [hno] at this;cases this
  ·exact h
 intro n;induction n with
 | zero=>
  intro cnt left cur hcnt hin;refine Zdj [4,69] mixed (CBg9 (wl:=fun _ _ _ _ _=>False) lent N w0 fun _ _ _ _ _ h=>h.elim) (k:=100) ?_;refine Eq.mpr (rVd _ _ t l d r cnt ts left cur) ?_;refine ⟨d,ts,rfl,rfl,rfl,rfl,fun hno=>hQ1 (fin left hin hno) _,fun m cnt' hl hh hc=> ?_⟩;have hc:cnt'<cnt:=hc;omega
 | succ n ih=>
  intro cnt left cur hcnt hin;refine Zdj [4,69] mixed (CBg9 (wl:=fun _ _ _ _ _=>False) lent N w0 fun _ _ _ _ _ h=>h.elim) (k:=100) ?_;refine Eq.mpr (rVd _ _ t l d r cnt ts left cur) ?_;refine ⟨d,ts,rfl,rfl,rfl,rfl,fun hno=>hQ1 (fin left hin hno) _,fun m cnt' hl hh hc=>⟨d,ts,m,rfl,rfl,rfl,rfl,rfl,Zba (fun g=> ?_) fun g=> ?_⟩⟩
  ·refine hQ2 ?_ _;obtain ⟨p,hp,rfl⟩:=BFd9.1 hh;have g:=of_decide_eq_true g;cases ho:okC ts with
   |false=>rfl
   | true=>
    have:=of_decide_eq_true (Zbd.1 ho p hp);omega
  ·have hc:cnt'<cnt:=hc;have g:=of_decide_eq_false g;refine ih cnt' _ _ (by omega) fun p hp h1=> ?_;have h2:=hin p hp h1;have hne:p.1≠m:=fun e=>by subst e;omega
   rw [h2,ADt9];simp [hne]
noncomputable def wlVdL:WLT CntR:=fun cd tm hp b K=>∃(t:TabT) (l:LayT) (d r:Nat) (ts:Cnt) (q:Bool),cd= .loop lpVd∧AAv9 [4,69] 0 tm=tmVd r∧hp= [tabB t,layB l]∧b=(some (d,ts),some ⟨d,r,3,entC ts,fun kl=>hasK kl (entC ts),(entC ts).length,none⟩)∧q=okC ts∧
 BIf q (∀c,K (.exit 0) (tmVd r) [tabB t,layB l] (some (d,ts),some c)) (∀c,K .ret (tmVd r) [tabB t,layB l] (some (d,ts),some c))
theorem BSj9 (lent:List Nat) (N:Nat) (w0:World) (c:Code) (tm:List AV) (hp:List Blk) (b:CntR) (K:Exit→List AV→List Blk→CntR→Prop) (h:wlVdL c tm hp b K):W (EvR N w0 lent) c ⟨tm,hp,b⟩ (fun e s=>K e s.tm s.hp s.b):=by
 obtain ⟨t,l,d,r,ts,q,rfl,htm,rfl,rfl,hq,hK⟩:=h;refine W.cast (htm▸AAb9 _ tm 0) (Zbp _) ?_;refine W.rounds (wrVd (N:=N) (w0:=w0) (lent:=lent) (Q:=fun e s=>K e s.tm s.hp s.b) t l d r ts (fun h=> ?_) (fun h=> ?_) (entC ts).length (entC ts).length _ none (Zaw _) fun p hp _=> ?_)
 ·rw [hq,h] at hK;exact hK
 ·rw [hq,h] at hK;exact hK
 ·rw [BFz9];exact BFd9.2 ⟨p,hp,rfl⟩
section
variable (y:ACw9 CntR) (R:AV→CntR→Prop)
theorem BSv9 (t:TabT) (l:LayT):wpFn prog ⟨TVd, [],wlRn wlVdL,y,false⟩ 100 f73 [tabA t,layA l] (none,none) R=(BIf (decide (LayT.no l<(1:Int))) (R (.d (bo false)) (none,none)) (BIf (decide (LayT.no l>(60:Int))) (R (.d (bo false)) (none,none)) (BIf (decide (LayT.da l<(1:Int))) (R (.d (bo false)) (none,none)) (BIf (decide (LayT.da l>(60:Int))) (R (.d (bo false)) (none,none)) (BIf (decide (Zad .i64 (((Zaa (rowsU (TabT.us t)):Nat):Int)+((Zaa (rowsG (TabT.gs t)):Nat):Int))>(24:Int))) (R (.d (bo false)) (none,none)) (BIf (decide (((Zaa (rowsA (TabT.ak t)):Nat):Int)>(24:Int))) (R (.d (bo false)) (none,none)) (NoG none∧154=154∧∀(d:Nat),∃(l0:List UseT), [Zae (Zan 4 (rowsU (TabT.us t))),Zax (Fn.func 108) [] []]= [Zae (Zan 4 (rowsU l0)),Zax (Fn.func 108) [] []]∧Zaa l0<1000000∧true=true∧∃(us1:List UseT) (d2:Nat) (ts3:Cnt) (ts4:Cnt) (l5:LayT) (q6:Bool), [Zae (Zan 4 (rowsU l0)),Zaq (Qz3 l),Zae (Zdy (Zbm (some d)))]= [Zae (Zan 4 (rowsU us1)),Zaq (Qz3 l5),Zae (Zdy (Zbm (some d2)))]∧some (d, [])=some (d2,ts3)∧(LayT.da l5≤(60:Int)∧Zaa us1<100000∧Zaa ts3<100000∧q6=Zgl (ACc9 l5 us1 ts3)∧ts4=Prod.snd (ACc9 l5 us1 ts3))∧BIf (!q6) (R (.d (bo false)) (some (d2,ts4),none)) (∃(l7:List GraT), [Zae (Zan 5 (rowsG (TabT.gs t))),Zax (Fn.func 95) [] []]= [Zae (Zan 5 (rowsG l7)),Zax (Fn.func 95) [] []]∧Zaa l7<1000000∧true=true∧∃(us8:List GraT) (d9:Nat) (ts10:Cnt) (ts11:Cnt) (l12:LayT) (q13:Bool), [Zae (Zan 5 (rowsG l7)),Zaq (Qz3 l),Zae (Zdy (Zbm (some d)))]= [Zae (Zan 5 (rowsG us8)),Zaq (Qz3 l12),Zae (Zdy (Zbm (some d9)))]∧some (d2,ts4)=some (d9,ts10)∧(LayT.da l12≤(60:Int)∧Zaa us8<100000∧Zaa ts10<100000∧q13=Zgl (ADa9 l12 us8 ts10)∧ts11=Prod.snd (ADa9 l12 us8 ts10))∧BIf (!q13) (R (.d (bo false)) (some (d9,ts11),none)) (∃(l14:List AskT), [Zae (Zan 3 (rowsA (TabT.ak t))),Zax (Fn.func 118) [] []]= [Zae (Zan 3 (rowsA l14)),Zax (Fn.func 118) [] []]∧Zaa l14<1000000∧true=true∧∃(us15:List AskT) (d16:Nat) (ts17:Cnt) (ts18:Cnt) (l19:LayT) (q20:Bool), [Zae (Zan 3 (rowsA l14)),Zaq (Qz3 l),Zae (Zdy (Zbm (some d)))]= [Zae (Zan 3 (rowsA us15)),Zaq (Qz3 l19),Zae (Zdy (Zbm (some d16)))]∧some (d9,ts11)=some (d16,ts17)∧(LayT.da l19≤(60:Int)∧Zaa us15<100000∧Zaa ts17<100000∧q20=Zgl (AEl9 l19 us15 ts17)∧ts18=Prod.snd (AEl9 l19 us15 ts17))∧BIf (!q20) (R (.d (bo false)) (some (d16,ts18),none)) (154=154∧∃(d21:Nat) (ts22:Cnt),some (d16,ts18)=some (d21,ts22)∧Zae (Zdy (Zbm (some d)))=Zae (Zdy (Zbm (some d21)))∧∀(r:Nat),∃(t23:TabT) (l24:LayT) (d25:Nat) (r26:Nat) (ts27:Cnt) (q28:Bool),Zat lpVd=Zat lpVd∧(Qz38 r)=(Qz38 r26)∧(Qz55 t l)=(Qz55 t23 l24)∧(some (d21,ts22),some (AEf9.mk d21 r 3 (entC ts22) (fun (kl29:Lit)=>Zcv (entC ts22) fun (p30:Lit×AV)=>Lit.sameKey (Zgl p30) kl29) (Zaa (entC ts22)) none))=(some (d25,ts27),some (AEf9.mk d25 r26 3 (entC ts27) (fun (kl31:Lit)=>Zcv (entC ts27) fun (p32:Lit×AV)=>Lit.sameKey (Zgl p32) kl31) (Zaa (entC ts27)) none))∧q28=okC ts27∧BIf q28 (∀(c:AEf9),R (.d (bo true)) (some (d25,ts27),some c)) (∀(c:AEf9),R (.d (bo false)) (some (d25,ts27),some c)))))))))))):=by kernel_rfl
end
def TabOk (t:TabT):Prop:=t.us.length<10000∧t.gs.length<10000∧t.ak.length<10000
def ACq9 (t:TabT) (l:LayT):Bool:=
 if l.no<1 then false else if l.no>60 then false else if l.da<1 then false else if l.da>60 then false else if (t.us.length:Int)+(t.gs.length:Int)>24 then false else if (t.ak.length:Int)>24 then false
 else if (!(ACc9 l t.us []).1)=true then false else if (!(ADa9 l t.gs (ACc9 l t.us []).2).1)=true then false else if (!(AEl9 l t.ak (ADa9 l t.gs (ACc9 l t.us []).2).2).1)=true then false
 else okC (AEl9 l t.ak (ADa9 l t.gs (ACc9 l t.us []).2).2).2
theorem CDf9 (t:TabT) (l:LayT) (ht:TabOk t):MCall prog cnF 73 [tabA t,layA l] none fun x _=>x= .d (bo (ACq9 t l)):=by
 obtain ⟨t1,t2,t3⟩:=ht;refine MCall.ofFnR (n:=100) (u:=false) (wlRn wlVdL) mixed BYd9 Zah (fun N w0=>rn_ok _ N w0 (BSj9 _ N w0)) func73 (by rfl) (by rfl) ?_;rw [BSv9,AAh9,AAf9,AAn9];have hw:Zad Zbc ((t.us.length:Int)+(t.gs.length:Int))=(t.us.length:Int)+(t.gs.length:Int):=AAx9 (by omega) (by omega);rw [hw];have e1:(ACc9 l t.us []).2.length≤t.us.length:=by
  have h:(ACc9 l t.us []).2.length≤([]:Cnt).length+t.us.length:=ALd9 (fun x:UseT=>useOk x l) (fun x=>x.sl) (-1) t.us [];simpa using h
 have e2:=ALd9 (fun x:GraT=>graOk x l) (fun x=>x.sl) (-1) t.gs (ACc9 l t.us []).2;have e2:(ADa9 l t.gs (ACc9 l t.us []).2).2.length≤(ACc9 l t.us []).2.length+t.gs.length:=e2;refine Zba (fun h1=> ?_) fun h1=>Zba (fun h2=> ?_) fun h2=>Zba (fun h3=> ?_) fun h3=>Zba (fun h4=> ?_) fun h4=>Zba (fun h5=> ?_) fun h5=>Zba (fun h6=> ?_) fun h6=> ?_;all_goals
  try simp only [decide_eq_true_eq,decide_eq_false_iff_not] at h1
  try simp only [decide_eq_true_eq,decide_eq_false_iff_not] at h2
  try simp only [decide_eq_true_eq,decide_eq_false_iff_not] at h3
  try simp only [decide_eq_true_eq,decide_eq_false_iff_not] at h4
  try simp only [decide_eq_true_eq,decide_eq_false_iff_not] at h5
  try simp only [decide_eq_true_eq,decide_eq_false_iff_not] at h6
 ·rw [ACq9,if_pos h1]
 ·rw [ACq9,if_neg h1,if_pos h2]
 ·rw [ACq9,if_neg h1,if_neg h2,if_pos h3]
 ·rw [ACq9,if_neg h1,if_neg h2,if_neg h3,if_pos h4]
 ·rw [ACq9,if_neg h1,if_neg h2,if_neg h3,if_neg h4,if_pos h5]
 ·rw [ACq9,if_neg h1,if_neg h2,if_neg h3,if_neg h4,if_neg h5,if_pos h6]
 ·have hv:ACq9 t l=(if (!(ACc9 l t.us []).1)=true then false else if (!(ADa9 l t.gs (ACc9 l t.us []).2).1)=true then false else if (!(AEl9 l t.ak (ADa9 l t.gs (ACc9 l t.us []).2).2).1)=true then false
   else okC (AEl9 l t.ak (ADa9 l t.gs (ACc9 l t.us []).2).2).2):=by
   rw [ACq9,if_neg h1,if_neg h2,if_neg h3,if_neg h4,if_neg h5,if_neg h6]
  refine ⟨⟨rfl⟩,rfl,fun d=>⟨t.us,rfl,by omega,rfl,t.us,d, [],_,l,_,rfl,rfl,⟨by omega,by omega,by simp,rfl,rfl⟩,Zba (fun g1=> ?_) fun g1=>⟨t.gs,rfl,by omega,rfl,t.gs,d,_,_,l,_,rfl,rfl,⟨by omega,by omega,by omega,rfl,rfl⟩,Zba (fun g2=> ?_) fun g2=>
   ⟨t.ak,rfl,by omega,rfl,t.ak,d,_,_,l,_,rfl,rfl,⟨by omega,by omega,by omega,rfl,rfl⟩,Zba (fun g3=> ?_) fun g3=>⟨rfl,d,_,rfl,rfl,fun r=>⟨t,l,d,r,_,_,rfl,rfl,rfl,rfl,rfl,Zba (fun g4 c=> ?_) fun g4 c=> ?_⟩⟩⟩⟩⟩⟩
  ·rw [hv,if_pos g1]
  ·rw [hv,if_neg (by rw [g1];decide),if_pos g2]
  ·rw [hv,if_neg (by rw [g1];decide),if_neg (by rw [g2];decide),if_pos g3]
  ·rw [hv,if_neg (by rw [g1];decide),if_neg (by rw [g2];decide),if_neg (by rw [g3];decide),g4]
  ·rw [hv,if_neg (by rw [g1];decide),if_neg (by rw [g2];decide),if_neg (by rw [g3];decide),g4]
theorem CCb9 (t:TabT) (l:LayT) (ht:TabOk t):PCall prog 73 [tabA t,layA l] (.d (bo (ACq9 t l))):=(CDf9 t l ht).toP rfl
def BNn9 (args:List AV) (K:AV→Prop):Prop:=∃(t:TabT) (l:LayT) (q:Bool),args= [tabA t,layA l]∧(TabOk t∧q=ACq9 t l)∧K (.d (bo q))
theorem APt9:∀args K,BNn9 args K→∃x,PCall prog 73 args x∧K x:=by
 rintro _ K ⟨t,l,_,rfl,⟨ht,rfl⟩,hk⟩;exact ⟨_,CCb9 t l ht,hk⟩
def idxS {α:Type} (p:α→Bool) (l:List α):Int:=match l.findIdx? p with
 |some j=>(j:Int)
 |none=> -1
theorem ABb9 {α:Type} {p:α→Bool} {l:List α} (h:l.findIdx? p=none):idxS p l= -1:=by simp [idxS,h]
theorem AAj9 {α:Type} {p:α→Bool} {l:List α} {j:Nat} (h:l.findIdx? p=some j):idxS p l=(j:Int):=by simp [idxS,h]
theorem AFn9 {α:Type} {p:α→Bool} {l:List α}:decide (idxS p l≥0)=l.any p:=by
 cases h:l.findIdx? p with
 | none=>
  rw [ABb9 h];have:=List.findIdx?_eq_none_iff.1 h;symm;rw [show decide ((-1:Int)≥0)=false by decide,List.any_eq_false];intro x hx;rw [this x hx];decide
 | some j=>
  rw [AAj9 h];obtain ⟨hj,hp,_⟩:=List.findIdx?_eq_some_iff_getElem.1 h;rw [show decide ((j:Int)≥0)=true by simp];exact (Zdv.2 ⟨l[j],List.getElem_mem hj,hp⟩).symm
theorem WR.findL {α:Type} {P:Program} {Ev:Env P} {X:CX Ev.β} {lp:Code} {b:Ev.β} {Q:Exit→St Ev.β→Prop} {k:Nat} (keep:List Nat) (hm:P.follows .mixedOrders=true) (hX:X.Ok) (xs:List α) (p:α→Bool) (tmOf tmR:Nat→List AV) (hp:List Blk) (id:Nat)
 (hr:∀(i:Nat) (x:α),i<xs.length→xs[i]? =some x→∀K:Exit→List AV→List Blk→Ev.β→Prop,(p x=true→K .ret (tmR i) hp b)→(p x=false→K .normal (tmOf (i+1)) hp b)→wpc P X k lp (tmOf i) hp b (maskK hp.length keep K))
 (he:∀K:Exit→List AV→List Blk→Ev.β→Prop,K (.exit id) (tmOf xs.length) hp b→wpc P X k lp (tmOf xs.length) hp b (maskK hp.length keep K))
 (h1:xs.findIdx? p=none→Q (.exit id) ⟨tmOf xs.length,hp,b⟩) (h2:∀j,xs.findIdx? p=some j→Q .ret ⟨tmR j,hp,b⟩):WR Ev lp (xs.length+1) ⟨tmOf 0,hp,b⟩ Q:=by
 have key:∀(m i:Nat),i+m=xs.length→(∀(j:Nat) (x:α),j<i→xs[j]? =some x→p x=false)→WR Ev lp (m+1) ⟨tmOf i,hp,b⟩ Q:=by
  intro m;induction m with
  | zero=>
   intro i hi hj;have:i=xs.length:=by omega
   subst this;refine Zdj keep hm hX (he _ (h1 ?_));rw [List.findIdx?_eq_none_iff];intro x hx;obtain ⟨j,hjx⟩:=List.mem_iff_getElem?.1 hx;exact hj j x (List.getElem?_eq_some_iff.1 hjx).1 hjx
  | succ m ih=>
   intro i hi hj;have hil:i<xs.length:=by omega
   refine Zdj keep hm hX (hr i xs[i] hil (by simp [hil]) _ (fun h=>h2 i ?_) fun h=> ?_)
   ·rw [List.findIdx?_eq_some_iff_getElem];refine ⟨hil,h,fun j hji=> ?_⟩;have:=hj j xs[j] hji (by simp);simp [this]
   ·refine ih (i+1) (by omega) fun j x hji hjx=> ?_;rcases Zdc j i with h'|h'
    ·exact hj j x h' hjx
    ·obtain rfl:j=i:=by omega
     have:xs[j]? =some xs[j]:=by simp [hil]
     rw [this] at hjx;cases hjx;exact h
 exact key xs.length 0 (by omega) fun j x hj=>by omega
theorem BGn9 (x:UseT) (s:Int):wpFn prog ⟨[], [],wl,y,false⟩ 100 f119 ([useA x]++ [.rptr [i64 s]]) b R=(R (Zae (bo (Zcy x==s))) b):=by kernel_rfl
theorem BLs9 (x:UseT) (s:Int):PCall prog 119 ([useA x]++ [.rptr [i64 s]]) (.d (bo ((fun x:UseT=>x.sl==s) x))):=by
 refine Zbf (n:=100) (u:=false) mixed Zak Zah func119 (by rfl) (by rfl) fun Ev bb=> ?_;rw [BGn9]
def BIo9 (args:List AV) (K:AV→Prop):Prop:=∃(x:UseT) (s:Int) (q:Bool),args= [useA x]++ [.rptr [i64 s]]∧(q=(fun x:UseT=>x.sl==s) x)∧K (.d (bo q))
theorem BAv9:∀args K,BIo9 args K→∃x,PCall prog 119 args x∧K x:=by
 rintro _ K ⟨x,s,_,rfl,rfl,hk⟩;exact ⟨_,BLs9 x s,hk⟩
def BJl9:List (Nat×(List AV→(AV→Prop)→Prop)):= [(119,BIo9)]
theorem BJk9:AAc9 prog BJl9:=Zaj BAv9 Zak
noncomputable def ALz9:Code:=sub [1,0,1,2,3] (code f133)
def AFi9 (l:List UseT) (s:Int) (q i:Int):List AV:= [.d (.sl 4 (rowsU l)), .fn (.func 119) [] [.rptr [i64 s]], .bad, .bad, .d (i64 q), .bad, .bad, .d (i64 l.length), .d (i64 i)]++Zap 10 .bad
theorem BPk9 (l:List UseT) (s:Int) (i:Int):wpc prog ⟨BJl9, [],wl,y,false⟩ 100 ALz9 (AFi9 l s 0 i) [] b (maskK 0 [0,1,4,7,8] K)=(BIf (decide (i<((Zaa l:Nat):Int))) (BIf (true&&decide (0≤i)) (∃(x0:Int) (x1:Int) (x2:Int) (x3:Int),(rowsU l)[Zam i]? =some [i64 x0,i64 x1,i64 x2,i64 x3]∧∃(x6:UseT) (s7:Int) (q8:Bool), [Zaq (Qz37 x0 x1 x2 x3),Zag [i64 s]]= [Zaq (Qz7 x6),Zag [i64 s7]]∧q8=(Zcy x6==s7)∧BIf q8 (K .ret (Zae (Zan 4 (rowsU l))::Zax (Fn.func 119) [] [Zag [i64 s]]::Zab::Zab::Zae (i64 i)::Zab::Zab::Zae (i64 ((Zaa l:Nat):Int))::Zae (i64 i)::bds 10 []) [] b) (K .normal (Zae (Zan 4 (rowsU l))::Zax (Fn.func 119) [] [Zag [i64 s]]::Zab::Zab::Zae (i64 0)::Zab::Zab::Zae (i64 ((Zaa l:Nat):Int))::Zae (i64 (Zad .i64 (i+1)))::bds 10 []) [] b)) False) (K (Zbj 0) (Zae (Zan 4 (rowsU l))::Zax (Fn.func 119) [] [Zag [i64 s]]::Zab::Zab::Zae (i64 0)::Zab::Zab::Zae (i64 ((Zaa l:Nat):Int))::Zae (i64 i)::bds 10 []) [] b)):=by kernel_rfl
theorem BSh9 {Ev:Env prog} {b:Ev.β} {Q:Exit→St Ev.β→Prop} (l:List UseT) (s:Int) (hl:l.length≤9223372036854775807) (h1:l.findIdx? (fun x:UseT=>x.sl==s)=none→∀i:Int,Q (.exit 0) ⟨AFi9 l s 0 i, [],b⟩) (h2:∀j:Nat,l.findIdx? (fun x:UseT=>x.sl==s)=some j→Q .ret ⟨AFi9 l s j j, [],b⟩):
 WR Ev ALz9 (l.length+1) ⟨AFi9 l s 0 (0:Nat), [],b⟩ Q:=by
 refine WR.findL (X:=⟨BJl9, [],wlW Ev,Ev.Y,false⟩) (k:=100) [0,1,4,7,8] mixed (CX.Ok.of BJk9 Zah) l (fun x:UseT=>x.sl==s) (fun i=>AFi9 l s 0 (i:Nat)) (fun i=>AFi9 l s (i:Nat) (i:Nat)) [] 0 (fun i x hi hxi K k1 k2=> ?_) (fun K k1=> ?_) (fun h=>h1 h _) h2
 ·refine Eq.mpr (BPk9 _ _ _ K l s i) ?_;rw [ACb9 hxi];refine Zaz (by simp;omega) (Zaz (natI i) ⟨_,_,_,_,rfl,x,s,_,rfl,rfl,Zba (fun g=>k1 g) fun g=> ?_⟩);rw [wrapN (by omega)];exact k2 g
 ·refine Eq.mpr (BPk9 _ _ _ K l s _) ?_;exact Zda (by simp) k1
def ATs9 {β:Type}:WLT β:=fun cd tm hp b K=>∃(l:List UseT) (s:Int) (q:Int),cd= .loop ALz9∧AAv9 [0,1,4,7,8] 0 tm=AFi9 l s 0 0∧hp= []∧(l.length≤9223372036854775807∧q=idxS (fun x:UseT=>x.sl==s) l)∧(∀i:Int,q= -1→K (.exit 0) (AFi9 l s 0 i) [] b)∧(∀i:Int,0≤q→K .ret (AFi9 l s q i) [] b)
theorem AYn9 {Ev:Env prog} (c:Code) (tm:List AV) (hp:List Blk) (b:Ev.β) (K:Exit→List AV→List Blk→Ev.β→Prop) (h:ATs9 c tm hp b K):W Ev c ⟨tm,hp,b⟩ (fun e s=>K e s.tm s.hp s.b):=by
 obtain ⟨l,s,q,rfl,htm,rfl,⟨hl,rfl⟩,hK1,hK2⟩:=h;refine W.cast (htm▸AAb9 _ tm 0) (Zbp _) ?_;exact W.rounds (BSh9 (Q:=fun e s=>K e s.tm s.hp s.b) l s hl (fun h i=>hK1 i (ABb9 h)) fun j h=>by have:=hK2 j (by rw [AAj9 h];omega);rwa [AAj9 h] at this)
theorem AZs9 (l:List UseT) (s:Int):wpFn prog ⟨[], [],ATs9,y,false⟩ 100 f133 [.d (.sl 4 (rowsU l)), .fn (.func 119) [] [.rptr [i64 s]]] b R=(∃(l0:List UseT) (s1:Int) (q2:Int),Zat ALz9=Zat ALz9∧(Zae (Zan 4 (rowsU l))::Zax (Fn.func 119) [] [Zag [i64 s]]::Zab::Zab::Zae (i64 0)::Zab::Zab::Zae (i64 ((Zaa (rowsU l):Nat):Int))::Zae (i64 0)::bds 10 [])=(Zae (Zan 4 (rowsU l0))::Zax (Fn.func 119) [] [Zag [i64 s1]]::Zab::Zab::Zae (i64 0)::Zab::Zab::Zae (i64 ((Zaa l0:Nat):Int))::Zae (i64 0)::bds 10 [])∧([]:List Blk)= []∧(Zaa l0≤9223372036854775807∧q2=idxS (fun (x3:UseT)=>Zcy x3==s1) l0)∧(∀(i:Int),q2=(-1:Int)→R (.d (i64 (-1))) b)∧∀(i:Int),(0:Int)≤q2→R (.d (i64 q2)) b):=by kernel_rfl
theorem BEf9 (l:List UseT) (s:Int) (hl:l.length≤9223372036854775807):PCall prog 133 [.d (.sl 4 (rowsU l)), .fn (.func 119) [] [.rptr [i64 s]]] (.d (i64 (idxS (fun x:UseT=>x.sl==s) l))):=by
 refine Zcu (n:=100) (u:=false) (fun _=>ATs9) mixed Zak Zah (fun Ev=>AYn9) func133 (by rfl) (by rfl) fun Ev bb=> ?_;rw [AZs9,AAh9];exact ⟨l,s,_,rfl,rfl,rfl,⟨hl,rfl⟩,fun i h=>by rw [h],fun i h=>rfl⟩
def AXk9 (args:List AV) (K:AV→Prop):Prop:=∃(l:List UseT) (s:Int) (q:Int),args= [.d (.sl 4 (rowsU l)), .fn (.func 119) [] [.rptr [i64 s]]]∧(l.length≤9223372036854775807∧q=idxS (fun x:UseT=>x.sl==s) l)∧K (.d (i64 q))
theorem AVb9:∀args K,AXk9 args K→∃x,PCall prog 133 args x∧K x:=by
 rintro _ K ⟨l,s,_,rfl,⟨hl,rfl⟩,hk⟩;exact ⟨_,BEf9 l s hl,hk⟩
def BRs9:List (Nat×(List AV→(AV→Prop)→Prop)):= [(133,AXk9)]
theorem BJr9:AAc9 prog BRs9:=Zaj AVb9 Zak
theorem BAe9 (l:List UseT) (s:Int):wpFn prog ⟨BRs9, [],wl,y,false⟩ 100 f98 [.d (.sl 4 (rowsU l)), .fn (.func 119) [] [.rptr [i64 s]]] b R=(∃(l0:List UseT) (s1:Int) (q2:Int), [Zae (Zan 4 (rowsU l)),Zax (Fn.func 119) [] [Zag [i64 s]]]= [Zae (Zan 4 (rowsU l0)),Zax (Fn.func 119) [] [Zag [i64 s1]]]∧(Zaa l0≤9223372036854775807∧q2=idxS (fun (x3:UseT)=>Zcy x3==s1) l0)∧R (.d (bo (decide (q2≥(0:Int))))) b):=by kernel_rfl
theorem BEl9 (l:List UseT) (s:Int) (hl:l.length≤9223372036854775807):PCall prog 98 [.d (.sl 4 (rowsU l)), .fn (.func 119) [] [.rptr [i64 s]]] (.d (bo (l.any (fun x:UseT=>x.sl==s)))):=by
 refine Zbf (n:=100) (u:=false) mixed BJr9 Zah func98 (by rfl) (by rfl) fun Ev bb=> ?_;rw [BAe9];exact ⟨l,s,_,rfl,⟨hl,rfl⟩,by rw [AFn9]⟩
def AXs9 (args:List AV) (K:AV→Prop):Prop:=∃(l:List UseT) (s:Int) (q:Bool),args= [.d (.sl 4 (rowsU l)), .fn (.func 119) [] [.rptr [i64 s]]]∧(l.length≤9223372036854775807∧q=l.any (fun x:UseT=>x.sl==s))∧K (.d (bo q))
theorem AVi9:∀args K,AXs9 args K→∃x,PCall prog 98 args x∧K x:=by
 rintro _ K ⟨l,s,_,rfl,⟨hl,rfl⟩,hk⟩;exact ⟨_,BEl9 l s hl,hk⟩
theorem BGo9 (x:GraT) (s:Int):wpFn prog ⟨[], [],wl,y,false⟩ 100 f120 ([graA x]++ [.rptr [i64 s]]) b R=(R (Zae (bo (Zdg x==s))) b):=by kernel_rfl
theorem BLt9 (x:GraT) (s:Int):PCall prog 120 ([graA x]++ [.rptr [i64 s]]) (.d (bo ((fun x:GraT=>x.sl==s) x))):=by
 refine Zbf (n:=100) (u:=false) mixed Zak Zah func120 (by rfl) (by rfl) fun Ev bb=> ?_;rw [BGo9]
def BIp9 (args:List AV) (K:AV→Prop):Prop:=∃(x:GraT) (s:Int) (q:Bool),args= [graA x]++ [.rptr [i64 s]]∧(q=(fun x:GraT=>x.sl==s) x)∧K (.d (bo q))
theorem BAw9:∀args K,BIp9 args K→∃x,PCall prog 120 args x∧K x:=by
 rintro _ K ⟨x,s,_,rfl,rfl,hk⟩;exact ⟨_,BLt9 x s,hk⟩
def BJn9:List (Nat×(List AV→(AV→Prop)→Prop)):= [(120,BIp9)]
theorem BJm9:AAc9 prog BJn9:=Zaj BAw9 Zak
noncomputable def AMa9:Code:=sub [1,0,1,2,3] (code f54)
def AFj9 (l:List GraT) (s:Int) (q i:Int):List AV:= [.d (.sl 5 (rowsG l)), .fn (.func 120) [] [.rptr [i64 s]], .bad, .bad, .d (i64 q), .bad, .bad, .d (i64 l.length), .d (i64 i)]++Zap 10 .bad
theorem BPl9 (l:List GraT) (s:Int) (i:Int):wpc prog ⟨BJn9, [],wl,y,false⟩ 100 AMa9 (AFj9 l s 0 i) [] b (maskK 0 [0,1,4,7,8] K)=(BIf (decide (i<((Zaa l:Nat):Int))) (BIf (true&&decide (0≤i)) (∃(x0:Int) (x1:Int) (x2:Int) (x3:Int) (x4:Int),(rowsG l)[Zam i]? =some (Qz41 x0 x1 x2 x3 x4)∧∃(x7:GraT) (s8:Int) (q9:Bool), [Zaq (Qz22 x0 x1 x2 x3 x4),Zag [i64 s]]= [Zaq (Qz5 x7),Zag [i64 s8]]∧q9=(Zdg x7==s8)∧BIf q9 (K .ret (Zae (Zan 5 (rowsG l))::Zax (Fn.func 120) [] [Zag [i64 s]]::Zab::Zab::Zae (i64 i)::Zab::Zab::Zae (i64 ((Zaa l:Nat):Int))::Zae (i64 i)::bds 10 []) [] b) (K .normal (Zae (Zan 5 (rowsG l))::Zax (Fn.func 120) [] [Zag [i64 s]]::Zab::Zab::Zae (i64 0)::Zab::Zab::Zae (i64 ((Zaa l:Nat):Int))::Zae (i64 (Zad .i64 (i+1)))::bds 10 []) [] b)) False) (K (Zbj 0) (Zae (Zan 5 (rowsG l))::Zax (Fn.func 120) [] [Zag [i64 s]]::Zab::Zab::Zae (i64 0)::Zab::Zab::Zae (i64 ((Zaa l:Nat):Int))::Zae (i64 i)::bds 10 []) [] b)):=by kernel_rfl
theorem BSi9 {Ev:Env prog} {b:Ev.β} {Q:Exit→St Ev.β→Prop} (l:List GraT) (s:Int) (hl:l.length≤9223372036854775807) (h1:l.findIdx? (fun x:GraT=>x.sl==s)=none→∀i:Int,Q (.exit 0) ⟨AFj9 l s 0 i, [],b⟩) (h2:∀j:Nat,l.findIdx? (fun x:GraT=>x.sl==s)=some j→Q .ret ⟨AFj9 l s j j, [],b⟩):
 WR Ev AMa9 (l.length+1) ⟨AFj9 l s 0 (0:Nat), [],b⟩ Q:=by
 refine WR.findL (X:=⟨BJn9, [],wlW Ev,Ev.Y,false⟩) (k:=100) [0,1,4,7,8] mixed (CX.Ok.of BJm9 Zah) l (fun x:GraT=>x.sl==s) (fun i=>AFj9 l s 0 (i:Nat)) (fun i=>AFj9 l s (i:Nat) (i:Nat)) [] 0 (fun i x hi hxi K k1 k2=> ?_) (fun K k1=> ?_) (fun h=>h1 h _) h2
 ·refine Eq.mpr (BPl9 _ _ _ K l s i) ?_;rw [ABj9 hxi];refine Zaz (by simp;omega) (Zaz (natI i) ⟨_,_,_,_,_,rfl,x,s,_,rfl,rfl,Zba (fun g=>k1 g) fun g=> ?_⟩);rw [wrapN (by omega)];exact k2 g
 ·refine Eq.mpr (BPl9 _ _ _ K l s _) ?_;exact Zda (by simp) k1
def ATt9 {β:Type}:WLT β:=fun cd tm hp b K=>∃(l:List GraT) (s:Int) (q:Int),cd= .loop AMa9∧AAv9 [0,1,4,7,8] 0 tm=AFj9 l s 0 0∧hp= []∧(l.length≤9223372036854775807∧q=idxS (fun x:GraT=>x.sl==s) l)∧(∀i:Int,q= -1→K (.exit 0) (AFj9 l s 0 i) [] b)∧(∀i:Int,0≤q→K .ret (AFj9 l s q i) [] b)
theorem AYo9 {Ev:Env prog} (c:Code) (tm:List AV) (hp:List Blk) (b:Ev.β) (K:Exit→List AV→List Blk→Ev.β→Prop) (h:ATt9 c tm hp b K):W Ev c ⟨tm,hp,b⟩ (fun e s=>K e s.tm s.hp s.b):=by
 obtain ⟨l,s,q,rfl,htm,rfl,⟨hl,rfl⟩,hK1,hK2⟩:=h;refine W.cast (htm▸AAb9 _ tm 0) (Zbp _) ?_;exact W.rounds (BSi9 (Q:=fun e s=>K e s.tm s.hp s.b) l s hl (fun h i=>hK1 i (ABb9 h)) fun j h=>by have:=hK2 j (by rw [AAj9 h];omega);rwa [AAj9 h] at this)
theorem AZt9 (l:List GraT) (s:Int):wpFn prog ⟨[], [],ATt9,y,false⟩ 100 f54 [.d (.sl 5 (rowsG l)), .fn (.func 120) [] [.rptr [i64 s]]] b R=(∃(l0:List GraT) (s1:Int) (q2:Int),Zat AMa9=Zat AMa9∧(Zae (Zan 5 (rowsG l))::Zax (Fn.func 120) [] [Zag [i64 s]]::Zab::Zab::Zae (i64 0)::Zab::Zab::Zae (i64 ((Zaa (rowsG l):Nat):Int))::Zae (i64 0)::bds 10 [])=(Zae (Zan 5 (rowsG l0))::Zax (Fn.func 120) [] [Zag [i64 s1]]::Zab::Zab::Zae (i64 0)::Zab::Zab::Zae (i64 ((Zaa l0:Nat):Int))::Zae (i64 0)::bds 10 [])∧([]:List Blk)= []∧(Zaa l0≤9223372036854775807∧q2=idxS (fun (x3:GraT)=>Zdg x3==s1) l0)∧(∀(i:Int),q2=(-1:Int)→R (.d (i64 (-1))) b)∧∀(i:Int),(0:Int)≤q2→R (.d (i64 q2)) b):=by kernel_rfl
theorem BEg9 (l:List GraT) (s:Int) (hl:l.length≤9223372036854775807):PCall prog 54 [.d (.sl 5 (rowsG l)), .fn (.func 120) [] [.rptr [i64 s]]] (.d (i64 (idxS (fun x:GraT=>x.sl==s) l))):=by
 refine Zcu (n:=100) (u:=false) (fun _=>ATt9) mixed Zak Zah (fun Ev=>AYo9) func54 (by rfl) (by rfl) fun Ev bb=> ?_;rw [AZt9,AAf9];exact ⟨l,s,_,rfl,rfl,rfl,⟨hl,rfl⟩,fun i h=>by rw [h],fun i h=>rfl⟩
def AXl9 (args:List AV) (K:AV→Prop):Prop:=∃(l:List GraT) (s:Int) (q:Int),args= [.d (.sl 5 (rowsG l)), .fn (.func 120) [] [.rptr [i64 s]]]∧(l.length≤9223372036854775807∧q=idxS (fun x:GraT=>x.sl==s) l)∧K (.d (i64 q))
theorem AVc9:∀args K,AXl9 args K→∃x,PCall prog 54 args x∧K x:=by
 rintro _ K ⟨l,s,_,rfl,⟨hl,rfl⟩,hk⟩;exact ⟨_,BEg9 l s hl,hk⟩
def BRt9:List (Nat×(List AV→(AV→Prop)→Prop)):= [(54,AXl9)]
theorem BJs9:AAc9 prog BRt9:=Zaj AVc9 Zak
theorem BAf9 (l:List GraT) (s:Int):wpFn prog ⟨BRt9, [],wl,y,false⟩ 100 f87 [.d (.sl 5 (rowsG l)), .fn (.func 120) [] [.rptr [i64 s]]] b R=(∃(l0:List GraT) (s1:Int) (q2:Int), [Zae (Zan 5 (rowsG l)),Zax (Fn.func 120) [] [Zag [i64 s]]]= [Zae (Zan 5 (rowsG l0)),Zax (Fn.func 120) [] [Zag [i64 s1]]]∧(Zaa l0≤9223372036854775807∧q2=idxS (fun (x3:GraT)=>Zdg x3==s1) l0)∧R (.d (bo (decide (q2≥(0:Int))))) b):=by kernel_rfl
theorem BEm9 (l:List GraT) (s:Int) (hl:l.length≤9223372036854775807):PCall prog 87 [.d (.sl 5 (rowsG l)), .fn (.func 120) [] [.rptr [i64 s]]] (.d (bo (l.any (fun x:GraT=>x.sl==s)))):=by
 refine Zbf (n:=100) (u:=false) mixed BJs9 Zah func87 (by rfl) (by rfl) fun Ev bb=> ?_;rw [BAf9];exact ⟨l,s,_,rfl,⟨hl,rfl⟩,by rw [AFn9]⟩
def AXt9 (args:List AV) (K:AV→Prop):Prop:=∃(l:List GraT) (s:Int) (q:Bool),args= [.d (.sl 5 (rowsG l)), .fn (.func 120) [] [.rptr [i64 s]]]∧(l.length≤9223372036854775807∧q=l.any (fun x:GraT=>x.sl==s))∧K (.d (bo q))
theorem AVj9:∀args K,AXt9 args K→∃x,PCall prog 87 args x∧K x:=by
 rintro _ K ⟨l,s,_,rfl,⟨hl,rfl⟩,hk⟩;exact ⟨_,BEm9 l s hl,hk⟩
structure SideT where
 lay:LayT
 me:Int
 ns:List NearT
 fr:Int
def sideD (s:SideT):List Dv:= [i64 s.lay.no,i64 s.lay.da,i64 s.me, .sl 31 (rowsN s.ns),i64 s.fr]
theorem BNi9 (x:NearT) (pe:Int):wpFn prog ⟨[], [],wl,y,false⟩ 100 f83 ([nearA x]++ [.rptr [i64 pe]]) b R=(R (Zae (bo (NearT.fm x==pe))) b):=by kernel_rfl
theorem BUt9 (x:NearT) (pe:Int):PCall prog 83 ([nearA x]++ [.rptr [i64 pe]]) (.d (bo ((fun x:NearT=>x.fm==pe) x))):=by
 refine Zbf (n:=100) (u:=false) mixed Zak Zah func83 (by rfl) (by rfl) fun Ev bb=> ?_;rw [BNi9]
def BRb9 (args:List AV) (K:AV→Prop):Prop:=∃(x:NearT) (pe:Int) (q:Bool),args= [nearA x]++ [.rptr [i64 pe]]∧(q=(fun x:NearT=>x.fm==pe) x)∧K (.d (bo q))
theorem BIl9:∀args K,BRb9 args K→∃x,PCall prog 83 args x∧K x:=by
 rintro _ K ⟨x,pe,_,rfl,rfl,hk⟩;exact ⟨_,BUt9 x pe,hk⟩
def BYs9:List (Nat×(List AV→(AV→Prop)→Prop)):= [(83,BRb9)]
theorem BOv9:AAc9 prog BYs9:=Zaj BIl9 Zak
noncomputable def ARx9:Code:=sub [1,0,1,2,3] (code f82)
def AHx9 (l:List NearT) (pe:Int) (q i:Int):List AV:= [.d (.sl 31 (rowsN l)), .fn (.func 83) [] [.rptr [i64 pe]], .bad, .bad, .d (i64 q), .bad, .bad, .d (i64 l.length), .d (i64 i)]++Zap 10 .bad
theorem CBt9 (l:List NearT) (pe:Int) (i:Int):wpc prog ⟨BYs9, [],wl,y,false⟩ 100 ARx9 (AHx9 l pe 0 i) [] b (maskK 0 [0,1,4,7,8] K)=(BIf (decide (i<((Zaa l:Nat):Int))) (BIf (true&&decide (0≤i)) (∃(n0:NearT),(rowsN l)[Zam i]? =some (nearR n0)∧∃(x3:NearT) (pe4:Int) (q5:Bool), [nearA n0,Zag [i64 pe]]= [nearA x3,Zag [i64 pe4]]∧q5=(NearT.fm x3==pe4)∧BIf q5 (K .ret (Zae (Zan 31 (rowsN l))::Zax (Fn.func 83) [] [Zag [i64 pe]]::Zab::Zab::Zae (i64 i)::Zab::Zab::Zae (i64 ((Zaa l:Nat):Int))::Zae (i64 i)::bds 10 []) [] b) (K .normal (Zae (Zan 31 (rowsN l))::Zax (Fn.func 83) [] [Zag [i64 pe]]::Zab::Zab::Zae (i64 0)::Zab::Zab::Zae (i64 ((Zaa l:Nat):Int))::Zae (i64 (Zad .i64 (i+1)))::bds 10 []) [] b)) False) (K (Zbj 0) (Zae (Zan 31 (rowsN l))::Zax (Fn.func 83) [] [Zag [i64 pe]]::Zab::Zab::Zae (i64 0)::Zab::Zab::Zae (i64 ((Zaa l:Nat):Int))::Zae (i64 i)::bds 10 []) [] b)):=by kernel_rfl
theorem BZk9 {Ev:Env prog} {b:Ev.β} {Q:Exit→St Ev.β→Prop} (l:List NearT) (pe:Int) (hl:l.length≤9223372036854775807) (h1:l.findIdx? (fun x:NearT=>x.fm==pe)=none→∀i:Int,Q (.exit 0) ⟨AHx9 l pe 0 i, [],b⟩) (h2:∀j:Nat,l.findIdx? (fun x:NearT=>x.fm==pe)=some j→Q .ret ⟨AHx9 l pe j j, [],b⟩):
 WR Ev ARx9 (l.length+1) ⟨AHx9 l pe 0 (0:Nat), [],b⟩ Q:=by
 refine WR.findL (X:=⟨BYs9, [],wlW Ev,Ev.Y,false⟩) (k:=100) [0,1,4,7,8] mixed (CX.Ok.of BOv9 Zah) l (fun x:NearT=>x.fm==pe) (fun i=>AHx9 l pe 0 (i:Nat)) (fun i=>AHx9 l pe (i:Nat) (i:Nat)) [] 0 (fun i x hi hxi K k1 k2=> ?_) (fun K k1=> ?_) (fun h=>h1 h _) h2
 ·refine Eq.mpr (CBt9 _ _ _ K l pe i) ?_;rw [ABc9 hxi];refine Zaz (by simp;omega) (Zaz (natI i) ⟨_,rfl,x,pe,_,rfl,rfl,Zba (fun g=>k1 g) fun g=> ?_⟩);rw [wrapN (by omega)];exact k2 g
 ·refine Eq.mpr (CBt9 _ _ _ K l pe _) ?_;exact Zda (by simp) k1
def BCm9 {β:Type}:WLT β:=fun cd tm hp b K=>∃(l:List NearT) (pe:Int) (q:Int),cd= .loop ARx9∧AAv9 [0,1,4,7,8] 0 tm=AHx9 l pe 0 0∧hp= []∧(l.length≤9223372036854775807∧q=idxS (fun x:NearT=>x.fm==pe) l)∧(∀i:Int,q= -1→K (.exit 0) (AHx9 l pe 0 i) [] b)∧(∀i:Int,0≤q→K .ret (AHx9 l pe q i) [] b)
theorem BCl9 {Ev:Env prog} (c:Code) (tm:List AV) (hp:List Blk) (b:Ev.β) (K:Exit→List AV→List Blk→Ev.β→Prop) (h:BCm9 c tm hp b K):W Ev c ⟨tm,hp,b⟩ (fun e s=>K e s.tm s.hp s.b):=by
 obtain ⟨l,pe,q,rfl,htm,rfl,⟨hl,rfl⟩,hK1,hK2⟩:=h;refine W.cast (htm▸AAb9 _ tm 0) (Zbp _) ?_;exact W.rounds (BZk9 (Q:=fun e s=>K e s.tm s.hp s.b) l pe hl (fun h i=>hK1 i (ABb9 h)) fun j h=>by have:=hK2 j (by rw [AAj9 h];omega);rwa [AAj9 h] at this)
theorem BFb9 (l:List NearT) (pe:Int):wpFn prog ⟨[], [],BCm9,y,false⟩ 100 f82 [.d (.sl 31 (rowsN l)), .fn (.func 83) [] [.rptr [i64 pe]]] b R=(∃(l0:List NearT) (pe1:Int) (q2:Int),Zat ARx9=Zat ARx9∧(Zae (Zan 31 (rowsN l))::Zax (Fn.func 83) [] [Zag [i64 pe]]::Zab::Zab::Zae (i64 0)::Zab::Zab::Zae (i64 ((Zaa (rowsN l):Nat):Int))::Zae (i64 0)::bds 10 [])=(Zae (Zan 31 (rowsN l0))::Zax (Fn.func 83) [] [Zag [i64 pe1]]::Zab::Zab::Zae (i64 0)::Zab::Zab::Zae (i64 ((Zaa l0:Nat):Int))::Zae (i64 0)::bds 10 [])∧([]:List Blk)= []∧(Zaa l0≤9223372036854775807∧q2=idxS (fun (x3:NearT)=>NearT.fm x3==pe1) l0)∧(∀(i:Int),q2=(-1:Int)→R (.d (i64 (-1))) b)∧∀(i:Int),(0:Int)≤q2→R (.d (i64 q2)) b):=by kernel_rfl
theorem BLi9 (l:List NearT) (pe:Int) (hl:l.length≤9223372036854775807):PCall prog 82 [.d (.sl 31 (rowsN l)), .fn (.func 83) [] [.rptr [i64 pe]]] (.d (i64 (idxS (fun x:NearT=>x.fm==pe) l))):=by
 refine Zcu (n:=100) (u:=false) (fun _=>BCm9) mixed Zak Zah (fun Ev=>BCl9) func82 (by rfl) (by rfl) fun Ev bb=> ?_;rw [BFb9,ABm9];exact ⟨l,pe,_,rfl,rfl,rfl,⟨hl,rfl⟩,fun i h=>by rw [h],fun i h=>rfl⟩
def BHk9 (args:List AV) (K:AV→Prop):Prop:=∃(l:List NearT) (pe:Int) (q:Int),args= [.d (.sl 31 (rowsN l)), .fn (.func 83) [] [.rptr [i64 pe]]]∧(l.length≤9223372036854775807∧q=idxS (fun x:NearT=>x.fm==pe) l)∧K (.d (i64 q))
theorem BAm9:∀args K,BHk9 args K→∃x,PCall prog 82 args x∧K x:=by
 rintro _ K ⟨l,pe,_,rfl,⟨hl,rfl⟩,hk⟩;exact ⟨_,BLi9 l pe hl,hk⟩
theorem BWz9 (x:GraT) (sl:Int) (of:Int) (s:SideT):wpFn prog ⟨[], [],wl,y,false⟩ 100 f88 ([graA x]++ [.rptr [i64 sl,i64 of], .rptr [.pt (sideD s)]]) b R=(BIf (Zdg x==sl&&(Zfe x==of&&true)) (R (.d (bo (Zgg x !=SideT.me s))) b) (R (.d (bo false)) b)):=by kernel_rfl
theorem CCt9 (x:GraT) (sl:Int) (of:Int) (s:SideT):PCall prog 88 ([graA x]++ [.rptr [i64 sl,i64 of], .rptr [.pt (sideD s)]]) (.d (bo ((fun x:GraT=>(x.sl==sl&&x.of==of)&& !(x.pe==s.me)) x))):=by
 refine Zbf (n:=100) (u:=false) mixed Zak Zah func88 (by rfl) (by rfl) fun Ev bb=> ?_;rw [BWz9];have e:(x.sl==sl&&(x.of==of&&true))=(x.sl==sl&&x.of==of):=by simp
 rw [e];refine Zba (fun h=> ?_) fun h=> ?_
 ·simp only [h,Zey]<;>rfl
 ·simp only [h,Zcj]
def CEy9 (args:List AV) (K:AV→Prop):Prop:=∃(x:GraT) (sl:Int) (of:Int) (s:SideT) (q:Bool),args= [graA x]++ [.rptr [i64 sl,i64 of], .rptr [.pt (sideD s)]]∧(q=(fun x:GraT=>(x.sl==sl&&x.of==of)&& !(x.pe==s.me)) x)∧K (.d (bo q))
theorem BOe9:∀args K,CEy9 args K→∃x,PCall prog 88 args x∧K x:=by
 rintro _ K ⟨x,sl,of,s,_,rfl,rfl,hk⟩;exact ⟨_,CCt9 x sl of s,hk⟩
def TIFgn:List (Nat×(List AV→(AV→Prop)→Prop)):= [(88,CEy9)]
theorem BYt9:AAc9 prog TIFgn:=Zaj BOe9 Zak
noncomputable def BEq9:Code:=sub [1,0,1,2,3] (code f54)
def AOj9 (l:List GraT) (sl:Int) (of:Int) (s:SideT) (q i:Int):List AV:= [.d (.sl 5 (rowsG l)), .fn (.func 88) [] [.rptr [i64 sl,i64 of], .rptr [.pt (sideD s)]], .bad, .bad, .d (i64 q), .bad, .bad, .d (i64 l.length), .d (i64 i)]++Zap 10 .bad
abbrev Qz2 (v0:SideT):= [i64 (LayT.no (SideT.lay v0)),i64 (LayT.da (SideT.lay v0)),i64 (SideT.me v0),Zan 31 (rowsN (SideT.ns v0)),i64 (SideT.fr v0)]
abbrev Qz23 (v0:Int) (v1:Int) (v2:SideT):List AV:= [Zag [i64 v0,i64 v1],Zag [Dv.pt (Qz2 v2)]]
theorem rIFgn (l:List GraT) (sl:Int) (of:Int) (s:SideT) (i:Int):wpc prog ⟨TIFgn, [],wl,y,false⟩ 100 BEq9 (AOj9 l sl of s 0 i) [] b (maskK 0 [0,1,4,7,8] K)=(BIf (decide (i<((Zaa l:Nat):Int))) (BIf (true&&decide (0≤i)) (∃(x0:Int) (x1:Int) (x2:Int) (x3:Int) (x4:Int),(rowsG l)[Zam i]? =some (Qz41 x0 x1 x2 x3 x4)∧∃(x7:GraT) (sl8:Int) (of9:Int) (s10:SideT) (q11:Bool), [Zaq (Qz22 x0 x1 x2 x3 x4),Zag [i64 sl,i64 of],Zag [Dv.pt (Qz2 s)]]= [Zaq (Qz5 x7),Zag [i64 sl8,i64 of9],Zag [Dv.pt (Qz2 s10)]]∧q11=(Zdg x7==sl8&&Zfe x7==of9&& !GraT.pe x7==SideT.me s10)∧BIf q11 (K .ret (Zae (Zan 5 (rowsG l))::Zax (Fn.func 88) [] (Qz23 sl of s)::Zab::Zab::Zae (i64 i)::Zab::Zab::Zae (i64 ((Zaa l:Nat):Int))::Zae (i64 i)::bds 10 []) [] b) (K .normal (Zae (Zan 5 (rowsG l))::Zax (Fn.func 88) [] (Qz23 sl of s)::Zab::Zab::Zae (i64 0)::Zab::Zab::Zae (i64 ((Zaa l:Nat):Int))::Zae (i64 (Zad .i64 (i+1)))::bds 10 []) [] b)) False) (K (Zbj 0) (Zae (Zan 5 (rowsG l))::Zax (Fn.func 88) [] (Qz23 sl of s)::Zab::Zab::Zae (i64 0)::Zab::Zab::Zae (i64 ((Zaa l:Nat):Int))::Zae (i64 i)::bds 10 []) [] b)):=by kernel_rfl
theorem CGc9 {Ev:Env prog} {b:Ev.β} {Q:Exit→St Ev.β→Prop} (l:List GraT) (sl:Int) (of:Int) (s:SideT) (hl:l.length≤9223372036854775807) (h1:l.findIdx? (fun x:GraT=>(x.sl==sl&&x.of==of)&& !(x.pe==s.me))=none→∀i:Int,Q (.exit 0) ⟨AOj9 l sl of s 0 i, [],b⟩) (h2:∀j:Nat,l.findIdx? (fun x:GraT=>(x.sl==sl&&x.of==of)&& !(x.pe==s.me))=some j→Q .ret ⟨AOj9 l sl of s j j, [],b⟩):
 WR Ev BEq9 (l.length+1) ⟨AOj9 l sl of s 0 (0:Nat), [],b⟩ Q:=by
 refine WR.findL (X:=⟨TIFgn, [],wlW Ev,Ev.Y,false⟩) (k:=100) [0,1,4,7,8] mixed (CX.Ok.of BYt9 Zah) l (fun x:GraT=>(x.sl==sl&&x.of==of)&& !(x.pe==s.me)) (fun i=>AOj9 l sl of s 0 (i:Nat)) (fun i=>AOj9 l sl of s (i:Nat) (i:Nat)) [] 0 (fun i x hi hxi K k1 k2=> ?_) (fun K k1=> ?_) (fun h=>h1 h _) h2
 ·refine Eq.mpr (rIFgn _ _ _ K l sl of s i) ?_;rw [ABj9 hxi];refine Zaz (by simp;omega) (Zaz (natI i) ⟨_,_,_,_,_,rfl,x,sl,of,s,_,rfl,rfl,Zba (fun g=>k1 g) fun g=> ?_⟩);rw [wrapN (by omega)];exact k2 g
 ·refine Eq.mpr (rIFgn _ _ _ K l sl of s _) ?_;exact Zda (by simp) k1
def BSp9 {β:Type}:WLT β:=fun cd tm hp b K=>∃(l:List GraT) (sl:Int) (of:Int) (s:SideT) (q:Int),cd= .loop BEq9∧AAv9 [0,1,4,7,8] 0 tm=AOj9 l sl of s 0 0∧hp= []∧(l.length≤9223372036854775807∧q=idxS (fun x:GraT=>(x.sl==sl&&x.of==of)&& !(x.pe==s.me)) l)∧(∀i:Int,q= -1→K (.exit 0) (AOj9 l sl of s 0 i) [] b)∧(∀i:Int,0≤q→K .ret (AOj9 l sl of s q i) [] b)
theorem BJy9 {Ev:Env prog} (c:Code) (tm:List AV) (hp:List Blk) (b:Ev.β) (K:Exit→List AV→List Blk→Ev.β→Prop) (h:BSp9 c tm hp b K):W Ev c ⟨tm,hp,b⟩ (fun e s=>K e s.tm s.hp s.b):=by
 obtain ⟨l,sl,of,s,q,rfl,htm,rfl,⟨hl,rfl⟩,hK1,hK2⟩:=h;refine W.cast (htm▸AAb9 _ tm 0) (Zbp _) ?_;exact W.rounds (CGc9 (Q:=fun e s=>K e s.tm s.hp s.b) l sl of s hl (fun h i=>hK1 i (ABb9 h)) fun j h=>by have:=hK2 j (by rw [AAj9 h];omega);rwa [AAj9 h] at this)
theorem BMj9 (l:List GraT) (sl:Int) (of:Int) (s:SideT):wpFn prog ⟨[], [],BSp9,y,false⟩ 100 f54 [.d (.sl 5 (rowsG l)), .fn (.func 88) [] [.rptr [i64 sl,i64 of], .rptr [.pt (sideD s)]]] b R=(∃(l0:List GraT) (sl1:Int) (of2:Int) (s3:SideT) (q4:Int),Zat BEq9=Zat BEq9∧(Zae (Zan 5 (rowsG l))::Zax (Fn.func 88) [] (Qz23 sl of s)::Zab::Zab::Zae (i64 0)::Zab::Zab::Zae (i64 ((Zaa (rowsG l):Nat):Int))::Zae (i64 0)::bds 10 [])=(Zae (Zan 5 (rowsG l0))::Zax (Fn.func 88) [] (Qz23 sl1 of2 s3)::Zab::Zab::Zae (i64 0)::Zab::Zab::Zae (i64 ((Zaa l0:Nat):Int))::Zae (i64 0)::bds 10 [])∧([]:List Blk)= []∧(Zaa l0≤9223372036854775807∧q4=idxS (fun (x5:GraT)=>Zdg x5==sl1&&Zfe x5==of2&& !GraT.pe x5==SideT.me s3) l0)∧(∀(i:Int),q4=(-1:Int)→R (.d (i64 (-1))) b)∧∀(i:Int),(0:Int)≤q4→R (.d (i64 q4)) b):=by kernel_rfl
theorem BUf9 (l:List GraT) (sl:Int) (of:Int) (s:SideT) (hl:l.length≤9223372036854775807):PCall prog 54 [.d (.sl 5 (rowsG l)), .fn (.func 88) [] [.rptr [i64 sl,i64 of], .rptr [.pt (sideD s)]]] (.d (i64 (idxS (fun x:GraT=>(x.sl==sl&&x.of==of)&& !(x.pe==s.me)) l))):=by
 refine Zcu (n:=100) (u:=false) (fun _=>BSp9) mixed Zak Zah (fun Ev=>BJy9) func54 (by rfl) (by rfl) fun Ev bb=> ?_;rw [BMj9,AAf9];exact ⟨l,sl,of,s,_,rfl,rfl,rfl,⟨hl,rfl⟩,fun i h=>by rw [h],fun i h=>rfl⟩
def BQn9 (args:List AV) (K:AV→Prop):Prop:=∃(l:List GraT) (sl:Int) (of:Int) (s:SideT) (q:Int),args= [.d (.sl 5 (rowsG l)), .fn (.func 88) [] [.rptr [i64 sl,i64 of], .rptr [.pt (sideD s)]]]∧(l.length≤9223372036854775807∧q=idxS (fun x:GraT=>(x.sl==sl&&x.of==of)&& !(x.pe==s.me)) l)∧K (.d (i64 q))
theorem BHl9:∀args K,BQn9 args K→∃x,PCall prog 54 args x∧K x:=by
 rintro _ K ⟨l,sl,of,s,_,rfl,⟨hl,rfl⟩,hk⟩;exact ⟨_,BUf9 l sl of s hl,hk⟩
def TCFgn:List (Nat×(List AV→(AV→Prop)→Prop)):= [(54,BQn9)]
theorem BYv9:AAc9 prog TCFgn:=Zaj BHl9 Zak
theorem BMu9 (l:List GraT) (sl:Int) (of:Int) (s:SideT):wpFn prog ⟨TCFgn, [],wl,y,false⟩ 100 f87 [.d (.sl 5 (rowsG l)), .fn (.func 88) [] [.rptr [i64 sl,i64 of], .rptr [.pt (sideD s)]]] b R=(∃(l0:List GraT) (sl1:Int) (of2:Int) (s3:SideT) (q4:Int), [Zae (Zan 5 (rowsG l)),Zax (Fn.func 88) [] (Qz23 sl of s)]= [Zae (Zan 5 (rowsG l0)),Zax (Fn.func 88) [] (Qz23 sl1 of2 s3)]∧(Zaa l0≤9223372036854775807∧q4=idxS (fun (x5:GraT)=>Zdg x5==sl1&&Zfe x5==of2&& !GraT.pe x5==SideT.me s3) l0)∧R (.d (bo (decide (q4≥(0:Int))))) b):=by kernel_rfl
theorem BUj9 (l:List GraT) (sl:Int) (of:Int) (s:SideT) (hl:l.length≤9223372036854775807):PCall prog 87 [.d (.sl 5 (rowsG l)), .fn (.func 88) [] [.rptr [i64 sl,i64 of], .rptr [.pt (sideD s)]]] (.d (bo (l.any (fun x:GraT=>(x.sl==sl&&x.of==of)&& !(x.pe==s.me))))):=by
 refine Zbf (n:=100) (u:=false) mixed BYv9 Zah func87 (by rfl) (by rfl) fun Ev bb=> ?_;rw [BMu9];exact ⟨l,sl,of,s,_,rfl,⟨hl,rfl⟩,by rw [AFn9]⟩
def BQr9 (args:List AV) (K:AV→Prop):Prop:=∃(l:List GraT) (sl:Int) (of:Int) (s:SideT) (q:Bool),args= [.d (.sl 5 (rowsG l)), .fn (.func 88) [] [.rptr [i64 sl,i64 of], .rptr [.pt (sideD s)]]]∧(l.length≤9223372036854775807∧q=l.any (fun x:GraT=>(x.sl==sl&&x.of==of)&& !(x.pe==s.me)))∧K (.d (bo q))
theorem BHu9:∀args K,BQr9 args K→∃x,PCall prog 87 args x∧K x:=by
 rintro _ K ⟨l,sl,of,s,_,rfl,⟨hl,rfl⟩,hk⟩;exact ⟨_,BUj9 l sl of s hl,hk⟩
theorem BMz9 (x:AskT) (sl:Int) (of:Int):wpFn prog ⟨[], [],wl,y,false⟩ 100 f44 ([askA x]++ [.rptr [i64 sl,i64 of]]) b R=(R (Zae (bo (Zcr x==sl))) b):=by kernel_rfl
theorem BUk9 (x:AskT) (sl:Int) (of:Int):PCall prog 44 ([askA x]++ [.rptr [i64 sl,i64 of]]) (.d (bo ((fun x:AskT=>x.sl==sl) x))):=by
 refine Zbf (n:=100) (u:=false) mixed Zak Zah func44 (by rfl) (by rfl) fun Ev bb=> ?_;rw [BMz9]
def BQu9 (args:List AV) (K:AV→Prop):Prop:=∃(x:AskT) (sl:Int) (of:Int) (q:Bool),args= [askA x]++ [.rptr [i64 sl,i64 of]]∧(q=(fun x:AskT=>x.sl==sl) x)∧K (.d (bo q))
theorem BIc9:∀args K,BQu9 args K→∃x,PCall prog 44 args x∧K x:=by
 rintro _ K ⟨x,sl,of,_,rfl,rfl,hk⟩;exact ⟨_,BUk9 x sl of,hk⟩
def BYn9:List (Nat×(List AV→(AV→Prop)→Prop)):= [(44,BQu9)]
theorem BOq9:AAc9 prog BYn9:=Zaj BIc9 Zak
noncomputable def ARs9:Code:=sub [1,0,1,2,3] (code f90)
def AHs9 (l:List AskT) (sl:Int) (of:Int) (q i:Int):List AV:= [.d (.sl 3 (rowsA l)), .fn (.func 44) [] [.rptr [i64 sl,i64 of]], .bad, .bad, .d (i64 q), .bad, .bad, .d (i64 l.length), .d (i64 i)]++Zap 10 .bad
theorem CBo9 (l:List AskT) (sl:Int) (of:Int) (i:Int):wpc prog ⟨BYn9, [],wl,y,false⟩ 100 ARs9 (AHs9 l sl of 0 i) [] b (maskK 0 [0,1,4,7,8] K)=(BIf (decide (i<((Zaa l:Nat):Int))) (BIf (true&&decide (0≤i)) (∃(x0:Int) (x1:Int) (x2:Int),(rowsA l)[Zam i]? =some [i64 x0,i64 x1,i64 x2]∧∃(x5:AskT) (sl6:Int) (of7:Int) (q8:Bool), [Zaq (Qz31 x0 x1 x2),Zag [i64 sl,i64 of]]= [Zaq (Qz12 x5),Zag [i64 sl6,i64 of7]]∧q8=(Zcr x5==sl6)∧BIf q8 (K .ret (Zae (Zan 3 (rowsA l))::Zax (Fn.func 44) [] [Zag [i64 sl,i64 of]]::Zab::Zab::Zae (i64 i)::Zab::Zab::Zae (i64 ((Zaa l:Nat):Int))::Zae (i64 i)::bds 10 []) [] b) (K .normal (Zae (Zan 3 (rowsA l))::Zax (Fn.func 44) [] [Zag [i64 sl,i64 of]]::Zab::Zab::Zae (i64 0)::Zab::Zab::Zae (i64 ((Zaa l:Nat):Int))::Zae (i64 (Zad .i64 (i+1)))::bds 10 []) [] b)) False) (K (Zbj 0) (Zae (Zan 3 (rowsA l))::Zax (Fn.func 44) [] [Zag [i64 sl,i64 of]]::Zab::Zab::Zae (i64 0)::Zab::Zab::Zae (i64 ((Zaa l:Nat):Int))::Zae (i64 i)::bds 10 []) [] b)):=by kernel_rfl
theorem BZf9 {Ev:Env prog} {b:Ev.β} {Q:Exit→St Ev.β→Prop} (l:List AskT) (sl:Int) (of:Int) (hl:l.length≤9223372036854775807) (h1:l.findIdx? (fun x:AskT=>x.sl==sl)=none→∀i:Int,Q (.exit 0) ⟨AHs9 l sl of 0 i, [],b⟩) (h2:∀j:Nat,l.findIdx? (fun x:AskT=>x.sl==sl)=some j→Q .ret ⟨AHs9 l sl of j j, [],b⟩):
 WR Ev ARs9 (l.length+1) ⟨AHs9 l sl of 0 (0:Nat), [],b⟩ Q:=by
 refine WR.findL (X:=⟨BYn9, [],wlW Ev,Ev.Y,false⟩) (k:=100) [0,1,4,7,8] mixed (CX.Ok.of BOq9 Zah) l (fun x:AskT=>x.sl==sl) (fun i=>AHs9 l sl of 0 (i:Nat)) (fun i=>AHs9 l sl of (i:Nat) (i:Nat)) [] 0 (fun i x hi hxi K k1 k2=> ?_) (fun K k1=> ?_) (fun h=>h1 h _) h2
 ·refine Eq.mpr (CBo9 _ _ _ K l sl of i) ?_;rw [ABk9 hxi];refine Zaz (by simp;omega) (Zaz (natI i) ⟨_,_,_,rfl,x,sl,of,_,rfl,rfl,Zba (fun g=>k1 g) fun g=> ?_⟩);rw [wrapN (by omega)];exact k2 g
 ·refine Eq.mpr (CBo9 _ _ _ K l sl of _) ?_;exact Zda (by simp) k1
def BCc9 {β:Type}:WLT β:=fun cd tm hp b K=>∃(l:List AskT) (sl:Int) (of:Int) (q:Int),cd= .loop ARs9∧AAv9 [0,1,4,7,8] 0 tm=AHs9 l sl of 0 0∧hp= []∧(l.length≤9223372036854775807∧q=idxS (fun x:AskT=>x.sl==sl) l)∧(∀i:Int,q= -1→K (.exit 0) (AHs9 l sl of 0 i) [] b)∧(∀i:Int,0≤q→K .ret (AHs9 l sl of q i) [] b)
theorem BCb9 {Ev:Env prog} (c:Code) (tm:List AV) (hp:List Blk) (b:Ev.β) (K:Exit→List AV→List Blk→Ev.β→Prop) (h:BCc9 c tm hp b K):W Ev c ⟨tm,hp,b⟩ (fun e s=>K e s.tm s.hp s.b):=by
 obtain ⟨l,sl,of,q,rfl,htm,rfl,⟨hl,rfl⟩,hK1,hK2⟩:=h;refine W.cast (htm▸AAb9 _ tm 0) (Zbp _) ?_;exact W.rounds (BZf9 (Q:=fun e s=>K e s.tm s.hp s.b) l sl of hl (fun h i=>hK1 i (ABb9 h)) fun j h=>by have:=hK2 j (by rw [AAj9 h];omega);rwa [AAj9 h] at this)
theorem BEw9 (l:List AskT) (sl:Int) (of:Int):wpFn prog ⟨[], [],BCc9,y,false⟩ 100 f90 [.d (.sl 3 (rowsA l)), .fn (.func 44) [] [.rptr [i64 sl,i64 of]]] b R=(∃(l0:List AskT) (sl1:Int) (of2:Int) (q3:Int),Zat ARs9=Zat ARs9∧(Zae (Zan 3 (rowsA l))::Zax (Fn.func 44) [] [Zag [i64 sl,i64 of]]::Zab::Zab::Zae (i64 0)::Zab::Zab::Zae (i64 ((Zaa (rowsA l):Nat):Int))::Zae (i64 0)::bds 10 [])=(Zae (Zan 3 (rowsA l0))::Zax (Fn.func 44) [] [Zag [i64 sl1,i64 of2]]::Zab::Zab::Zae (i64 0)::Zab::Zab::Zae (i64 ((Zaa l0:Nat):Int))::Zae (i64 0)::bds 10 [])∧([]:List Blk)= []∧(Zaa l0≤9223372036854775807∧q3=idxS (fun (x4:AskT)=>Zcr x4==sl1) l0)∧(∀(i:Int),q3=(-1:Int)→R (.d (i64 (-1))) b)∧∀(i:Int),(0:Int)≤q3→R (.d (i64 q3)) b):=by kernel_rfl
theorem BLd9 (l:List AskT) (sl:Int) (of:Int) (hl:l.length≤9223372036854775807):PCall prog 90 [.d (.sl 3 (rowsA l)), .fn (.func 44) [] [.rptr [i64 sl,i64 of]]] (.d (i64 (idxS (fun x:AskT=>x.sl==sl) l))):=by
 refine Zcu (n:=100) (u:=false) (fun _=>BCc9) mixed Zak Zah (fun Ev=>BCb9) func90 (by rfl) (by rfl) fun Ev bb=> ?_;rw [BEw9,AAn9];exact ⟨l,sl,of,_,rfl,rfl,rfl,⟨hl,rfl⟩,fun i h=>by rw [h],fun i h=>rfl⟩
def BHf9 (args:List AV) (K:AV→Prop):Prop:=∃(l:List AskT) (sl:Int) (of:Int) (q:Int),args= [.d (.sl 3 (rowsA l)), .fn (.func 44) [] [.rptr [i64 sl,i64 of]]]∧(l.length≤9223372036854775807∧q=idxS (fun x:AskT=>x.sl==sl) l)∧K (.d (i64 q))
theorem BAh9:∀args K,BHf9 args K→∃x,PCall prog 90 args x∧K x:=by
 rintro _ K ⟨l,sl,of,_,rfl,⟨hl,rfl⟩,hk⟩;exact ⟨_,BLd9 l sl of hl,hk⟩
def CFv9:List (Nat×(List AV→(AV→Prop)→Prop)):= [(90,BHf9)]
theorem BOy9:AAc9 prog CFv9:=Zaj BAh9 Zak
theorem BGg9 (l:List AskT) (sl:Int) (of:Int):wpFn prog ⟨CFv9, [],wl,y,false⟩ 100 f43 [.d (.sl 3 (rowsA l)), .fn (.func 44) [] [.rptr [i64 sl,i64 of]]] b R=(∃(l0:List AskT) (sl1:Int) (of2:Int) (q3:Int), [Zae (Zan 3 (rowsA l)),Zax (Fn.func 44) [] [Zag [i64 sl,i64 of]]]= [Zae (Zan 3 (rowsA l0)),Zax (Fn.func 44) [] [Zag [i64 sl1,i64 of2]]]∧(Zaa l0≤9223372036854775807∧q3=idxS (fun (x4:AskT)=>Zcr x4==sl1) l0)∧R (.d (bo (decide (q3≥(0:Int))))) b):=by kernel_rfl
theorem BLm9 (l:List AskT) (sl:Int) (of:Int) (hl:l.length≤9223372036854775807):PCall prog 43 [.d (.sl 3 (rowsA l)), .fn (.func 44) [] [.rptr [i64 sl,i64 of]]] (.d (bo (l.any (fun x:AskT=>x.sl==sl)))):=by
 refine Zbf (n:=100) (u:=false) mixed BOy9 Zah func43 (by rfl) (by rfl) fun Ev bb=> ?_;rw [BGg9];exact ⟨l,sl,of,_,rfl,⟨hl,rfl⟩,by rw [AFn9]⟩
def BHs9 (args:List AV) (K:AV→Prop):Prop:=∃(l:List AskT) (sl:Int) (of:Int) (q:Bool),args= [.d (.sl 3 (rowsA l)), .fn (.func 44) [] [.rptr [i64 sl,i64 of]]]∧(l.length≤9223372036854775807∧q=l.any (fun x:AskT=>x.sl==sl))∧K (.d (bo q))
theorem ANx9:∀args K,BHs9 args K→∃x,PCall prog 43 args x∧K x:=by
 rintro _ K ⟨l,sl,of,_,rfl,⟨hl,rfl⟩,hk⟩;exact ⟨_,BLm9 l sl of hl,hk⟩
theorem BGk9 (x:UseT) (sl:Int) (of:Int) (s:SideT):wpFn prog ⟨[], [],wl,y,false⟩ 100 f99 ([useA x]++ [.rptr [i64 sl,i64 of], .rptr [.pt (sideD s)]]) b R=(BIf (Zcy x==sl&&(Zek x==of&&true)) (R (.d (bo (Zgk x==SideT.me s))) b) (R (.d (bo false)) b)):=by kernel_rfl
theorem BLp9 (x:UseT) (sl:Int) (of:Int) (s:SideT):PCall prog 99 ([useA x]++ [.rptr [i64 sl,i64 of], .rptr [.pt (sideD s)]]) (.d (bo ((fun x:UseT=>(x.sl==sl&&x.of==of)&&x.pe==s.me) x))):=by
 refine Zbf (n:=100) (u:=false) mixed Zak Zah func99 (by rfl) (by rfl) fun Ev bb=> ?_;rw [BGk9];have e:(x.sl==sl&&(x.of==of&&true))=(x.sl==sl&&x.of==of):=by simp
 rw [e];refine Zba (fun h=> ?_) fun h=> ?_
 ·simp only [h,Zey]<;>rfl
 ·simp only [h,Zcj]
def BIa9 (args:List AV) (K:AV→Prop):Prop:=∃(x:UseT) (sl:Int) (of:Int) (s:SideT) (q:Bool),args= [useA x]++ [.rptr [i64 sl,i64 of], .rptr [.pt (sideD s)]]∧(q=(fun x:UseT=>(x.sl==sl&&x.of==of)&&x.pe==s.me) x)∧K (.d (bo q))
theorem BAs9:∀args K,BIa9 args K→∃x,PCall prog 99 args x∧K x:=by
 rintro _ K ⟨x,sl,of,s,_,rfl,rfl,hk⟩;exact ⟨_,BLp9 x sl of s,hk⟩
def BJf9:List (Nat×(List AV→(AV→Prop)→Prop)):= [(99,BIa9)]
theorem BJe9:AAc9 prog BJf9:=Zaj BAs9 Zak
noncomputable def ALw9:Code:=sub [1,0,1,2,3] (code f133)
def AFf9 (l:List UseT) (sl:Int) (of:Int) (s:SideT) (q i:Int):List AV:= [.d (.sl 4 (rowsU l)), .fn (.func 99) [] [.rptr [i64 sl,i64 of], .rptr [.pt (sideD s)]], .bad, .bad, .d (i64 q), .bad, .bad, .d (i64 l.length), .d (i64 i)]++Zap 10 .bad
theorem BPh9 (l:List UseT) (sl:Int) (of:Int) (s:SideT) (i:Int):wpc prog ⟨BJf9, [],wl,y,false⟩ 100 ALw9 (AFf9 l sl of s 0 i) [] b (maskK 0 [0,1,4,7,8] K)=(BIf (decide (i<((Zaa l:Nat):Int))) (BIf (true&&decide (0≤i)) (∃(x0:Int) (x1:Int) (x2:Int) (x3:Int),(rowsU l)[Zam i]? =some [i64 x0,i64 x1,i64 x2,i64 x3]∧∃(x6:UseT) (sl7:Int) (of8:Int) (s9:SideT) (q10:Bool), [Zaq (Qz37 x0 x1 x2 x3),Zag [i64 sl,i64 of],Zag [Dv.pt (Qz2 s)]]= [Zaq (Qz7 x6),Zag [i64 sl7,i64 of8],Zag [Dv.pt (Qz2 s9)]]∧q10=(Zcy x6==sl7&&Zek x6==of8&&Zgk x6==SideT.me s9)∧BIf q10 (K .ret (Zae (Zan 4 (rowsU l))::Zax (Fn.func 99) [] (Qz23 sl of s)::Zab::Zab::Zae (i64 i)::Zab::Zab::Zae (i64 ((Zaa l:Nat):Int))::Zae (i64 i)::bds 10 []) [] b) (K .normal (Zae (Zan 4 (rowsU l))::Zax (Fn.func 99) [] (Qz23 sl of s)::Zab::Zab::Zae (i64 0)::Zab::Zab::Zae (i64 ((Zaa l:Nat):Int))::Zae (i64 (Zad .i64 (i+1)))::bds 10 []) [] b)) False) (K (Zbj 0) (Zae (Zan 4 (rowsU l))::Zax (Fn.func 99) [] (Qz23 sl of s)::Zab::Zab::Zae (i64 0)::Zab::Zab::Zae (i64 ((Zaa l:Nat):Int))::Zae (i64 i)::bds 10 []) [] b)):=by kernel_rfl
theorem BSe9 {Ev:Env prog} {b:Ev.β} {Q:Exit→St Ev.β→Prop} (l:List UseT) (sl:Int) (of:Int) (s:SideT) (hl:l.length≤9223372036854775807) (h1:l.findIdx? (fun x:UseT=>(x.sl==sl&&x.of==of)&&x.pe==s.me)=none→∀i:Int,Q (.exit 0) ⟨AFf9 l sl of s 0 i, [],b⟩) (h2:∀j:Nat,l.findIdx? (fun x:UseT=>(x.sl==sl&&x.of==of)&&x.pe==s.me)=some j→Q .ret ⟨AFf9 l sl of s j j, [],b⟩):
 WR Ev ALw9 (l.length+1) ⟨AFf9 l sl of s 0 (0:Nat), [],b⟩ Q:=by
 refine WR.findL (X:=⟨BJf9, [],wlW Ev,Ev.Y,false⟩) (k:=100) [0,1,4,7,8] mixed (CX.Ok.of BJe9 Zah) l (fun x:UseT=>(x.sl==sl&&x.of==of)&&x.pe==s.me) (fun i=>AFf9 l sl of s 0 (i:Nat)) (fun i=>AFf9 l sl of s (i:Nat) (i:Nat)) [] 0 (fun i x hi hxi K k1 k2=> ?_) (fun K k1=> ?_) (fun h=>h1 h _) h2
 ·refine Eq.mpr (BPh9 _ _ _ K l sl of s i) ?_;rw [ACb9 hxi];refine Zaz (by simp;omega) (Zaz (natI i) ⟨_,_,_,_,rfl,x,sl,of,s,_,rfl,rfl,Zba (fun g=>k1 g) fun g=> ?_⟩);rw [wrapN (by omega)];exact k2 g
 ·refine Eq.mpr (BPh9 _ _ _ K l sl of s _) ?_;exact Zda (by simp) k1
def ATp9 {β:Type}:WLT β:=fun cd tm hp b K=>∃(l:List UseT) (sl:Int) (of:Int) (s:SideT) (q:Int),cd= .loop ALw9∧AAv9 [0,1,4,7,8] 0 tm=AFf9 l sl of s 0 0∧hp= []∧(l.length≤9223372036854775807∧q=idxS (fun x:UseT=>(x.sl==sl&&x.of==of)&&x.pe==s.me) l)∧(∀i:Int,q= -1→K (.exit 0) (AFf9 l sl of s 0 i) [] b)∧(∀i:Int,0≤q→K .ret (AFf9 l sl of s q i) [] b)
theorem AYk9 {Ev:Env prog} (c:Code) (tm:List AV) (hp:List Blk) (b:Ev.β) (K:Exit→List AV→List Blk→Ev.β→Prop) (h:ATp9 c tm hp b K):W Ev c ⟨tm,hp,b⟩ (fun e s=>K e s.tm s.hp s.b):=by
 obtain ⟨l,sl,of,s,q,rfl,htm,rfl,⟨hl,rfl⟩,hK1,hK2⟩:=h;refine W.cast (htm▸AAb9 _ tm 0) (Zbp _) ?_;exact W.rounds (BSe9 (Q:=fun e s=>K e s.tm s.hp s.b) l sl of s hl (fun h i=>hK1 i (ABb9 h)) fun j h=>by have:=hK2 j (by rw [AAj9 h];omega);rwa [AAj9 h] at this)
theorem AZp9 (l:List UseT) (sl:Int) (of:Int) (s:SideT):wpFn prog ⟨[], [],ATp9,y,false⟩ 100 f133 [.d (.sl 4 (rowsU l)), .fn (.func 99) [] [.rptr [i64 sl,i64 of], .rptr [.pt (sideD s)]]] b R=(∃(l0:List UseT) (sl1:Int) (of2:Int) (s3:SideT) (q4:Int),Zat ALw9=Zat ALw9∧(Zae (Zan 4 (rowsU l))::Zax (Fn.func 99) [] (Qz23 sl of s)::Zab::Zab::Zae (i64 0)::Zab::Zab::Zae (i64 ((Zaa (rowsU l):Nat):Int))::Zae (i64 0)::bds 10 [])=(Zae (Zan 4 (rowsU l0))::Zax (Fn.func 99) [] (Qz23 sl1 of2 s3)::Zab::Zab::Zae (i64 0)::Zab::Zab::Zae (i64 ((Zaa l0:Nat):Int))::Zae (i64 0)::bds 10 [])∧([]:List Blk)= []∧(Zaa l0≤9223372036854775807∧q4=idxS (fun (x5:UseT)=>Zcy x5==sl1&&Zek x5==of2&&Zgk x5==SideT.me s3) l0)∧(∀(i:Int),q4=(-1:Int)→R (.d (i64 (-1))) b)∧∀(i:Int),(0:Int)≤q4→R (.d (i64 q4)) b):=by kernel_rfl
theorem BEc9 (l:List UseT) (sl:Int) (of:Int) (s:SideT) (hl:l.length≤9223372036854775807):PCall prog 133 [.d (.sl 4 (rowsU l)), .fn (.func 99) [] [.rptr [i64 sl,i64 of], .rptr [.pt (sideD s)]]] (.d (i64 (idxS (fun x:UseT=>(x.sl==sl&&x.of==of)&&x.pe==s.me) l))):=by
 refine Zcu (n:=100) (u:=false) (fun _=>ATp9) mixed Zak Zah (fun Ev=>AYk9) func133 (by rfl) (by rfl) fun Ev bb=> ?_;rw [AZp9,AAh9];exact ⟨l,sl,of,s,_,rfl,rfl,rfl,⟨hl,rfl⟩,fun i h=>by rw [h],fun i h=>rfl⟩
def AXh9 (args:List AV) (K:AV→Prop):Prop:=∃(l:List UseT) (sl:Int) (of:Int) (s:SideT) (q:Int),args= [.d (.sl 4 (rowsU l)), .fn (.func 99) [] [.rptr [i64 sl,i64 of], .rptr [.pt (sideD s)]]]∧(l.length≤9223372036854775807∧q=idxS (fun x:UseT=>(x.sl==sl&&x.of==of)&&x.pe==s.me) l)∧K (.d (i64 q))
theorem AUy9:∀args K,AXh9 args K→∃x,PCall prog 133 args x∧K x:=by
 rintro _ K ⟨l,sl,of,s,_,rfl,⟨hl,rfl⟩,hk⟩;exact ⟨_,BEc9 l sl of s hl,hk⟩
def BRq9:List (Nat×(List AV→(AV→Prop)→Prop)):= [(133,AXh9)]
theorem BJp9:AAc9 prog BRq9:=Zaj AUy9 Zak
theorem BAc9 (l:List UseT) (sl:Int) (of:Int) (s:SideT):wpFn prog ⟨BRq9, [],wl,y,false⟩ 100 f98 [.d (.sl 4 (rowsU l)), .fn (.func 99) [] [.rptr [i64 sl,i64 of], .rptr [.pt (sideD s)]]] b R=(∃(l0:List UseT) (sl1:Int) (of2:Int) (s3:SideT) (q4:Int), [Zae (Zan 4 (rowsU l)),Zax (Fn.func 99) [] (Qz23 sl of s)]= [Zae (Zan 4 (rowsU l0)),Zax (Fn.func 99) [] (Qz23 sl1 of2 s3)]∧(Zaa l0≤9223372036854775807∧q4=idxS (fun (x5:UseT)=>Zcy x5==sl1&&Zek x5==of2&&Zgk x5==SideT.me s3) l0)∧R (.d (bo (decide (q4≥(0:Int))))) b):=by kernel_rfl
theorem BEj9 (l:List UseT) (sl:Int) (of:Int) (s:SideT) (hl:l.length≤9223372036854775807):PCall prog 98 [.d (.sl 4 (rowsU l)), .fn (.func 99) [] [.rptr [i64 sl,i64 of], .rptr [.pt (sideD s)]]] (.d (bo (l.any (fun x:UseT=>(x.sl==sl&&x.of==of)&&x.pe==s.me)))):=by
 refine Zbf (n:=100) (u:=false) mixed BJp9 Zah func98 (by rfl) (by rfl) fun Ev bb=> ?_;rw [BAc9];exact ⟨l,sl,of,s,_,rfl,⟨hl,rfl⟩,by rw [AFn9]⟩
def AXq9 (args:List AV) (K:AV→Prop):Prop:=∃(l:List UseT) (sl:Int) (of:Int) (s:SideT) (q:Bool),args= [.d (.sl 4 (rowsU l)), .fn (.func 99) [] [.rptr [i64 sl,i64 of], .rptr [.pt (sideD s)]]]∧(l.length≤9223372036854775807∧q=l.any (fun x:UseT=>(x.sl==sl&&x.of==of)&&x.pe==s.me))∧K (.d (bo q))
theorem AVg9:∀args K,AXq9 args K→∃x,PCall prog 98 args x∧K x:=by
 rintro _ K ⟨l,sl,of,s,_,rfl,⟨hl,rfl⟩,hk⟩;exact ⟨_,BEj9 l sl of s hl,hk⟩
theorem BGm9 (x:UseT) (sl:Int) (of:Int):wpFn prog ⟨[], [],wl,y,false⟩ 100 f102 ([useA x]++ [.rptr [i64 sl,i64 of]]) b R=(R (Zae (bo (Zcy x==sl&&(Zek x==of&&true)))) b):=by kernel_rfl
theorem BLr9 (x:UseT) (sl:Int) (of:Int):PCall prog 102 ([useA x]++ [.rptr [i64 sl,i64 of]]) (.d (bo ((fun x:UseT=>(x.sl==sl&&x.of==of)) x))):=by
 refine Zbf (n:=100) (u:=false) mixed Zak Zah func102 (by rfl) (by rfl) fun Ev bb=> ?_;rw [BGm9];simp
def BIn9 (args:List AV) (K:AV→Prop):Prop:=∃(x:UseT) (sl:Int) (of:Int) (q:Bool),args= [useA x]++ [.rptr [i64 sl,i64 of]]∧(q=(fun x:UseT=>(x.sl==sl&&x.of==of)) x)∧K (.d (bo q))
theorem BAu9:∀args K,BIn9 args K→∃x,PCall prog 102 args x∧K x:=by
 rintro _ K ⟨x,sl,of,_,rfl,rfl,hk⟩;exact ⟨_,BLr9 x sl of,hk⟩
def BJj9:List (Nat×(List AV→(AV→Prop)→Prop)):= [(102,BIn9)]
theorem BJi9:AAc9 prog BJj9:=Zaj BAu9 Zak
noncomputable def ALy9:Code:=sub [1,0,1,2,3] (code f133)
def AFh9 (l:List UseT) (sl:Int) (of:Int) (q i:Int):List AV:= [.d (.sl 4 (rowsU l)), .fn (.func 102) [] [.rptr [i64 sl,i64 of]], .bad, .bad, .d (i64 q), .bad, .bad, .d (i64 l.length), .d (i64 i)]++Zap 10 .bad
theorem BPj9 (l:List UseT) (sl:Int) (of:Int) (i:Int):wpc prog ⟨BJj9, [],wl,y,false⟩ 100 ALy9 (AFh9 l sl of 0 i) [] b (maskK 0 [0,1,4,7,8] K)=(BIf (decide (i<((Zaa l:Nat):Int))) (BIf (true&&decide (0≤i)) (∃(x0:Int) (x1:Int) (x2:Int) (x3:Int),(rowsU l)[Zam i]? =some [i64 x0,i64 x1,i64 x2,i64 x3]∧∃(x6:UseT) (sl7:Int) (of8:Int) (q9:Bool), [Zaq (Qz37 x0 x1 x2 x3),Zag [i64 sl,i64 of]]= [Zaq (Qz7 x6),Zag [i64 sl7,i64 of8]]∧q9=(Zcy x6==sl7&&Zek x6==of8)∧BIf q9 (K .ret (Zae (Zan 4 (rowsU l))::Zax (Fn.func 102) [] [Zag [i64 sl,i64 of]]::Zab::Zab::Zae (i64 i)::Zab::Zab::Zae (i64 ((Zaa l:Nat):Int))::Zae (i64 i)::bds 10 []) [] b) (K .normal (Zae (Zan 4 (rowsU l))::Zax (Fn.func 102) [] [Zag [i64 sl,i64 of]]::Zab::Zab::Zae (i64 0)::Zab::Zab::Zae (i64 ((Zaa l:Nat):Int))::Zae (i64 (Zad .i64 (i+1)))::bds 10 []) [] b)) False) (K (Zbj 0) (Zae (Zan 4 (rowsU l))::Zax (Fn.func 102) [] [Zag [i64 sl,i64 of]]::Zab::Zab::Zae (i64 0)::Zab::Zab::Zae (i64 ((Zaa l:Nat):Int))::Zae (i64 i)::bds 10 []) [] b)):=by kernel_rfl
theorem BSg9 {Ev:Env prog} {b:Ev.β} {Q:Exit→St Ev.β→Prop} (l:List UseT) (sl:Int) (of:Int) (hl:l.length≤9223372036854775807) (h1:l.findIdx? (fun x:UseT=>(x.sl==sl&&x.of==of))=none→∀i:Int,Q (.exit 0) ⟨AFh9 l sl of 0 i, [],b⟩) (h2:∀j:Nat,l.findIdx? (fun x:UseT=>(x.sl==sl&&x.of==of))=some j→Q .ret ⟨AFh9 l sl of j j, [],b⟩):
 WR Ev ALy9 (l.length+1) ⟨AFh9 l sl of 0 (0:Nat), [],b⟩ Q:=by
 refine WR.findL (X:=⟨BJj9, [],wlW Ev,Ev.Y,false⟩) (k:=100) [0,1,4,7,8] mixed (CX.Ok.of BJi9 Zah) l (fun x:UseT=>(x.sl==sl&&x.of==of)) (fun i=>AFh9 l sl of 0 (i:Nat)) (fun i=>AFh9 l sl of (i:Nat) (i:Nat)) [] 0 (fun i x hi hxi K k1 k2=> ?_) (fun K k1=> ?_) (fun h=>h1 h _) h2
 ·refine Eq.mpr (BPj9 _ _ _ K l sl of i) ?_;rw [ACb9 hxi];refine Zaz (by simp;omega) (Zaz (natI i) ⟨_,_,_,_,rfl,x,sl,of,_,rfl,rfl,Zba (fun g=>k1 g) fun g=> ?_⟩);rw [wrapN (by omega)];exact k2 g
 ·refine Eq.mpr (BPj9 _ _ _ K l sl of _) ?_;exact Zda (by simp) k1
def ATr9 {β:Type}:WLT β:=fun cd tm hp b K=>∃(l:List UseT) (sl:Int) (of:Int) (q:Int),cd= .loop ALy9∧AAv9 [0,1,4,7,8] 0 tm=AFh9 l sl of 0 0∧hp= []∧(l.length≤9223372036854775807∧q=idxS (fun x:UseT=>(x.sl==sl&&x.of==of)) l)∧(∀i:Int,q= -1→K (.exit 0) (AFh9 l sl of 0 i) [] b)∧(∀i:Int,0≤q→K .ret (AFh9 l sl of q i) [] b)
theorem AYm9 {Ev:Env prog} (c:Code) (tm:List AV) (hp:List Blk) (b:Ev.β) (K:Exit→List AV→List Blk→Ev.β→Prop) (h:ATr9 c tm hp b K):W Ev c ⟨tm,hp,b⟩ (fun e s=>K e s.tm s.hp s.b):=by
 obtain ⟨l,sl,of,q,rfl,htm,rfl,⟨hl,rfl⟩,hK1,hK2⟩:=h;refine W.cast (htm▸AAb9 _ tm 0) (Zbp _) ?_;exact W.rounds (BSg9 (Q:=fun e s=>K e s.tm s.hp s.b) l sl of hl (fun h i=>hK1 i (ABb9 h)) fun j h=>by have:=hK2 j (by rw [AAj9 h];omega);rwa [AAj9 h] at this)
theorem AZr9 (l:List UseT) (sl:Int) (of:Int):wpFn prog ⟨[], [],ATr9,y,false⟩ 100 f133 [.d (.sl 4 (rowsU l)), .fn (.func 102) [] [.rptr [i64 sl,i64 of]]] b R=(∃(l0:List UseT) (sl1:Int) (of2:Int) (q3:Int),Zat ALy9=Zat ALy9∧(Zae (Zan 4 (rowsU l))::Zax (Fn.func 102) [] [Zag [i64 sl,i64 of]]::Zab::Zab::Zae (i64 0)::Zab::Zab::Zae (i64 ((Zaa (rowsU l):Nat):Int))::Zae (i64 0)::bds 10 [])=(Zae (Zan 4 (rowsU l0))::Zax (Fn.func 102) [] [Zag [i64 sl1,i64 of2]]::Zab::Zab::Zae (i64 0)::Zab::Zab::Zae (i64 ((Zaa l0:Nat):Int))::Zae (i64 0)::bds 10 [])∧([]:List Blk)= []∧(Zaa l0≤9223372036854775807∧q3=idxS (fun (x4:UseT)=>Zcy x4==sl1&&Zek x4==of2) l0)∧(∀(i:Int),q3=(-1:Int)→R (.d (i64 (-1))) b)∧∀(i:Int),(0:Int)≤q3→R (.d (i64 q3)) b):=by kernel_rfl
theorem BEe9 (l:List UseT) (sl:Int) (of:Int) (hl:l.length≤9223372036854775807):PCall prog 133 [.d (.sl 4 (rowsU l)), .fn (.func 102) [] [.rptr [i64 sl,i64 of]]] (.d (i64 (idxS (fun x:UseT=>(x.sl==sl&&x.of==of)) l))):=by
 refine Zcu (n:=100) (u:=false) (fun _=>ATr9) mixed Zak Zah (fun Ev=>AYm9) func133 (by rfl) (by rfl) fun Ev bb=> ?_;rw [AZr9,AAh9];exact ⟨l,sl,of,_,rfl,rfl,rfl,⟨hl,rfl⟩,fun i h=>by rw [h],fun i h=>rfl⟩
def AXj9 (args:List AV) (K:AV→Prop):Prop:=∃(l:List UseT) (sl:Int) (of:Int) (q:Int),args= [.d (.sl 4 (rowsU l)), .fn (.func 102) [] [.rptr [i64 sl,i64 of]]]∧(l.length≤9223372036854775807∧q=idxS (fun x:UseT=>(x.sl==sl&&x.of==of)) l)∧K (.d (i64 q))
theorem AVa9:∀args K,AXj9 args K→∃x,PCall prog 133 args x∧K x:=by
 rintro _ K ⟨l,sl,of,_,rfl,⟨hl,rfl⟩,hk⟩;exact ⟨_,BEe9 l sl of hl,hk⟩
def BRr9:List (Nat×(List AV→(AV→Prop)→Prop)):= [(133,AXj9)]
theorem BJq9:AAc9 prog BRr9:=Zaj AVa9 Zak
theorem BAd9 (l:List UseT) (sl:Int) (of:Int):wpFn prog ⟨BRr9, [],wl,y,false⟩ 100 f98 [.d (.sl 4 (rowsU l)), .fn (.func 102) [] [.rptr [i64 sl,i64 of]]] b R=(∃(l0:List UseT) (sl1:Int) (of2:Int) (q3:Int), [Zae (Zan 4 (rowsU l)),Zax (Fn.func 102) [] [Zag [i64 sl,i64 of]]]= [Zae (Zan 4 (rowsU l0)),Zax (Fn.func 102) [] [Zag [i64 sl1,i64 of2]]]∧(Zaa l0≤9223372036854775807∧q3=idxS (fun (x4:UseT)=>Zcy x4==sl1&&Zek x4==of2) l0)∧R (.d (bo (decide (q3≥(0:Int))))) b):=by kernel_rfl
theorem BEk9 (l:List UseT) (sl:Int) (of:Int) (hl:l.length≤9223372036854775807):PCall prog 98 [.d (.sl 4 (rowsU l)), .fn (.func 102) [] [.rptr [i64 sl,i64 of]]] (.d (bo (l.any (fun x:UseT=>(x.sl==sl&&x.of==of))))):=by
 refine Zbf (n:=100) (u:=false) mixed BJq9 Zah func98 (by rfl) (by rfl) fun Ev bb=> ?_;rw [BAd9];exact ⟨l,sl,of,_,rfl,⟨hl,rfl⟩,by rw [AFn9]⟩
def AXr9 (args:List AV) (K:AV→Prop):Prop:=∃(l:List UseT) (sl:Int) (of:Int) (q:Bool),args= [.d (.sl 4 (rowsU l)), .fn (.func 102) [] [.rptr [i64 sl,i64 of]]]∧(l.length≤9223372036854775807∧q=l.any (fun x:UseT=>(x.sl==sl&&x.of==of)))∧K (.d (bo q))
theorem AVh9:∀args K,AXr9 args K→∃x,PCall prog 98 args x∧K x:=by
 rintro _ K ⟨l,sl,of,_,rfl,⟨hl,rfl⟩,hk⟩;exact ⟨_,BEk9 l sl of hl,hk⟩
theorem BGl9 (x:GraT) (u:UseT):wpFn prog ⟨[], [],wl,y,false⟩ 100 f55 ([graA x]++ [.rptr [i64 u.sl,i64 u.of,i64 u.pe,i64 u.st]]) b R=(R (Zae (bo (Zdg x==Zcy u&&(Zfe x==Zek u&&true)))) b):=by kernel_rfl
theorem BLq9 (x:GraT) (u:UseT):PCall prog 55 ([graA x]++ [.rptr [i64 u.sl,i64 u.of,i64 u.pe,i64 u.st]]) (.d (bo ((fun x:GraT=>x.sl==u.sl&&x.of==u.of) x))):=by
 refine Zbf (n:=100) (u:=false) mixed Zak Zah func55 (by rfl) (by rfl) fun Ev bb=> ?_;rw [BGl9];simp
def BIb9 (args:List AV) (K:AV→Prop):Prop:=∃(x:GraT) (u:UseT) (q:Bool),args= [graA x]++ [.rptr [i64 u.sl,i64 u.of,i64 u.pe,i64 u.st]]∧(q=(fun x:GraT=>x.sl==u.sl&&x.of==u.of) x)∧K (.d (bo q))
theorem BAt9:∀args K,BIb9 args K→∃x,PCall prog 55 args x∧K x:=by
 rintro _ K ⟨x,u,_,rfl,rfl,hk⟩;exact ⟨_,BLq9 x u,hk⟩
def BJh9:List (Nat×(List AV→(AV→Prop)→Prop)):= [(55,BIb9)]
theorem BJg9:AAc9 prog BJh9:=Zaj BAt9 Zak
noncomputable def ALx9:Code:=sub [1,0,1,2,3] (code f54)
def AFg9 (l:List GraT) (u:UseT) (q i:Int):List AV:= [.d (.sl 5 (rowsG l)), .fn (.func 55) [] [.rptr [i64 u.sl,i64 u.of,i64 u.pe,i64 u.st]], .bad, .bad, .d (i64 q), .bad, .bad, .d (i64 l.length), .d (i64 i)]++Zap 10 .bad
theorem BPi9 (l:List GraT) (u:UseT) (i:Int):wpc prog ⟨BJh9, [],wl,y,false⟩ 100 ALx9 (AFg9 l u 0 i) [] b (maskK 0 [0,1,4,7,8] K)=(BIf (decide (i<((Zaa l:Nat):Int))) (BIf (true&&decide (0≤i)) (∃(x0:Int) (x1:Int) (x2:Int) (x3:Int) (x4:Int),(rowsG l)[Zam i]? =some (Qz41 x0 x1 x2 x3 x4)∧∃(x7:GraT) (u8:UseT) (q9:Bool), [Zaq (Qz22 x0 x1 x2 x3 x4),Zag (Qz14 u)]= [Zaq (Qz5 x7),Zag (Qz14 u8)]∧q9=(Zdg x7==Zcy u8&&Zfe x7==Zek u8)∧BIf q9 (K .ret (Zae (Zan 5 (rowsG l))::Zax (Fn.func 55) [] [Zag (Qz14 u)]::Zab::Zab::Zae (i64 i)::Zab::Zab::Zae (i64 ((Zaa l:Nat):Int))::Zae (i64 i)::bds 10 []) [] b) (K .normal (Zae (Zan 5 (rowsG l))::Zax (Fn.func 55) [] [Zag (Qz14 u)]::Zab::Zab::Zae (i64 0)::Zab::Zab::Zae (i64 ((Zaa l:Nat):Int))::Zae (i64 (Zad .i64 (i+1)))::bds 10 []) [] b)) False) (K (Zbj 0) (Zae (Zan 5 (rowsG l))::Zax (Fn.func 55) [] [Zag (Qz14 u)]::Zab::Zab::Zae (i64 0)::Zab::Zab::Zae (i64 ((Zaa l:Nat):Int))::Zae (i64 i)::bds 10 []) [] b)):=by kernel_rfl
theorem BSf9 {Ev:Env prog} {b:Ev.β} {Q:Exit→St Ev.β→Prop} (l:List GraT) (u:UseT) (hl:l.length≤9223372036854775807) (h1:l.findIdx? (fun x:GraT=>x.sl==u.sl&&x.of==u.of)=none→∀i:Int,Q (.exit 0) ⟨AFg9 l u 0 i, [],b⟩) (h2:∀j:Nat,l.findIdx? (fun x:GraT=>x.sl==u.sl&&x.of==u.of)=some j→Q .ret ⟨AFg9 l u j j, [],b⟩):
 WR Ev ALx9 (l.length+1) ⟨AFg9 l u 0 (0:Nat), [],b⟩ Q:=by
 refine WR.findL (X:=⟨BJh9, [],wlW Ev,Ev.Y,false⟩) (k:=100) [0,1,4,7,8] mixed (CX.Ok.of BJg9 Zah) l (fun x:GraT=>x.sl==u.sl&&x.of==u.of) (fun i=>AFg9 l u 0 (i:Nat)) (fun i=>AFg9 l u (i:Nat) (i:Nat)) [] 0 (fun i x hi hxi K k1 k2=> ?_) (fun K k1=> ?_) (fun h=>h1 h _) h2
 ·refine Eq.mpr (BPi9 _ _ _ K l u i) ?_;rw [ABj9 hxi];refine Zaz (by simp;omega) (Zaz (natI i) ⟨_,_,_,_,_,rfl,x,u,_,rfl,rfl,Zba (fun g=>k1 g) fun g=> ?_⟩);rw [wrapN (by omega)];exact k2 g
 ·refine Eq.mpr (BPi9 _ _ _ K l u _) ?_;exact Zda (by simp) k1
def ATq9 {β:Type}:WLT β:=fun cd tm hp b K=>∃(l:List GraT) (u:UseT) (q:Int),cd= .loop ALx9∧AAv9 [0,1,4,7,8] 0 tm=AFg9 l u 0 0∧hp= []∧(l.length≤9223372036854775807∧q=idxS (fun x:GraT=>x.sl==u.sl&&x.of==u.of) l)∧(∀i:Int,q= -1→K (.exit 0) (AFg9 l u 0 i) [] b)∧(∀i:Int,0≤q→K .ret (AFg9 l u q i) [] b)
theorem AYl9 {Ev:Env prog} (c:Code) (tm:List AV) (hp:List Blk) (b:Ev.β) (K:Exit→List AV→List Blk→Ev.β→Prop) (h:ATq9 c tm hp b K):W Ev c ⟨tm,hp,b⟩ (fun e s=>K e s.tm s.hp s.b):=by
 obtain ⟨l,u,q,rfl,htm,rfl,⟨hl,rfl⟩,hK1,hK2⟩:=h;refine W.cast (htm▸AAb9 _ tm 0) (Zbp _) ?_;exact W.rounds (BSf9 (Q:=fun e s=>K e s.tm s.hp s.b) l u hl (fun h i=>hK1 i (ABb9 h)) fun j h=>by have:=hK2 j (by rw [AAj9 h];omega);rwa [AAj9 h] at this)
theorem AZq9 (l:List GraT) (u:UseT):wpFn prog ⟨[], [],ATq9,y,false⟩ 100 f54 [.d (.sl 5 (rowsG l)), .fn (.func 55) [] [.rptr [i64 u.sl,i64 u.of,i64 u.pe,i64 u.st]]] b R=(∃(l0:List GraT) (u1:UseT) (q2:Int),Zat ALx9=Zat ALx9∧(Zae (Zan 5 (rowsG l))::Zax (Fn.func 55) [] [Zag (Qz14 u)]::Zab::Zab::Zae (i64 0)::Zab::Zab::Zae (i64 ((Zaa (rowsG l):Nat):Int))::Zae (i64 0)::bds 10 [])=(Zae (Zan 5 (rowsG l0))::Zax (Fn.func 55) [] [Zag (Qz14 u1)]::Zab::Zab::Zae (i64 0)::Zab::Zab::Zae (i64 ((Zaa l0:Nat):Int))::Zae (i64 0)::bds 10 [])∧([]:List Blk)= []∧(Zaa l0≤9223372036854775807∧q2=idxS (fun (x3:GraT)=>Zdg x3==Zcy u1&&Zfe x3==Zek u1) l0)∧(∀(i:Int),q2=(-1:Int)→R (.d (i64 (-1))) b)∧∀(i:Int),(0:Int)≤q2→R (.d (i64 q2)) b):=by kernel_rfl
theorem BEd9 (l:List GraT) (u:UseT) (hl:l.length≤9223372036854775807):PCall prog 54 [.d (.sl 5 (rowsG l)), .fn (.func 55) [] [.rptr [i64 u.sl,i64 u.of,i64 u.pe,i64 u.st]]] (.d (i64 (idxS (fun x:GraT=>x.sl==u.sl&&x.of==u.of) l))):=by
 refine Zcu (n:=100) (u:=false) (fun _=>ATq9) mixed Zak Zah (fun Ev=>AYl9) func54 (by rfl) (by rfl) fun Ev bb=> ?_;rw [AZq9,AAf9];exact ⟨l,u,_,rfl,rfl,rfl,⟨hl,rfl⟩,fun i h=>by rw [h],fun i h=>rfl⟩
def AXi9 (args:List AV) (K:AV→Prop):Prop:=∃(l:List GraT) (u:UseT) (q:Int),args= [.d (.sl 5 (rowsG l)), .fn (.func 55) [] [.rptr [i64 u.sl,i64 u.of,i64 u.pe,i64 u.st]]]∧(l.length≤9223372036854775807∧q=idxS (fun x:GraT=>x.sl==u.sl&&x.of==u.of) l)∧K (.d (i64 q))
theorem AUz9:∀args K,AXi9 args K→∃x,PCall prog 54 args x∧K x:=by
 rintro _ K ⟨l,u,_,rfl,⟨hl,rfl⟩,hk⟩;exact ⟨_,BEd9 l u hl,hk⟩
end Go.Proofs.YthcbbmnjikhihaaGreat.Am