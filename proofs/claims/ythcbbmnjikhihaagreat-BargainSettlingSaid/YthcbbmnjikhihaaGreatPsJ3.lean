import Derived.Test.YthcbbmnjikhihaaGreatPsJ2
import Derived.Maps.Range
import Derived.Test.YthcbbmnjikhihaaGreatProg
set_option linter.unusedSimpArgs false
set_option linter.unusedVariables false
namespace Go.Proofs.YthcbbmnjikhihaaGreat.Am
open Go Go.RowKit Tryz
open AV renaming agg → Zao, bad → Zad, d → Zab, fn → Zat, ptr → Zak, rptr → Zag
open _root_.Array renaming getElem?_eq_some_iff → Zam
open BIf renaming f → Zdl, of → Zbh, t → Zbg
open BitVec renaming ofInt → Zeg
open Bool renaming and_eq_true → Zaj, false_and → Zdk, or_eq_true → Zdp
open AAb9 renaming cons → Zai, nil → Zal
open Go.Code renaming loop → Zaz
open Dv renaming s → Zdc, sl → Zaf
open Go.Exit renaming exit → Zbv
open Int renaming toNat → Zav
open Go.IntKind renaming i64 → Zay, wrap → Zae
open LeH renaming refl → Zce
open List renaming all_eq_true → Zbd, any → Zed, length → Zaa, length_cons → Zei, mem_map → Zbb, mem_range → Zcd, range → Zbk, replicate → Zaq
open MStep renaming refl → Zfa
open Nat renaming eq_of_beq_eq_true → Zca, le_refl → Zau, lt_or_ge → Zda
open PCall renaming ofFn → Zbe, ofFnW → Zdy
open Go.Region renaming ready → Zdr
open AAk9 renaming nil → Zah
open Go.Value renaming map → Zbm, pointer → Zcf
open WR renaming ofMask → Zdw
open Go.World renaming putObj_heap_other → Zcj
variable {β:Type} (wl:WLT β) (y:ACv9 β) (b:β) (R:AV→β→Prop) (Kr:AV→List Blk→β→Prop) (K:Exit→List AV→List Blk→β→Prop) (Kh:Exit→List Blk→β→Prop) (Q:β→Prop)
open AV (bad)
set_option linter.unusedVariables false
open Go.Maps (Keyed)
variable {β:Type} (wl:WLT β) (y:ACv9 β) (b:β) (R:AV→β→Prop) (Kr:AV→List Blk→β→Prop) (K:Exit→List AV→List Blk→β→Prop) (Kh:Exit→List Blk→β→Prop) (Q:β→Prop)
open Go.WideElems (Fit rd rg pl rd_key rd_val rg_of)
variable {β:Type} (wl:WLT β) (y:ACv9 β) (b:β) (R:AV→β→Prop) (Kr:AV→List Blk→β→Prop) (K:Exit→List AV→List Blk→β→Prop) (Kh:Exit→List Blk→β→Prop) (Q:β→Prop)
open Go.ChangeMaps Go.MapKept Go.WideShapes
variable {β:Type} (wl:WLT β) (y:ACv9 β) (b:β) (R:AV→β→Prop) (K:Exit→List AV→List Blk→β→Prop) (Q:β→Prop)
structure AEe9 where
 b:Nat
 r:Nat
 k:TypeId
 es:MC
 left:Lit→Bool
 cnt:Nat
 cur:Option Lit
def ANu9 (P:Program) (S:Pr) (w:World) (c:AEe9):Prop:=
 ∃ L es clock since seen c0,w.heap[c.b]? =some (.map es clock)∧Fit P c.k heldR es clock∧DataW.map L= .map ((es.toList.map (rg P c.k heldR)).foldr DataW.insert [])∧
   w.heap[c.r]? =some (.mapIter (some c.b) since seen c0)∧(∀x∈es.toList,x.born<since)∧(leftOf es seen).size=c.cnt∧
   (∀x∈es.toList,c.left (rg P c.k heldR x).1= !seen.contains x.born)∧(∀kl,c.left kl=true→∃x∈es.toList,(rg P c.k heldR x).1=kl)∧since≤c0∧since≤clock∧Ents S w c.es L∧
   (∀kl,c.cur=some kl→∃e∈es.toList,∃s0:Array Nat,seen=s0.push e.born∧c0=clock∧(rg P c.k heldR e).1=kl)
section
variable {P:Program} {S S' X X' V V':Pr} {w w' w0:World} {L:Nat→Prop} {Ev:Env P} {lo:Nat} {r:Option Nat} {m:List MB} {B:List (AV×Value)} {hv:List (List Value)} {s:RS} {a:Act} {yl:Option Nat} {N:Nat} {lent:List Nat} {γ:Type} {f:γ→List MapC} {o:Oper}
theorem ANu9.mono {c:AEe9} (h:ANu9 P S w c) (ho:∀(d:Nat) (o:Obj),AMp9 o=true→w.heap[d]? =some o→w'.heap[d]? =some o) (hv:∀x v,RV S w [] none x v→RV S' w' [] none x v):ANu9 P S' w' c:=by
 obtain ⟨L,es,cl,since,seen,c0,h1,h2,h4,h5,h6,h7,h8,h9,h10,h11,h12,h13⟩:=h
 exact ⟨L,es,cl,since,seen,c0,ho _ _ rfl h1,h2,h4,ho _ _ rfl h5,h6,h7,h8,h9,h10,h11,h12.mono hv,h13⟩
def Env.rngd (P:Program) (yl:Option Nat) (N:Nat) (w0:World) (lent:List Nat) {γ:Type} (f:γ→List MapC):Env P:=
 { β:=γ×Option AEe9,N:=N,yl:=yl,L:=fun x=>x=0,E:=fun g S _ w=>MapsE P N w0 lent (f g.1) S w∧∀c,g.2=some c→ANu9 P S w c∧N≤c.r,Y:=fun _ _ _=>False,Llt:=fun h=>by omega,Ymono:=fun h _=>h,
   stable:=fun h ht=>⟨h.1.tr ht,fun c hc=>⟨(h.2 c hc).1.mono (fun b o hm h1=>(ht.objs b _ h1 (ALl9 hm)).resolve_right fun h=>h.elim (fun h=>h.1) fun h=>h.1) fun x v hx=>hx.tr ht,(h.2 c hc).2⟩⟩,
   stableO:=fun {b S V w d o} o' h _ hd ho hm=>⟨h.1.putObj o' hd ho hm,fun c hc=>⟨(h.2 c hc).1.mono (fun b o1 hm1 h1=>by
     have hne:b≠d:=by rintro rfl;rw [hd] at h1;cases h1;rw [hm] at hm1;cases hm1
     rw [Zcj hne];exact h1) fun x v hx=>hx.putObj hd ho h.1.lt,(h.2 c hc).2⟩⟩,
   yok:=fun h=>h.elim}
theorem EnvOk.lift {g:γ} {T:RS→γ→Prop} (h:EnvOk (Env.mapped P yl N w0 lent f) o s g T):EnvOk (Env.rngd P yl N w0 lent f) o s (g,none) (fun s' b'=>b'.2=none∧T s' b'.1):=by
 intro lo r S X V w m B hv a K Q ht hK
 refine h lo r S X V w m B hv a K Q ⟨ht.rel,ht.sub,ht.env.1,ht.round,ht.marks,ht.base⟩ fun s' g' hT S' X' V' w' m' hv' a' hw hm ht'=> ?_
 exact hK s' (g',none) ⟨rfl,hT⟩ S' X' V' w' m' hv' a' hw hm ⟨ht'.rel,ht'.sub,⟨ht'.env,fun c hc=>by cases hc⟩,ht'.round,ht'.marks,ht'.base⟩
theorem W.forget {c:Code} {tm:List AV} {hp:List Blk} {g:γ} {Q:Exit→St γ→Prop} (h:W (Env.rngd P yl N w0 lent f) c ⟨tm,hp,(g,none)⟩ fun e s'=>Q e ⟨s'.tm,s'.hp,s'.b.1⟩):W (Env.mapped P yl N w0 lent f) c ⟨tm,hp,g⟩ Q:=by
 intro lo r S X V w m B hv a ht
 refine wpIn_mono (h lo r S X V w m B hv a ⟨ht.rel,ht.sub,⟨ht.env,fun c hc=>by cases hc⟩,ht.round,ht.marks,ht.base⟩) ?_
 rintro e a' w' ⟨s',S',X',V',m',hv',hq,hw,ht'⟩
 exact ⟨⟨s'.tm,s'.hp,s'.b.1⟩,S',X',V',m',hv',hq,hw,⟨ht'.rel,ht'.sub,ht'.env.1,ht'.round,ht'.marks,ht'.base⟩⟩
theorem AUv9 {c:AEe9} {cl:MapC} (h:MapIs P S w cl):∃L es clock,w.heap[cl.b]? =some (.map es clock)∧Fit P cl.k heldR es clock∧DataW.map L= .map ((es.toList.map (rg P cl.k heldR)).foldr DataW.insert [])∧Ents S w cl.es L:=by
 obtain ⟨L,⟨es,clock,h1,h2,h3,h4⟩,h5⟩:=h
 exact ⟨L,es,clock,h1,h2,h4,h5⟩
theorem BJh9 {g:γ} {c:MapC} {t e:TypeId} {mo:Operand} (hop:o.op= .range t mo) (hc:c∈f g) (hm:evalA s.tm mo= .d (.s (.map (some c.b)))) (K:Keyed P c.k) (ht:P.underlying t=some (.map c.k e)):
   EnvOk (Env.rngd P yl N w0 lent f) o s (g,none) fun s' b'=>∃d,s'= {tm:=putA s.tm o.dst (.d (.s (.pointer (some ⟨d,0,none⟩)))),hp:=s.hp,pv:=pvPut s.pv o.dst}∧b'=(g,some ⟨c.b,d,c.k,c.es,fun kl=>hasK kl c.es,c.es.length,none⟩):=by
 intro lo r S X V w m B hv a K' Q h hK
 obtain ⟨L,es,clock,hb,F,hD,hent⟩:=AUv9 (c:=⟨0,0,0, [],fun _=>false,0,none⟩) (h.env.1.is c hc)
 have hlt:c.b<w.heap.size:=(Zam.1 hb).1
 have hme:=ABf9 (x:=evalA s.tm mo) (by rw [hm];rfl) (AAd9 h.rel mo)
 have hbel:Below w.heap.size w (w.alloc (.mapIter (some c.b) clock #[] clock)):=(Below.refl _ _).alloc (Zau _) _
 have hG:=Gs.below h.rel.2.1 hbel ⟨fun _ _ h=>h,fun _ _ h=> .inl h⟩
 have hrel:=h.rel.2.1.below hbel (fun _ _ h=>h) (fun _ _ h=> .inl h)
 have h1:Tie (Env.rngd P yl N w0 lent f) lo r S X V (w.alloc (.mapIter (some c.b) clock #[] clock)) m B hv s (g,none) a:=h.step hG ⟨h.rel.1,hrel,h.rel.2.2⟩ rfl
 have hE:=h1.env.1
 obtain ⟨L',hown,hent'⟩:=hE.is c hc
 have hb':(w.alloc (.mapIter (some c.b) clock #[] clock)).heap[c.b]? =some (.map es clock):=((MapKept.heap_alloc w _).2 c.b hlt).trans hb
 have hD':L'=L:=by
   obtain ⟨es',cl',e1,_,_,e4⟩:=hown
   rw [hb'] at e1;cases e1
   have:=e4.trans hD.symm
   exact DataW.map.inj this
 rw [hD'] at hent'
 have hhas:∀kl,Maps.has (DataW.map L) kl=hasK kl c.es:=fun kl=>hent.has kl
 have hlen:L.length=es.size:=by
   have:=DataW.map.inj hD
   rw [this,length_sorted];simp
 have hR:ANu9 P S (w.alloc (.mapIter (some c.b) clock #[] clock)) ⟨c.b,w.heap.size,c.k,c.es,fun kl=>hasK kl c.es,c.es.length,none⟩:=by
   refine ⟨L,es,clock,clock,#[],clock,hb',F,hD,(MapKept.heap_alloc w _).1,F.stamped.1, ?_, ?_, ?_,Zau _,Zau _,hent',fun kl hk=>by cases hk⟩
   · have:(leftOf es #[]).size=es.size:=by simp [leftOf]
     rw [this,←hlen,hent.length]
   · intro x hx
     obtain ⟨y,hy⟩:=F.reads x hx
     have h2:Maps.has (DataW.map L) (rg P c.k heldR x).1=true:=by
       rw [hD]
       exact List.any_eq_true.2 ⟨rg P c.k heldR x,mem_sorted.2 (Zbb.2 ⟨x,hx,rfl⟩),WideAt.sameKey_self (by rw [rg_of hy];exact K.key (rd_key hy))⟩
     show hasK (rg P c.k heldR x).1 c.es=_
     rw [←hhas,h2];simp
   · intro kl hkl
     have hkl:hasK kl c.es=true:=hkl
     rw [←hhas,hD] at hkl
     obtain ⟨p,hp,hpk⟩:=List.any_eq_true.1 hkl
     obtain ⟨x,hx,rfl⟩:=Zbb.1 (mem_sorted.1 hp)
     exact ⟨x,hx,WideAt.sameKey_eq hpk⟩
 have h2:Tie (Env.rngd P yl N w0 lent f) lo r S X V (w.alloc (.mapIter (some c.b) clock #[] clock)) m B hv s (g,some ⟨c.b,w.heap.size,c.k,c.es,fun kl=>hasK kl c.es,c.es.length,none⟩) a:=
   ⟨h1.rel,h1.sub,⟨hE,fun c' hc'=>by cases hc';exact ⟨hR,Nat.le_trans h.base.1 h.base.2⟩⟩,h1.round,h1.marks,h1.base⟩
 refine AAl9 (w':=w.alloc (.mapIter (some c.b) clock #[] clock)) (v:= .pointer (some ⟨w.heap.size,0,none⟩)) (nx:= .value (.pointer (some ⟨w.heap.size,0,none⟩))) (by rw [hop];intro _ h;cases h) ?_ (.inl rfl) ?_
 · unfold execOp
   simp only [hop,hme]
   simp [run_range_map w t c.k e c.b es clock ht hb,Result.andThen]
 · have hx:RV S (w.alloc (.mapIter (some c.b) clock #[] clock)) [] none (.d (.s (.pointer (some ⟨w.heap.size,0,none⟩)))) (.pointer (some ⟨w.heap.size,0,none⟩)):= .d (.s _)
   exact hK _ _ ⟨w.heap.size,rfl,rfl⟩ S X V _ m hv _ (hG.went h1.rel.slt) (Zfa m)
     ⟨⟨by rw [AAq9,ADd9];exact h2.rel.1,(h2.rel.2.1.cons hx.opened.view (AAp9 _ _)).putTmp h2.rel.1 o.dst,ACf9 h2.rel.2.2 o.dst _⟩,h2.sub,h2.env,h2.round,by rw [ACj9];exact h2.marks,h2.base⟩
theorem BBv9 (hS:∀b i,S b i→b<w.heap.size) {d:Nat} {bb:Option Nat} {since c0 c1:Nat} {s0 s1:Array Nat} (hd:w.heap[d]? =some (Obj.mapIter bb since s0 c0)):Tr X (fun x=>x=0) S w S (w.putObj d (.mapIter bb since s1 c1)):=by
 have h:=AHn9 (Z:=X) (o':= .mapIter bb since s1 c1) hd rfl hS
 refine ⟨rfl,rfl,rfl,h.size,h.cells,fun b o hb ho=> ?_,h.same,h.up,h.new,h.lt⟩
 by_cases hbd:b=d
 · subst hbd
   rw [hd] at hb;cases hb
   exact .inr (.inr ⟨rfl,_,World.putObj_heap_same (Zam.1 hd).1, .iter bb since s0 c0 s1 c1⟩)
 · rw [Zcj hbd];exact .inl hb
theorem Tie.putIter {b b':γ×Option AEe9} (h:Tie (Env.rngd P yl N w0 lent f) lo r S X V w m B hv s b a) {d:Nat} {bb:Option Nat} {since c0 c1:Nat} {s0 s1:Array Nat} (hd:w.heap[d]? =some (Obj.mapIter bb since s0 c0))
   (hE:(Env.rngd P yl N w0 lent f).E b' S V (w.putObj d (.mapIter bb since s1 c1))):Tie (Env.rngd P yl N w0 lent f) lo r S X V (w.putObj d (.mapIter bb since s1 c1)) m B hv s b' a:=by
 refine ⟨⟨h.rel.1,h.rel.2.1.putObj hd rfl,h.rel.2.2⟩,h.sub,hE,fun l0 hl0=> ?_, ?_,h.base.1,by simpa using h.base.2⟩
 · obtain ⟨rc,h1⟩:=h.round l0 hl0
   exact ⟨rc,ABh9 h1 (by rintro rfl;rw [hd] at h1;cases h1)⟩
 · obtain ⟨bs,h1,h2,h3⟩:=h.marks
   refine ⟨bs,h1,h2,fun b hb=>⟨(h3 b hb).1,ABh9 (h3 b hb).2 ?_⟩⟩
   rintro rfl
   have h4:=(h3 _ hb).2
   rw [hd] at h4;cases h4
theorem MapsE.putIter {β:List MapC} (h:MapsE P N w0 lent β S w) {d:Nat} {bb:Option Nat} {since c0 c1:Nat} {s0 s1:Array Nat} (hd:w.heap[d]? =some (Obj.mapIter bb since s0 c0)) (hN:N≤d):MapsE P N w0 lent β S (w.putObj d (.mapIter bb since s1 c1)):=
 ⟨fun c hc=>(h.is c hc).mono (fun es cl h1=>by
     have hne:c.b≠d:=by rintro e;rw [e,hd] at h1;cases h1
     rw [Zcj hne];exact h1) fun x v hx=>hx.putObj hd rfl h.lt,
   h.nd,h.mine,fun b o h1 h2 hm h3=>by rw [Zcj (by omega)];exact h.kept b o h1 h2 hm h3,fun b i h1=>by simpa using h.lt b i h1⟩
theorem Tie.drew1 {Ev:Env P} {b:Ev.β} (h:Tie Ev lo r S X V w m B hv s b a):Tie Ev lo r S X V w.drew m B hv s b a:=by
 have hb:Below w.heap.size w w.drew:=⟨rfl,rfl,rfl,Zau _,fun _ _=>rfl⟩
 exact h.step (Gs.below h.rel.2.1 hb ⟨fun _ _ h=>h,fun _ _ h=> .inl h⟩) ⟨h.rel.1,h.rel.2.1.below hb (fun _ _ h=>h) (fun _ _ h=> .inl h),h.rel.2.2⟩ rfl
theorem BSm9 {g:γ} {c:AEe9} {io:Operand} (hop:o.op= .next io false) (hm:evalA s.tm io= .d (.s (.pointer (some ⟨c.r,0,none⟩)))) (K:Keyed P c.k) (hkey:∀key kl,keyOf P c.k key=some kl→∃n,kl= .int .i64 n∧key= .int .i64 n) {z:AV} {zv:Value} (hzv:∀S w,RV S w [] none z zv):
   EnvOk (Env.rngd P yl N w0 lent f) o s (g,some c) fun s' b'=>(s'= {tm:=putA s.tm o.dst (.tup [.d (.s (.bool false))]),hp:=s.hp,pv:=pvPut s.pv o.dst}∧b'=(g,some c)∧∀kl,c.left kl=false)∨
     ∃ n cnt',c.left (.int .i64 n)=true∧hasK (.int .i64 n) c.es=true∧cnt'<c.cnt∧s'= {tm:=putA s.tm o.dst (.tup [.d (.s (.bool true)), .d (.s (.int .i64 n)),atK (.int .i64 n) z c.es]),hp:=s.hp,pv:=pvPut s.pv o.dst}∧
       b'=(g,some {c with left:=fun x=>c.left x&& !x.sameKey (.int .i64 n),cnt:=cnt',cur:=some (.int .i64 n)}):=by
 intro lo r S X V w m B hv a K' Q h hK
 obtain ⟨hE,hR⟩:=h.env
 obtain ⟨hR,hN⟩:=hR c rfl
 have hRR:=hR
 obtain ⟨L,es,clock,since,seen,c0,hb,F,hD,hr,hold,hcnt,hl1,hl2,hsc,hsk,hent,hcur⟩:=hR
 have hme:=ABf9 (x:=evalA s.tm io) (by rw [hm];rfl) (AAd9 h.rel io)
 have hne:c.r≠c.b:=by rintro e;rw [e,hb] at hr;cases hr
 have hview:∀x:List AV,(AV.tup x).view= .tup x:=fun _=>rfl
 rcases run_next_at (P:=P) w o.type c.r c.b since c0 seen es clock hr hb hold hsc with ⟨h0,hrun⟩|⟨e,he,w1,hal,hrun⟩
 · refine AAl9 (w':=w) (v:= .tuple #[.bool false]) (nx:= .value (.tuple #[.bool false])) (by rw [hop];intro _ h;cases h) ?_ (.inl rfl) ?_
   · unfold execOp
     simp only [hop,hme]
     simp [hrun,Result.andThen]
   · have hx:RV S w [] none (.tup [.d (.s (.bool false))]) (.tuple #[.bool false]):= .tup rfl fun i c' v' h5 h6=>by
       match i with
       |0=>simp at h5 h6;subst h5 h6;exact .d (.s _)
       |i+1=>simp at h5
     refine hK _ _ (.inl ⟨rfl,rfl,fun kl=> ?_⟩) S X V w m hv _ (Went.refl h.rel.slt) (Zfa m)
       ⟨⟨by rw [AAq9,ADd9];exact h.rel.1,(h.rel.2.1.cons hx.opened (by simp [ownB])).putTmp h.rel.1 o.dst,ACf9 h.rel.2.2 o.dst _⟩,h.sub,h.env,h.round,by rw [ACj9];exact h.marks,h.base⟩
     cases hk:c.left kl
     · rfl
     · obtain ⟨x,hx,rfl⟩:=hl2 kl hk
       rw [hl1 x hx,all_seen es seen h0 x hx] at hk
       cases hk
 · obtain ⟨hem,hes⟩:=mem_left he
   obtain ⟨y0,hy0⟩:=F.reads e hem
   obtain ⟨zz,hz,hzd⟩:=rd_val hy0
   have hk0:=rd_key hy0
   have hrg:(rg P c.k heldR e).1=y0.1:=by rw [rg_of hy0]
   obtain ⟨n,hn1,hn2⟩:=hkey _ _ hk0
   have hr1:w1.heap[c.r]? =some (.mapIter (some c.b) since seen c0):=by rcases hal with rfl|rfl<;>exact hr
   have hb1:w1.heap[c.b]? =some (.map es clock):=by rcases hal with rfl|rfl<;>exact hb
   have h1:Tie (Env.rngd P yl N w0 lent f) lo r S X V w1 m B hv s (g,some c) a:=by
     rcases hal with rfl|rfl
     · exact h
     · exact h.drew1
   have hGw:Went (fun x=>x=0) S X V w S X V w1:=by
     rcases hal with rfl|rfl
     · exact Went.refl h.rel.slt
     · have hbl:Below w.heap.size w w.drew:=⟨rfl,rfl,rfl,Zau _,fun _ _=>rfl⟩
       exact (Gs.below h.rel.2.1 hbl ⟨fun _ _ h=>h,fun _ _ h=> .inl h⟩).went h1.rel.slt
   obtain ⟨hE1,hR1⟩:=h1.env
   obtain ⟨L1,es1,clock1,since1,seen1,c01,hb1',F1,hD1,_,_,_,_,_,_,_,hent1,_⟩:=(hR1 c rfl).1
   have hL1:L1=L∧es1=es∧clock1=clock:=by
     rw [hb1] at hb1';cases hb1'
     exact ⟨DataW.map.inj (hD1.trans hD.symm),rfl,rfl⟩
   obtain ⟨rfl,rfl,rfl⟩:=hL1
   have hb2:(w1.putObj c.r (.mapIter (some c.b) since (seen.push e.born) clock1)).heap[c.b]? =some (.map es1 clock1):=by rw [Zcj (fun e1=>hne e1.symm)];exact hb1
   have hr2:(w1.putObj c.r (.mapIter (some c.b) since (seen.push e.born) clock1)).heap[c.r]? =some (.mapIter (some c.b) since (seen.push e.born) clock1):=World.putObj_heap_same (Zam.1 hr1).1
   have hes1:∀x v,RV S w1 [] none x v→RV S (w1.putObj c.r (.mapIter (some c.b) since (seen.push e.born) clock1)) [] none x v:=fun x v hx=>hx.putObj hr1 rfl hE1.lt
   have hent2:Ents S (w1.putObj c.r (.mapIter (some c.b) since (seen.push e.born) clock1)) c.es L1:=hent1.mono hes1
   have hRn:ANu9 P S (w1.putObj c.r (.mapIter (some c.b) since (seen.push e.born) clock1)) {c with left:=fun x=>c.left x&& !x.sameKey (.int .i64 n),cnt:=(leftOf es1 (seen.push e.born)).size,cur:=some (.int .i64 n)}:=by
     refine ⟨L1,es1,clock1,since,seen.push e.born,clock1,hb2,F,hD,hr2,hold,rfl,fun x hx=> ?_,fun kl hkl=>hl2 kl (by simp at hkl;exact hkl.1),hsk,hsk,hent2,fun kl hk=>⟨e,hem,seen,rfl,rfl, ?_⟩⟩
     · show (c.left (rg P c.k heldR x).1&& !(rg P c.k heldR x).1.sameKey (.int .i64 n))=_
       rw [hl1 x hx,←hn1,←hrg,same_iff_born K F hx hem,contains_push]
       cases seen.contains x.born<;>cases (x.born==e.born)<;>rfl
     · cases hk;rw [hrg,hn1]
   have h2:Tie (Env.rngd P yl N w0 lent f) lo r S X V (w1.putObj c.r (.mapIter (some c.b) since (seen.push e.born) clock1)) m B hv s (g,some {c with left:=fun x=>c.left x&& !x.sameKey (.int .i64 n),cnt:=(leftOf es1 (seen.push e.born)).size,cur:=some (.int .i64 n)}) a:=
     h1.putIter hr1 ⟨hE1.putIter hr1 hN,fun c' hc'=>by cases hc';exact ⟨hRn,hN⟩⟩
   obtain ⟨v,hv1,hv2⟩:=hent2.at (.int .i64 n) (hzv S (w1.putObj c.r (.mapIter (some c.b) since (seen.push e.born) clock1)))
   have hval:v=e.val:=by
     have h3:(DataW.map L1).atKey y0.1 (.held zv)=y0.2:=by
       rw [hD,(atKey_sorted (es1.toList.map (rg P c.k heldR)) (Maps.fit_rising K F) y0.1 (K.key hk0)).2 (rg P c.k heldR e) (Zbb.2 ⟨e,hem,rfl⟩) hrg,rg_of hy0]
     rw [hn1] at h3
     rw [h3] at hv1
     rw [hzd] at hv1
     have hz':zz=(.held e.val, []):=(Option.some.inj hz).symm
     rw [hz'] at hv1
     cases hv1;rfl
   have hx:RV S (w1.putObj c.r (.mapIter (some c.b) since (seen.push e.born) clock1)) [] none (.tup [.d (.s (.bool true)), .d (.s (.int .i64 n)),atK (.int .i64 n) z c.es]) (.tuple #[.bool true,e.key,e.val]):= .tup rfl fun i c' v' h5 h6=>by
     match i with
     |0=>simp at h5 h6;subst h5 h6;exact .d (.s _)
     |1=>simp at h5 h6;subst h5 h6;rw [hn2];exact .d (.s _)
     |2=>simp at h5 h6;subst h5 h6;rw [←hval];exact hv2
     |i+3=>simp at h5
   have hhas:hasK (.int .i64 n) c.es=true:=by
     rw [←hent.has,hD]
     exact List.any_eq_true.2 ⟨rg P c.k heldR e,mem_sorted.2 (Zbb.2 ⟨e,hem,rfl⟩),by rw [←hn1,←hrg];exact WideAt.sameKey_self (by rw [hrg];exact K.key hk0)⟩
   refine AAl9 (w':=w1.putObj c.r (.mapIter (some c.b) since (seen.push e.born) clock1)) (v:= .tuple #[.bool true,e.key,e.val]) (nx:= .value (.tuple #[.bool true,e.key,e.val])) (by rw [hop];intro _ h;cases h) ?_ (.inl rfl) ?_
   · unfold execOp
     simp only [hop,hme]
     have hrun':(Instr.next (.pointer (some ⟨c.r,0,none⟩)) false o.type).run P w= .ok (.tuple #[.bool true,e.key,e.val]) (w1.putObj c.r (.mapIter (some c.b) since (seen.push e.born) clock1)):=hrun
     simp [hrun',Result.andThen]
   · refine hK _ _ (.inr ⟨n,(leftOf es1 (seen.push e.born)).size, ?_,hhas, ?_,rfl,rfl⟩) S X V _ m hv _ (hGw.trans ⟨BBv9 h1.rel.slt hr1,fun _ _ h=>h,fun _ _ h=> .inl h⟩) (Zfa m)
       ⟨⟨by rw [AAq9,ADd9];exact h2.rel.1,(h2.rel.2.1.cons hx.opened (by simp [ownB])).putTmp h2.rel.1 o.dst,ACf9 h2.rel.2.2 o.dst _⟩,h2.sub,h2.env,h2.round,by rw [ACj9];exact h2.marks,h2.base⟩
     · rw [←hn1,←hrg,hl1 e hem,hes];rfl
     · rw [←hcnt];exact left_shrinks es1 seen e he
theorem BLd9 {g:γ} {c:AEe9} {io:Operand} {n:Int} (hop:o.op= .entry io) (hm:evalA s.tm io= .d (.s (.pointer (some ⟨c.r,0,none⟩)))) (K:Keyed P c.k) (hkey:∀key kl,keyOf P c.k key=some kl→∃n,kl= .int .i64 n∧key= .int .i64 n) (hc:c.cur=some (.int .i64 n)) {z:AV} {zv:Value} (hzv:∀S w,RV S w [] none z zv):
   EnvOk (Env.rngd P yl N w0 lent f) o s (g,some c) fun s' b'=>s'= {tm:=putA s.tm o.dst (.tup [.d (.s (.int .i64 n)),atK (.int .i64 n) z c.es]),hp:=s.hp,pv:=pvPut s.pv o.dst}∧b'=(g,some c):=by
 intro lo r S X V w m B hv a K' Q h hK
 obtain ⟨hE,hR⟩:=h.env
 obtain ⟨hR,hN⟩:=hR c rfl
 obtain ⟨L,es,clock,since,seen,c0,hb,F,hD,hr,hold,hcnt,hl1,hl2,hsc,hsk,hent,hcur⟩:=hR
 obtain ⟨e,hem,s0,rfl,rfl,he⟩:=hcur _ hc
 have hme:=ABf9 (x:=evalA s.tm io) (by rw [hm];rfl) (AAd9 h.rel io)
 obtain ⟨y0,hy0⟩:=F.reads e hem
 obtain ⟨zz,hz,hzd⟩:=rd_val hy0
 have hk0:=rd_key hy0
 have hrg:(rg P c.k heldR e).1=y0.1:=by rw [rg_of hy0]
 obtain ⟨n',hn1,hn2⟩:=hkey _ _ hk0
 have hnn:n'=n:=by rw [hrg,hn1] at he;cases he;rfl
 subst hnn
 have hrun:=run_entry_at (P:=P) w c.r c.b since s0 es c0 e hr hb hem ((stamped_iff es c0).1 F.stamped).2.1
 obtain ⟨v,hv1,hv2⟩:=hent.at (.int .i64 n') (hzv S w)
 have hval:v=e.val:=by
   have h3:(DataW.map L).atKey y0.1 (.held zv)=y0.2:=by
     rw [hD,(atKey_sorted (es.toList.map (rg P c.k heldR)) (Maps.fit_rising K F) y0.1 (K.key hk0)).2 (rg P c.k heldR e) (Zbb.2 ⟨e,hem,rfl⟩) hrg,rg_of hy0]
   rw [hn1] at h3
   rw [h3] at hv1
   rw [hzd] at hv1
   have hz':zz=(.held e.val, []):=(Option.some.inj hz).symm
   rw [hz'] at hv1
   cases hv1;rfl
 have hx:RV S w [] none (.tup [.d (.s (.int .i64 n')),atK (.int .i64 n') z c.es]) (.tuple #[e.key,e.val]):= .tup rfl fun i c' v' h5 h6=>by
   match i with
   |0=>simp at h5 h6;subst h5 h6;rw [hn2];exact .d (.s _)
   |1=>simp at h5 h6;subst h5 h6;rw [←hval];exact hv2
   |i+2=>simp at h5
 refine AAl9 (w':=w) (v:= .tuple #[e.key,e.val]) (nx:= .value (.tuple #[e.key,e.val])) (by rw [hop];intro _ h;cases h) ?_ (.inl rfl) ?_
 · unfold execOp
   simp only [hop,hme]
   simp [hrun,Result.andThen]
 · exact hK _ _ ⟨rfl,rfl⟩ S X V w m hv _ (Went.refl h.rel.slt) (Zfa m)
     ⟨⟨by rw [AAq9,ADd9];exact h.rel.1,(h.rel.2.1.cons hx.opened (by simp [ownB])).putTmp h.rel.1 o.dst,ACf9 h.rel.2.2 o.dst _⟩,h.sub,h.env,h.round,by rw [ACj9];exact h.marks,h.base⟩
theorem MCall.ofFnR {k n:Nat} {fn:Func} {args:List AV} {g:γ} {R:AV→γ→Prop} {T:List (Nat×(List AV→(AV→Prop)→Prop))} {U:List (Nat×(List AV→List Blk→(AV→List Blk→Prop)→Prop))} {u:Bool} (wl:WLT (γ×Option AEe9)) (hm:P.follows .mixedOrders=true)
   (hT:AAb9 P T) (hS:AAk9 P U) (hwl:∀(N:Nat) (w0:World) c tm hp b K,wl c tm hp b K→W (Env.rngd P none N w0 ((f g).map MapC.b) f) c ⟨tm,hp,b⟩ (fun e s=>K e s.tm s.hp s.b)) (hf:P.funcs[k]? =some fn) (hn:(fn.name== "runtime.NumGoroutine")=false) (hargs:args.map AV.view=args)
   (h:wpFn P ⟨T,U,wl,fun _ _ _=>False,u⟩ n fn args (g,none) fun x b=>R x b.1):MCall P f k args g R:=by
 cases hb:fn.body with
 | some c=>
   unfold wpFn at h
   rw [hb] at h
   refine MCall.ofW hf hb hn hargs fun N w0=>W.forget ?_
   refine W.castPost (AAu9 hm (CX.Ok.ofWl (Ev:=Env.rngd P none N w0 ((f g).map MapC.b) f) hT hS (hwl N w0)) h fun e tm hp b hK=> ?_)
   exact ⟨tm,hp,LeL.refl _,Zce _,AFr9 (Ev:=Env.rngd P none N w0 ((f g).map MapC.b) f) (R:=fun x b=>R x b.1) hK⟩
 | none=>
   unfold wpFn at h
   rw [hb] at h
   exact h.elim
end
def AVi9 (ops:Array Oper) (i k:Nat):Bool:=
 (Zbk ops.size).all fun j=>match ops[j]? with
   |some o=>(AAn9 o).all (fun e=>Nat.blt e j)&&(if Nat.ble i j&&Nat.blt j k then ADe9 o&&((o.looksAt ops).all (fun t=>(Zbk k).all fun j'=>Nat.blt j' i||match ops[j']? with
         |some o'=>o'.dst !=some t||(AAn9 o).contains j'
         |none=>true)&&(Zbk j).all fun j'=>Nat.blt j' i||match ops[j']? with
         |some o'=>o.dst==none||o'.dst !=o.dst
         |none=>true)
       else Nat.blt j k||(Zbk k).all fun j'=>(ancOf ops ops.size j).contains j')
   |none=>true
def cutOk (ops:Array Oper) (k:Nat):Bool:=
 (Zbk ops.size).all fun j=>match ops[j]? with
   |some o=>(AAn9 o).all (fun e=>Nat.blt e j)&&(Nat.blt j k||(Zbk k).all fun j'=>(ancOf ops ops.size j).contains j')
   |none=>true
def cutsC (ops:Array Oper):Nat→Nat→Nat→List (Nat×Nat)
 |0,_,_=> []
 |n+1,i,k=>if Nat.ble ops.size i then [] else if cutOk ops k then (i,k)::cutsC ops n k (k+1) else cutsC ops n i (k+1)
def ATk9 (ops:Array Oper):Nat→List (Nat×Nat)→Bool
 |i, []=>Nat.beq i ops.size
 |i,(a,k)::l=>Nat.beq a i&&(Nat.blt i k&&(Nat.ble k ops.size&&(cutOk ops k&&ATk9 ops k l)))
section
variable {P:Program} {S S' X:Pr} {r:Option Nat} {yv:Option Nat} {w w':World} {m m':List MB} {B:List (AV×Value)} {hp:List Blk} {hv hv':List (List Value)} {call:CallT} {a a':Act} {ops:Array Oper}
theorem AIr9 {i k j:Nat} {o:Oper} (h:AVi9 ops i k=true) (hj:ops[j]? =some o):
   (∀e∈AAn9 o,e<j)∧(i≤j→j<k→ADe9 o=true∧(∀t∈o.looksAt ops,∀(j':Nat) (o':Oper),i≤j'→j'<k→ops[j']? =some o'→o'.dst=some t→j'∈AAn9 o)∧(∀(j':Nat) (o':Oper),i≤j'→j'<j→ops[j']? =some o'→o.dst≠none→o'.dst≠o.dst))∧
   (k≤j→∀j',j'<k→j'∈ancOf ops ops.size j):=by
 have hjl:=(Zam.1 hj).1
 have h1:=Zbd.1 h j (Zcd.2 hjl)
 rw [hj] at h1
 simp only [Zaj,Zbd] at h1
 obtain ⟨h1,h2⟩:=h1
 refine ⟨fun e he=>by have:=h1 e he;rwa [Nat.blt_eq] at this,fun hij hjk=> ?_,fun hkj j' hj'=> ?_⟩
 · have hc:(Nat.ble i j=true∧Nat.blt j k=true):=⟨Nat.ble_eq_true_of_le hij,by rw [Nat.blt_eq];exact hjk⟩
   rw [if_pos hc] at h2
   simp only [Zaj,Zbd,Zcd,Zdp] at h2
   obtain ⟨h2,h3,h4⟩:=h2
   refine ⟨h2,fun t ht j' o' h5 h6 h7 h8=> ?_,fun j' o' h5 h6 h7 h8 h9=> ?_⟩
   · rcases h3 t ht j' h6 with h|h
     · rw [Nat.blt_eq] at h;omega
     · rw [h7] at h
       simp only [Zdp,bne_iff_ne,ne_eq,List.contains_iff_mem] at h
       exact h.resolve_left fun h=>h h8
   · rcases h4 j' h6 with h|h
     · rw [Nat.blt_eq] at h;omega
     · rw [h7] at h
       simp only [Zdp,beq_iff_eq,bne_iff_ne,ne_eq] at h
       exact (h.resolve_left h8) h9
 · have hc:¬(Nat.ble i j=true∧Nat.blt j k=true):=fun h=>by
     have:=h.2
     rw [Nat.blt_eq] at this;omega
   rw [if_neg hc] at h2
   simp only [Zdp,Zbd,Zcd,List.contains_iff_mem] at h2
   rcases h2 with h|h
   · rw [Nat.blt_eq] at h;omega
   · exact h j' hj'
theorem CAt9 {k j:Nat} {o:Oper} (h:cutOk ops k=true) (hj:ops[j]? =some o):(∀e∈AAn9 o,e<j)∧(k≤j→∀j',j'<k→j'∈ancOf ops ops.size j):=by
 have hjl:=(Zam.1 hj).1
 have h1:=Zbd.1 h j (Zcd.2 hjl)
 rw [hj] at h1
 simp only [Zaj,Zbd,Zdp,Zcd,List.contains_iff_mem] at h1
 obtain ⟨h1,h2⟩:=h1
 refine ⟨fun e he=>by have:=h1 e he;rwa [Nat.blt_eq] at this,fun hkj j' hj'=> ?_⟩
 rcases h2 with h|h
 · rw [Nat.blt_eq] at h;omega
 · exact h j' hj'
theorem AQf9 {i0 k:Nat} (hd:AVi9 ops i0 k=true) (hk:k≤ops.size):∀(c:Nat) {i:Nat} {tm tmK:List AV},c=k - i→i0≤i→i≤k→xPre P call ops hp ((ops.toList.take k).drop i) tm=some tmK→
   (∀(j:Nat) (o:Oper),i≤j→j<k→ops[j]? =some o→∃x,xp P call ops hp tmK o=some x∧∀d,o.dst=some d→d<tm.length→tmK[d]? =some x)∧
   (∀t,(∀(j:Nat) (o:Oper),i≤j→j<k→ops[j]? =some o→o.dst≠some t)→tmK[t]? =tm[t]?)∧tmK.length=tm.length
 | 0,i,tm,tmK,hn,hi0,hi,hx=>by
   have hdrop:(ops.toList.take k).drop i= []:=List.drop_eq_nil_of_le (by simp;omega)
   rw [hdrop] at hx
   simp only [xPre,Option.some.injEq] at hx
   subst hx
   exact ⟨fun j o h1 h2=>by omega,fun t _=>rfl,rfl⟩
 | c+1,i,tm,tmK,hn,hi0,hi,hx=>by
   have hil:i<ops.size:=by omega
   have hoi:ops[i]? =some ops[i]:=by simp [hil]
   have hdrop:(ops.toList.take k).drop i=ops[i]::(ops.toList.take k).drop (i+1):=by
     rw [List.drop_eq_getElem_cons (by simp;omega)];simp
   rw [hdrop] at hx
   simp only [xPre] at hx
   split at hx<;>try (cases hx;done)
   rename_i x hxp
   obtain ⟨h1,h2,h3⟩:=AQf9 hd hk c (i:=i+1) (by omega) (by omega) (by omega) hx
   obtain ⟨hedge,hst,_⟩:=AIr9 hd hoi
   obtain ⟨hpure,hlook,_⟩:=hst hi0 (by omega)
   have hlen:(putA tm ops[i].dst x).length=tm.length:=AAq9 _ _ _
   have hsame:∀t∈ops[i].looksAt ops,tmK[t]? =tm[t]? :=by
     intro t ht
     have hno:∀(j:Nat) (o:Oper),i≤j→j<k→ops[j]? =some o→o.dst≠some t:=by
       intro j o hij hjk ho hdst
       have:=hedge j (hlook t ht j o (by omega) (by omega) ho hdst)
       omega
     rw [h2 t (fun j o hij hjk ho=>hno j o (by omega) hjk ho),ACg9 (hno i ops[i] (Zau _) (by omega) hoi)]
   refine ⟨fun j o hij hjk ho=> ?_,fun t ht=> ?_,h3.trans hlen⟩
   · rcases Nat.eq_or_lt_of_le hij with rfl|hlt
     · rw [hoi] at ho;cases ho
       refine ⟨x,by rw [AGz9 (tm':=tm) (fun t ht=>AFt9 (hsame t ht))];exact hxp,fun d hdst hdl=> ?_⟩
       rw [h2 d (fun j o hij hjk ho hdd=> ?_)]
       · rw [hdst];simp [putA,hdl]
       · have:=((AIr9 hd ho).2.1 (by omega) (by omega)).2.2 i ops[i] (by omega) (by omega) hoi (by rw [hdd];simp)
         exact this (by rw [hdst,hdd])
     · obtain ⟨x',h4,h5⟩:=h1 j o (by omega) hjk ho
       exact ⟨x',h4,fun d hdst hdl=>h5 d hdst (by rw [hlen];exact hdl)⟩
   · rw [h2 t (fun j o hij hjk ho=>ht j o (by omega) hjk ho),ACg9 (ht i ops[i] (Zau _) (by omega) hoi)]
structure StInv (ops:Array Oper) (i k:Nat) (tm0 tmF tm:List AV) (listed:Array Bool):Prop where
 sz:listed.size=ops.size
 low:∀j,j<i→listed.getD j false=true
 far:∀j,k≤j→listed.getD j false=false
 down:∀(j:Nat) (o':Oper),ops[j]? =some o'→listed.getD j false=true→∀e∈AAn9 o',listed.getD e false=true
 len:tm.length=tm0.length
 got:∀(j:Nat) (o:Oper) (d:Nat),i≤j→j<k→ops[j]? =some o→o.dst=some d→listed.getD j false=true→tm[d]? =tmF[d]?
 old:∀t,(∀(j:Nat) (o:Oper),i≤j→j<k→ops[j]? =some o→listed.getD j false=true→o.dst≠some t)→tm[t]? =tm0[t]?
theorem AXy9 {QQ:Exit→Act→World→Prop} {i k:Nat} (hcall:AGl9 P call) (hd:AVi9 ops i k=true) (hik:i≤k) (hk:k≤ops.size) {tm0 tmK:List AV} (hx0:xPre P call ops hp ((ops.toList.take k).drop i) tm0=some tmK):
   ∀(u:Nat) {S:Pr} {w:World} {m:List MB} {hv:List (List Value)} {a:Act} {listed:Array Bool} {tm:List AV},u=(unl ops.size listed).length→StInv ops i k tm0 tmK tm listed→RelS S X yv w m B hv ⟨tm,hp, []⟩ a→
   Nx S X yv w m B ⟨tmK,hp, []⟩ a (fun a w=>∀listed:Array Bool,listed.size=ops.size→(∀j,j<ops.size→listed.getD j false=decide (j<k))→wpAnyIn (Fn r) 0 P .any ops QQ (ops.size - k) listed a w)→
   wpAnyIn (Fn r) 0 P .any ops QQ u listed a w:=by
 obtain ⟨spec,sp2,sp3⟩:=AQf9 (call:=call) (P:=P) (hp:=hp) hd hk (k - i) (i:=i) (tm:=tm0) (tmK:=tmK) rfl (Zau _) hik hx0
 have hfin:∀ {listed:Array Bool} {tm:List AV},StInv ops i k tm0 tmK tm listed→(∀j,j<k→listed.getD j false=true)→tm=tmK:=by
   intro listed tm hI hall
   apply List.ext_getElem?
   intro t
   by_cases hc:∃(j:Nat) (o:Oper),i≤j∧j<k∧ops[j]? =some o∧o.dst=some t
   · obtain ⟨j,o,g0,g1,g2,g3⟩:=hc
     exact hI.got j o t g0 g1 g2 g3 (hall j g1)
   · rw [hI.old t (fun j o g0 g1 g2 _ g3=>hc ⟨j,o,g0,g1,g2,g3⟩),sp2 t (fun j o g0 g1 g2 g3=>hc ⟨j,o,g0,g1,g2,g3⟩)]
 have hcount:∀ {listed:Array Bool},listed.size=ops.size→(∀j,j<ops.size→listed.getD j false=decide (j<k))→(unl ops.size listed).length=ops.size - k:=by
   intro listed hs hlist
   have e:unl ops.size listed=(Zbk ops.size).filter fun j=> !decide (j<k):=by
     unfold unl
     refine List.filter_congr fun j hj=> ?_
     rw [hlist j (Zcd.1 hj)]
   rw [e]
   have e2:Zbk ops.size=Zbk k++(Zbk (ops.size - k)).map (k+ ·):=by
     rw [←List.range_add];congr 1;omega
   rw [e2,List.filter_append]
   have e3:(Zbk k).filter (fun j=> !decide (j<k))= []:=by
     rw [List.filter_eq_nil_iff];intro j hj;have:=Zcd.1 hj;simp [this]
   rw [e3,List.filter_eq_self.2]
   · simp
   · intro j hj
     obtain ⟨l,_,rfl⟩:=Zbb.1 hj
     simp
 intro u
 induction u with
 | zero=>
   intro S w m hv a listed tm hu hI hr hK
   have hall:∀j,j<ops.size→listed.getD j false=true:=by
     intro j hj
     cases hh:listed.getD j false with
     |true=>rfl
     | false=>
       have:j∈unl ops.size listed:=by simp only [unl,List.mem_filter,Zcd,hh];exact ⟨hj,rfl⟩
       rw [List.length_eq_zero_iff.1 hu.symm] at this;cases this
   have hkk:k=ops.size:=by
     rcases Zda k ops.size with h'|h'
     · have:=hall _ h';rw [hI.far _ (Zau _)] at this;cases this
     · omega
   have:=hfin hI fun j hj=>hall j (by omega)
   subst this
   have:=hK S w m hv a (Gs.refl _ _ _ _ _) hr rfl rfl listed hI.sz (fun j hj=>by rw [hall j hj];simp;omega)
   rw [hkk,Nat.sub_self] at this
   exact this
 | succ u ih=>
   intro S w m hv a listed tm hu hI hr hK
   by_cases hdone:∀j,j<k→listed.getD j false=true
   · have:=hfin hI hdone
     subst this
     have hlist:∀j,j<ops.size→listed.getD j false=decide (j<k):=by
       intro j hj
       by_cases hjk:j<k
       · rw [hdone j hjk];simp [hjk]
       · rw [hI.far j (by omega)];simp [hjk]
     rw [hu,hcount hI.sz hlist]
     exact hK S w m hv a (Gs.refl _ _ _ _ _) hr rfl rfl listed hI.sz hlist
   · have hex:∃j,j<k∧listed.getD j false=false:=by
       apply Classical.byContradiction
       intro hno
       exact hdone fun j hj=>by
         cases hh:listed.getD j false with
         |true=>rfl
         |false=>exact absurd ⟨j,hj,hh⟩ hno
     have hmin:∃j,j<k∧listed.getD j false=false∧∀i,i<j→listed.getD i false=true:=by
       obtain ⟨j,hj⟩:=hex
       induction j using Nat.strongRecOn with
       | ind j ihj=>
         by_cases hall:∀i,i<j→listed.getD i false=true
         · exact ⟨j,hj.1,hj.2,hall⟩
         · have:∃i,i<j∧listed.getD i false=false:=by
             apply Classical.byContradiction
             intro hno
             exact hall fun i hi=>by
               cases hh:listed.getD i false with
               |true=>rfl
               |false=>exact absurd ⟨i,hi,hh⟩ hno
           obtain ⟨i,hi,hi0⟩:=this
           exact ihj i hi ⟨by omega,hi0⟩
     obtain ⟨j0,hj0k,hj00,hj0all⟩:=hmin
     have hgt:∀j,j<ops.size→listed.getD j true=listed.getD j false:=by
       intro j hj;simp [hI.sz,hj]
     have hmem:j0∈Zdr .any ops listed:=by
       have hj0:j0<ops.size:=by omega
       refine ABb9 (o:=ops[j0]) (by simp [hj0]) (by rw [hgt j0 hj0];exact hj00) fun e he=> ?_
       exact hj0all e ((AIr9 hd (by simp [hj0])).1 e he)
     refine ⟨fun h0=>(by rw [h0] at hmem;cases hmem),fun j hj=> ?_⟩
     obtain ⟨oj,hoj,hj0,hje⟩:=ABk9 hj
     have hjl:j<ops.size:=(Zam.1 hoj).1
     rw [hgt j hjl] at hj0
     have hjk:j<k:=by
       rcases Zda j k with h'|h'
       · exact h'
       · have:=AEd9 hI.down ops.size j oj hoj hje j0 ((AIr9 hd hoj).2.2 h' j0 (by omega))
         rw [hj00] at this;cases this
     have hij:i≤j:=by
       rcases Zda j i with h'|h'
       · have:=hI.low j h';rw [hj0] at this;cases this
       · exact h'
     obtain ⟨hedge,hst,_⟩:=AIr9 hd hoj
     obtain ⟨hpk,hlk,huq⟩:=hst hij hjk
     have hsame:∀t∈oj.looksAt ops,tm[t]? =tmK[t]? :=by
       intro t ht
       by_cases hc:∃(j':Nat) (o:Oper),i≤j'∧j'<k∧ops[j']? =some o∧o.dst=some t
       · obtain ⟨j',o,g0,g1,g2,g3⟩:=hc
         exact hI.got j' o t g0 g1 g2 g3 (hje j' (hlk t ht j' o g0 g1 g2 g3))
       · rw [hI.old t (fun j o g0 g1 g2 _ g3=>hc ⟨j,o,g0,g1,g2,g3⟩),sp2 t (fun j o g0 g1 g2 g3=>hc ⟨j,o,g0,g1,g2,g3⟩)]
     have hget:∀i,(listed.setIfInBounds j true).getD i false=(if i=j then true else listed.getD i false):=by
       intro i
       simp only [Array.getD_eq_getD_getElem?,Array.getElem?_setIfInBounds]
       by_cases hij:j=i
       · subst hij;simp [hI.sz,hjl]
       · simp [hij,Ne.symm hij]
     have hdown':∀(i:Nat) (o':Oper),ops[i]? =some o'→(listed.setIfInBounds j true).getD i false=true→∀e∈AAn9 o',(listed.setIfInBounds j true).getD e false=true:=by
       intro i o' ho' hi e he
       rw [hget] at hi ⊢
       split at hi
       · rename_i hij
         subst hij
         rw [hoj] at ho';cases ho'
         split
         · rfl
         · exact hje e he
       · split
         · rfl
         · exact hI.down i o' ho' hi e he
     have hdst:∀(i':Nat) (o:Oper),i≤i'→i'<k→i'≠j→ops[i']? =some o→oj.dst≠none→o.dst≠oj.dst:=by
       intro i' o hii hik hij' ho hne he
       rcases Zda i' j with h'|h'
       · exact huq i' o hii h' ho hne he
       · exact ((AIr9 hd ho).2.1 hii hik).2.2 j oj hij (by omega) hoj (by rw [he];exact hne) he.symm
     obtain ⟨x,hxp0,hxd⟩:=spec j oj hij hjk hoj
     have hxp':xp P call ops hp tm oj=some x:=by
       rw [AGz9 (tm':=tmK) (fun t ht=>AFt9 (hsame t ht))];exact hxp0
     obtain ⟨pv',hst,_,_⟩:=AUz9 (pv:= []) hpk hxp'
     have hxF:∀d,oj.dst=some d→d<tm.length→tmK[d]? =some x:=fun d hod hdl=>hxd d hod (by rw [←hI.len];exact hdl)
     have htl:tm.length=tmK.length:=by rw [hI.len,sp3]
     have hgot':∀(i':Nat) (o:Oper) (d:Nat),i≤i'→i'<k→ops[i']? =some o→o.dst=some d→(listed.setIfInBounds j true).getD i' false=true→(putA tm oj.dst x)[d]? =tmK[d]? :=by
       intro i' o d hii hik ho hod hi'
       rw [hget] at hi'
       by_cases hij:i'=j
       · subst hij
         rw [hoj] at ho;cases ho
         rw [hod]
         by_cases hdl:d<tm.length
         · rw [hxF d hod hdl];simp [putA,hdl]
         · simp only [putA]
           rw [List.getElem?_eq_none (by simp;omega),List.getElem?_eq_none (by omega)]
       · rw [if_neg hij] at hi'
         rw [ACg9]
         · exact hI.got i' o d hii hik ho hod hi'
         · intro he
           exact hdst i' o hii hik hij ho (by rw [he];simp) (by rw [hod,he])
     have hold':∀(t:Nat),(∀(j':Nat) (o:Oper),i≤j'→j'<k→ops[j']? =some o→(listed.setIfInBounds j true).getD j' false=true→o.dst≠some t)→(putA tm oj.dst x)[t]? =tm0[t]? :=by
       intro t ht
       rw [ACg9 (ht j oj hij hjk hoj (by rw [hget,if_pos rfl]))]
       exact hI.old t fun i' o hii hik ho hi'=>ht i' o hii hik ho (by rw [hget];split<;>simp_all)
     unfold wpOpIn
     simp only [hoj]
     refine AEt9 hcall hr hst fun S' w' m' hv' a' hg hr' hdd hsz=> ?_
     exact ih (by have:=AKg9 hI.sz hjl hj0;omega) ⟨by simp [hI.sz],fun j' hj'=>by rw [hget,if_neg (by omega)];exact hI.low j' hj',fun i' hi'=>by rw [hget,if_neg (by omega)];exact hI.far i' hi',hdown',by rw [AAq9];exact hI.len,hgot',hold'⟩
       ⟨hr'.1,hr'.2.1,by intro p hp;cases hp⟩
       fun S'' w'' m'' hv'' a'' hg' hr'' hd' hsz'=>hK S'' w'' m'' hv'' a'' (hg.trans hg') hr'' (hd'.trans hdd) (hsz'.trans hsz)
end
def AMz9 (P:Program) (X:CX β) (M:MHook β) (ops:Array Oper):List (Nat×Nat)→List AV→List Blk→β→(List AV→List Blk→β→Prop)→Prop
 | [],tm,hp,b,K=>K tm hp b
 |(i,k)::l,tm,hp,b,K=>if Nat.beq k (i+1) then match ops[i]? with
     |some o=>opM P X M ops o ⟨tm,hp, []⟩ b fun s b=>AMz9 P X M ops l s.tm s.hp b K
     |none=>False
   else if AVi9 ops i k then preC P X ops hp ((ops.toList.take k).drop i) tm [] fun tmK tb=>if (tb.map (·.1)).Nodup then AMz9 P X M ops l tmK hp b K else False
   else False
def segsC (ops:Array Oper):List (Nat×Nat):=cutsC ops (ops.size+ops.size+2) 0 1
def BCn9 (P:Program) (X:CX β) (M:MHook β) (ops:Array Oper) (draw:Bool) (tm:List AV) (hp:List Blk) (b:β) (K:List AV→List Blk→β→Prop):Prop:=
 if draw then (if ATk9 ops 0 (segsC ops)&&Nat.ble 2 (segsC ops).length then AMz9 P X M ops (segsC ops) tm hp b K else match findK ops (ABo9 (ops.toList.takeWhile fun o=> !mapOp o)) with
   |some k=>BCt9 P X M ops k tm hp b K
   |none=>False)
 else opsM P X M ops ops.toList ⟨tm,hp, []⟩ b fun s b=>K s.tm s.hp b
def wlS (P:Program) (X:CX β) (M:MHook β) (wl:Code→List AV→List Blk→β→(Exit→List AV→List Blk→β→Prop)→Prop):Code→List AV→List Blk→β→(Exit→List AV→List Blk→β→Prop)→Prop
 | .region id ops d,tm,hp,b,K=>BCn9 P X M ops d tm hp b (K .normal)
 |c,tm,hp,b,K=>wl c tm hp b K
section
variable {P:Program} {S S' X' V V':Pr} {r:Option Nat} {lo:Nat} {w w':World} {m m':List MB} {B:List (AV×Value)} {hp hp':List Blk} {hv hv':List (List Value)} {a a':Act} {ops:Array Oper} {Ev:Env P} {X:CX Ev.β} {M:MHook Ev.β} {tm:List AV} {b:Ev.β}
theorem AHb9 {QQ:Exit→Act→World→Prop} {K:List AV→List Blk→Ev.β→Prop} (hX:X.Ok) (hM:MOk Ev M):∀(l:List (Nat×Nat)) {i:Nat} {tm:List AV} {hp:List Blk} {b:Ev.β} {S X' V:Pr} {w:World} {m:List MB} {hv:List (List Value)} {a:Act} {listed:Array Bool},
   ATk9 ops i l=true→(∀(j:Nat) (o:Oper),ops[j]? =some o→∀e∈AAn9 o,e<j)→AMz9 P X M ops l tm hp b K→listed.size=ops.size→(∀j,j<ops.size→listed.getD j false=decide (j<i))→Tie Ev lo r S X' V w m B hv ⟨tm,hp, []⟩ b a→
   (∀tm' hp' b',K tm' hp' b'→Goes Ev lo r S X' V w m B ⟨tm',hp', []⟩ b' (QQ .normal))→wpAnyIn (Fn r) 0 P .any ops QQ (ops.size - i) listed a w
 | [],i,tm,hp,b,S,X',V,w,m,hv,a,listed,hs,he,h,hls,hl,ht,hK=>by
   have hi:i=ops.size:=Zca hs
   have hready:Zdr .any ops listed= []:=by
     rw [List.eq_nil_iff_forall_not_mem]
     intro j hj
     obtain ⟨o,ho,h0,_⟩:=ABk9 hj
     have hjl:j<ops.size:=(Zam.1 ho).1
     have:=hl j hjl
     simp [hls,hjl] at h0 this
     rw [h0] at this
     simp at this;omega
   have e0:ops.size - i=0:=by omega
   rw [e0]
   exact ⟨hready,hK _ _ _ h S X' V w m hv a (Went.refl ht.rel.slt) (Zfa m) ht⟩
 | (i',k)::l,i,tm,hp,b,S,X',V,w,m,hv,a,listed,hs,he,h,hls,hl,ht,hK=>by
   simp only [ATk9,Zaj] at hs
   obtain ⟨s1,s2,s3,s4,s5⟩:=hs
   obtain rfl:=Zca s1
   rw [Nat.blt_eq] at s2
   have s3:=Nat.le_of_ble_eq_true s3
   have hlow:∀j,j<i'→listed.getD j false=true:=fun j hj=>by rw [hl j (by omega)];simp [hj]
   have hfar:∀j,i'≤j→listed.getD j false=false:=fun j hj=>by
     rcases Zda j ops.size with h'|h'
     · rw [hl j h'];simp;omega
     · rw [Array.getD_eq_getD_getElem?,Array.getElem?_eq_none (by omega)];rfl
   have hdown:∀(j:Nat) (o':Oper),ops[j]? =some o'→listed.getD j false=true→∀e∈AAn9 o',listed.getD e false=true:=fun j o' ho' hj e hee=>by
     have h1:=he _ _ ho' e hee
     rcases Zda j i' with h'|h'
     · exact hlow e (by omega)
     · rw [hfar j h'] at hj;cases hj
   unfold AMz9 at h
   split at h
   · rename_i hk1
     have hk1:=Zca hk1
     subst hk1
     have hi:i'<ops.size:=by omega
     have hoi:ops[i']? =some ops[i']:=by simp [hi]
     rw [hoi] at h
     simp only at h
     have hx:wOps Ev ops [ops[i']] ⟨tm,hp, []⟩ b (fun s' b'=>AMz9 P X M ops l s'.tm s'.hp b' K):=AVt9 (l:= []) hX hM h fun s' b' h=>h
     have hmem:i'∈Zdr .any ops listed:=by
       refine ABb9 hoi ?_ (fun e hee=>hlow e (he _ _ hoi e hee))
       have:=hl i' hi
       simp [hls,hi] at this ⊢;exact this
     have e0:ops.size - i'=(ops.size - (i'+1))+1:=by omega
     rw [e0]
     refine ⟨fun h0=>(by rw [h0] at hmem;cases hmem),fun j hj=> ?_⟩
     obtain ⟨oj,hoj,hj0,hje⟩:=ABk9 hj
     have hjl:j<ops.size:=(Zam.1 hoj).1
     have hji:j=i':=by
       rcases Nat.lt_trichotomy j i' with h1|h1|h1
       · have:=hl j hjl
         simp [hls,hjl] at hj0 this
         rw [hj0] at this;simp at this;omega
       · exact h1
       · have:=AEd9 hdown ops.size j oj hoj hje i' ((CAt9 s4 hoj).2 (by omega) i' (by omega))
         rw [hfar i' (Zau _)] at this;cases this
     subst hji
     unfold wpOpIn
     simp only [hoi]
     refine AJr9 ht hx fun s' b' hx' S' X'' V' w' m' hv' a' hw hm ht2=> ?_
     simp only [wOps] at hx'
     refine AHb9 hX hM l (i:=j+1) s5 he hx' (by simp [hls]) (fun j' hj'=> ?_) ⟨⟨ht2.rel.1,ht2.rel.2.1,by intro p hp;cases hp⟩,ht2.sub,ht2.env,ht2.round,ht2.marks,ht2.base⟩
       fun tm' hp' b'' hr S'' X3 V'' w'' m'' hv'' a'' hw' hm' ht'=>hK tm' hp' b'' hr S'' X3 V'' w'' m'' hv'' a'' (hw.trans hw') (hm.trans hm') ht'
     have:=hl j' hj'
     simp [hls,hj'] at this ⊢
     rw [Array.getElem_setIfInBounds (by rw [hls];exact hj')]
     split
     · subst_vars;simp
     · rw [this];simp;omega
   · split at h
     · rename_i hst
       obtain ⟨tmK,tb,h1,h2,h3,h4⟩:=ACc9 hX h
       split at h1
       · rename_i hnd
         have hcount:(unl ops.size listed).length=ops.size - i':=by
           have e:unl ops.size listed=(Zbk ops.size).filter fun j=> !decide (j<i'):=by
             unfold unl
             refine List.filter_congr fun j hj=> ?_
             rw [hl j (Zcd.1 hj)]
           rw [e]
           have e2:Zbk ops.size=Zbk i'++(Zbk (ops.size - i')).map (i'+ ·):=by
             rw [←List.range_add];congr 1;omega
           rw [e2,List.filter_append]
           have e3:(Zbk i').filter (fun j=> !decide (j<i'))= []:=by
             rw [List.filter_eq_nil_iff];intro j hj;have:=Zcd.1 hj;simp [this]
           rw [e3,List.filter_eq_self.2]
           · simp
           · intro j hj
             obtain ⟨l,_,rfl⟩:=Zbb.1 hj
             simp
         refine AXy9 (call:=tblD tb) (APy9 (h3 (by simp))) hst (by omega) s3 (h4 tb (ACm9 hnd)) (ops.size - i') hcount.symm
           ⟨hls,hlow,fun j hj=>hfar j (by omega),hdown,rfl,fun j o d h1 _ _ _ h2=>(by rw [hfar j h1] at h2;cases h2),fun _ _=>rfl⟩ ht.rel fun S' w' m' hv' a' hg hr hd hsz listed' hs' hl'=> ?_
         exact AHb9 hX hM l (i:=k) s5 he h1 hs' hl' (ht.step hg hr hd)
           fun tm' hp' b'' hr' S'' X3 V'' w'' m'' hv'' a'' hw' hm' ht'=>hK tm' hp' b'' hr' S'' X3 V'' w'' m'' hv'' a'' ((hg.went hr.slt).trans hw') (hg.ms.trans hm') ht'
       · exact h1.elim
     · exact h.elim
theorem BCg9 {ops:Array Oper}:∀ {l:List (Nat×Nat)} {i:Nat},ATk9 ops i l=true→ops.size=i∨∀(j:Nat) (o:Oper),ops[j]? =some o→∀e∈AAn9 o,e<j
 | [],i,h=> .inl (Zca h).symm
 | (a,k)::l,i,h=>by
   simp only [ATk9,Zaj] at h
   exact .inr fun j o ho=>(CAt9 h.2.2.2.1 ho).1
theorem AQq9 {id:Nat} {d:Bool} (hm:P.follows .mixedOrders=true) (hX:X.Ok) (hM:MOk Ev M) {K:List AV→List Blk→Ev.β→Prop} {Q:Exit→St Ev.β→Prop} (h:BCn9 P X M ops d tm hp b K) (hq:∀tm' hp' b',K tm' hp' b'→Q .normal ⟨tm',hp',b'⟩):
   W Ev (.region id ops d) ⟨tm,hp,b⟩ Q:=by
 unfold BCn9 at h
 cases d with
 |false=>exact W.region (AIb9 hX hM h fun _ _ h=>hq _ _ _ h)
 | true=>
   simp only [if_true] at h
   split at h
   · rename_i hs0
     have hs:ATk9 ops 0 (segsC ops)=true:=by
       rw [Zaj] at hs0;exact hs0.1
     refine W.ofWA hm fun lo r S X' V w m B hv a ht=> ?_
     have hget:∀j,(Array.replicate ops.size false).getD j false=false:=by intro j;simp [Array.getElem?_replicate];split<;>rfl
     have he:∀(j:Nat) (o:Oper),ops[j]? =some o→∀e∈AAn9 o,e<j:=(BCg9 hs).elim (fun h0 j o ho=>by
       have:=(Zam.1 ho).1;omega) fun h=>h
     have ht':=ht.drew
     refine AHb9 hX hM (segsC ops) (i:=0) hs he h (by simp) (fun j _=>by rw [hget];simp) ht' fun tm' hp' b' hk S'' X'' V'' w'' m'' hv'' a'' hw hm' ht''=> ?_
     exact ⟨⟨tm',hp',b'⟩,S'',X'',V'',m'',hv'',hq _ _ _ hk,⟨(AHm9 ht.rel.slt).trans hw,hm'⟩,ht''⟩
   · split at h
     · rename_i k hk
       have h':AQr9 P X M ops true tm hp b K:=by
         unfold AQr9
         simp only [if_true,hk]
         exact h
       exact AJe9 hm hX hM h' hq
     · exact h.elim
theorem CCs9 (hm:P.follows .mixedOrders=true) (hX:X.Ok) (hM:MOk Ev M) {wl:Code→List AV→List Blk→Ev.β→(Exit→List AV→List Blk→Ev.β→Prop)→Prop}
   (hwl:∀c tm hp b K,wl c tm hp b K→W Ev c ⟨tm,hp,b⟩ (fun e s=>K e s.tm s.hp s.b)):∀c tm hp b K,wlS P X M wl c tm hp b K→W Ev c ⟨tm,hp,b⟩ (fun e s=>K e s.tm s.hp s.b):=by
 intro c tm hp b K h
 cases c with
 |region id ops d=>exact AQq9 hm hX hM h fun _ _ _ h=>h
 |_=>exact hwl _ _ _ _ _ h
end
end Go.Proofs.YthcbbmnjikhihaaGreat.Am
namespace Go.Proofs.YthcbbmnjikhihaaGreat.Am
open Go Go.RowKit Go.Proofs Tryz
open AV renaming agg → Zao, bad → Zad, d → Zab, fn → Zat, ptr → Zak, rptr → Zag
open _root_.Array renaming getElem?_eq_some_iff → Zam
open BIf renaming f → Zdl, of → Zbh, t → Zbg
open BitVec renaming ofInt → Zeg
open Bool renaming and_eq_true → Zaj, false_and → Zdk, or_eq_true → Zdp
open AAb9 renaming cons → Zai, nil → Zal
open Go.Code renaming loop → Zaz
open Dv renaming s → Zdc, sl → Zaf
open Go.Exit renaming exit → Zbv
open Int renaming toNat → Zav
open Go.IntKind renaming i64 → Zay, wrap → Zae
open LeH renaming refl → Zce
open List renaming all_eq_true → Zbd, any → Zed, length → Zaa, length_cons → Zei, mem_map → Zbb, mem_range → Zcd, range → Zbk, replicate → Zaq
open MStep renaming refl → Zfa
open Nat renaming eq_of_beq_eq_true → Zca, le_refl → Zau, lt_or_ge → Zda
open PCall renaming ofFn → Zbe, ofFnW → Zdy
open Go.Region renaming ready → Zdr
open AAk9 renaming nil → Zah
open Go.Value renaming map → Zbm, pointer → Zcf
open WR renaming ofMask → Zdw
open Go.World renaming putObj_heap_other → Zcj
variable {β:Type} (wl:WLT β) (y:ACv9 β) (b:β) (R:AV→β→Prop) (Kr:AV→List Blk→β→Prop) (K:Exit→List AV→List Blk→β→Prop) (Kh:Exit→List Blk→β→Prop) (Q:β→Prop)
open AV (bad)
theorem mixed:Tryz.prog.follows .mixedOrders=true:=by kernel_rfl
set_option linter.unusedVariables false
set_option maxRecDepth 20000
def rowA (m:Int) (b:List Int):AV:= .agg [.d (i64 m), .d (.sl 1 (CBk9 b))]
def pad (b:List Int):List Int:=(b++Zaq 16 0).take 16
def fine (m:Int) (b:List Int):Bool:=decide (m≥1)&&(decide (m<65536)&&((b.length:Int)==16))
def xor8 (a b:Int):Int:=Zae IntKind.u8 ↑((Zeg 8 a ^^^ Zeg 8 b).toNat)
def xorL (p q:List Int):List Int:=(Zbk 16).map fun i=>xor8 (nth p i) (nth q i)
def lead (m:Int):Int:=(2 ^ m.toNat.log2:Nat)
def b16 (p:List Int):List Int:=(Zbk 16).map (nth p)
abbrev Row:=Int×List Int
def rowD (r:Row):List Dv:= [i64 r.1, .sl 1 (CBk9 r.2)]
def rowsR (l:List Row):List (List Dv):=l.map rowD
def and64 (a b:Int):Int:=Zae .i64 ((Zeg 64 a&&&Zeg 64 b).toNat:Nat)
def or64 (a b:Int):Int:=Zae .i64 ((Zeg 64 a|||Zeg 64 b).toNat:Nat)
def xor64 (a b:Int):Int:=Zae .i64 ((Zeg 64 a ^^^ Zeg 64 b).toNat:Nat)
def red (x:Row) (r:Row):Row:=if and64 x.1 (lead r.1) !=0 then (xor64 x.1 r.1,xorL x.2 (pad r.2)) else x
abbrev cell (x:Dv):Blk:=⟨[.d x],false,false,0⟩
def vA:List Row→Int×Int→(Int×Int)×Bool
 | [],s=>(s,true)
 |r::l,s=>if fine r.1 r.2&&decide (lead r.1<s.2) then vA l (or64 s.1 (lead r.1),lead r.1) else (s,false)
def vB (L:Int) (l:List Row):Bool:=l.all fun r=>and64 r.1 L==lead r.1
def CCt9 (l:List Row):Bool:=(vA l (0,65536)).2&&vB (vA l (0,65536)).1.1 l
def keepR (r:Row):Row:=(r.1,b16 (pad r.2))
def stepB (e:Row) (s:List Row×Bool) (r:Row):List Row×Bool:=
 ((if !s.2&&decide (lead r.1<lead e.1) then s.1++ [(e.1,b16 e.2)] else s.1)++ [if and64 r.1 (lead e.1) !=0 then (xor64 r.1 e.1,b16 (xorL (pad r.2) e.2)) else (r.1,b16 (pad r.2))],
  s.2||decide (lead r.1<lead e.1))
def CCi9 (p:List Int):Bool:=(Zbk 16).all fun i=>nth p i==0
def addR (x:List Row×Bool×Int):AV:= .tup [.d (.sl 2 (rowsR x.1)), .d (bo x.2.1), .d (i64 x.2.2)]
def addS (l:List Row) (m:Int) (b:List Int):List Row×Bool×Int:=
 if !CCt9 l|| !fine m b then ([],false,1) else
 let x:=l.foldl red (m,pad b)
 if x.1==0&&CCi9 x.2 then (l.map keepR,false,0) else if x.1==0 then ([],false,12) else
 let s:=l.foldl (stepB x) ([],false)
 (if !s.2 then s.1++ [(x.1,b16 x.2)] else s.1,true,0)
def c12 (args:List AV) (K:AV→Prop):Prop:=∃(l:List Row) (m:Int) (b:List Int) (x:List Row×Bool×Int),args= [.d (.sl 2 (rowsR l)),rowA m b]∧2*l.length≤1000000∧x=addS l m b∧K (addR x)
def fewS (l:List Row):Bool:=(l.all fun r=>decide (r.2.length≤100))&&decide (l.length≤40)
def c11 (args:List AV) (K:AV→Prop):Prop:=∃(l:List Row),args= [.d (.sl 2 (rowsR l))]∧l.length≤9223372036854775807∧K (.d (bo (fewS l)))
def nilA:AV:= .d (.s (.slice none 0 0))
set_option maxHeartbeats 1000000
structure LayT where
 no:Int
 da:Int
structure UseT where
 sl:Int
 of:Int
 pe:Int
 st:Int
 deriving DecidableEq
structure GraT where
 sl:Int
 of:Int
 pe:Int
 st:Int
 un:Int
 deriving DecidableEq
structure AskT where
 sl:Int
 of:Int
 pe:Int
 deriving DecidableEq
def layA (l:LayT):AV:= .agg [.d (i64 l.no), .d (i64 l.da)]
def cellA (sl of:Int):AV:= .agg [.d (i64 sl), .d (i64 of)]
def useA (u:UseT):AV:= .agg [.d (i64 u.sl), .d (i64 u.of), .d (i64 u.pe), .d (i64 u.st)]
def graA (g:GraT):AV:= .agg [.d (i64 g.sl), .d (i64 g.of), .d (i64 g.pe), .d (i64 g.st), .d (i64 g.un)]
def askA (a:AskT):AV:= .agg [.d (i64 a.sl), .d (i64 a.of), .d (i64 a.pe)]
def useR (u:UseT):List Dv:= [i64 u.sl,i64 u.of,i64 u.pe,i64 u.st]
def graR (g:GraT):List Dv:= [i64 g.sl,i64 g.of,i64 g.pe,i64 g.st,i64 g.un]
def askR (a:AskT):List Dv:= [i64 a.sl,i64 a.of,i64 a.pe]
def rowsU (us:List UseT):List (List Dv):=us.map useR
def rowsG (gs:List GraT):List (List Dv):=gs.map graR
def rowsA (l:List AskT):List (List Dv):=l.map askR
def inN (n h:Int):Bool:=decide (n≥0)&&decide (n≤h)
def ABr9 (sl of pe:Int) (l:LayT):Bool:=decide (sl≥0)&&(decide (sl<l.da)&&(decide (of≥0)&&(decide (of<16)&&(decide (pe≥0)&&decide (pe<l.no)))))
theorem in_nf (n h:Int):wpFn prog ⟨[], [],wl,y,false⟩ 100 f36 [.d (i64 n), .d (i64 h)] b R=(BIf (decide (n≥(0:Int))) (R (Zab (bo (decide (n≤h)))) b) (R (Zab (bo false)) b)):=by kernel_rfl
theorem BQs9 (u:UseT):wpFn prog ⟨[], [],wl,y,false⟩ 100 f108 [useA u] b R=(R (Zao [Zab (i64 (UseT.sl u)),Zab (i64 (UseT.of u)),Zab (i64 (UseT.pe u)),Zab (i64 (UseT.st u))]) b):=by kernel_rfl
theorem BQt9 (g:GraT):wpFn prog ⟨[], [],wl,y,false⟩ 100 f95 [graA g] b R=(R (Zao [Zab (i64 (GraT.sl g)),Zab (i64 (GraT.of g)),Zab (i64 (GraT.pe g)),Zab (i64 (GraT.st g)),Zab (i64 (GraT.un g))]) b):=by kernel_rfl
theorem BQu9 (a:AskT):wpFn prog ⟨[], [],wl,y,false⟩ 100 f118 [askA a] b R=(R (Zao [Zab (i64 (AskT.sl a)),Zab (i64 (AskT.of a)),Zab (i64 (AskT.pe a))]) b):=by kernel_rfl
theorem BJn9 (sl of pe:Int) (l:LayT):wpFn prog ⟨[], [],wl,y,false⟩ 100 f169 [cellA sl of, .d (i64 pe),layA l] b R=(BIf (decide (sl≥(0:Int))) (BIf (decide (sl<LayT.da l)) (BIf (decide (of≥(0:Int))) (BIf (decide (of<(16:Int))) (BIf (decide (pe≥(0:Int))) (R (.d (bo (decide (pe<LayT.no l)))) b) (R (.d (bo false)) b)) (R (.d (bo false)) b)) (R (.d (bo false)) b)) (R (.d (bo false)) b)) (R (.d (bo false)) b)):=by kernel_rfl
theorem BLw9 (sl of pe:Int) (l:LayT):wpFn prog ⟨[], [],wl,y,false⟩ 100 f62 [cellA sl of, .d (i64 pe),layA l] b R=(BIf (decide (sl≥(0:Int))) (BIf (decide (sl<LayT.da l)) (BIf (decide (of≥(0:Int))) (BIf (decide (of<(16:Int))) (BIf (decide (pe≥(0:Int))) (R (.d (bo (decide (pe<LayT.no l)))) b) (R (.d (bo false)) b)) (R (.d (bo false)) b)) (R (.d (bo false)) b)) (R (.d (bo false)) b)) (R (.d (bo false)) b)):=by kernel_rfl
theorem BUe9 (u:UseT):wpFn prog ⟨[], [],wl,y,false⟩ 100 f170 [useA u] b R=(R (Zao [Zab (i64 (UseT.sl u)),Zab (i64 (UseT.of u))]) b):=by kernel_rfl
theorem BUf9 (g:GraT):wpFn prog ⟨[], [],wl,y,false⟩ 100 f167 [graA g] b R=(R (Zao [Zab (i64 (GraT.sl g)),Zab (i64 (GraT.of g))]) b):=by kernel_rfl
theorem BLv9 (a:AskT):wpFn prog ⟨[], [],wl,y,false⟩ 100 f172 [askA a] b R=(R (Zao [Zab (i64 (AskT.sl a)),Zab (i64 (AskT.of a))]) b):=by kernel_rfl
theorem pcIn (n h:Int):PCall prog 36 [.d (i64 n), .d (i64 h)] (.d (bo (inN n h))):=by
 refine Zbe (n:=100) (u:=false) mixed Zal Zah func36 (by rfl) (by rfl) fun Ev bb=> ?_
 rw [in_nf]
 repeat' (refine Zbh (fun _=> ?_) fun _=> ?_)
 all_goals (rw [inN];simp only [*,Bool.true_and,Zdk])
def cIn (args:List AV) (K:AV→Prop):Prop:=∃(n h:Int) (z:Bool),args= [.d (i64 n), .d (i64 h)]∧z=inN n h∧K (.d (bo z))
theorem BFy9:∀args K,cIn args K→∃x,PCall prog 36 args x∧K x:=by
 rintro _ K ⟨n,h,_,rfl,rfl,hk⟩;exact ⟨_,pcIn n h,hk⟩
theorem BYy9 (u:UseT):PCall prog 108 [useA u] (useA u):=by
 refine Zbe (n:=100) (u:=false) mixed Zal Zah func108 (by rfl) (by rfl) fun Ev bb=> ?_
 rw [BQs9];rfl
def BUi9 (args:List AV) (K:AV→Prop):Prop:=∃u:UseT,args= [useA u]∧K (useA u)
theorem AWh9:∀args K,BUi9 args K→∃x,PCall prog 108 args x∧K x:=by
 rintro _ K ⟨u,rfl,hk⟩;exact ⟨_,BYy9 u,hk⟩
theorem BYz9 (g:GraT):PCall prog 95 [graA g] (graA g):=by
 refine Zbe (n:=100) (u:=false) mixed Zal Zah func95 (by rfl) (by rfl) fun Ev bb=> ?_
 rw [BQt9];rfl
def BMa9 (args:List AV) (K:AV→Prop):Prop:=∃u:GraT,args= [graA u]∧K (graA u)
theorem APi9:∀args K,BMa9 args K→∃x,PCall prog 95 args x∧K x:=by
 rintro _ K ⟨u,rfl,hk⟩;exact ⟨_,BYz9 u,hk⟩
theorem BZa9 (a:AskT):PCall prog 118 [askA a] (askA a):=by
 refine Zbe (n:=100) (u:=false) mixed Zal Zah func118 (by rfl) (by rfl) fun Ev bb=> ?_
 rw [BQu9];rfl
def BUj9 (args:List AV) (K:AV→Prop):Prop:=∃u:AskT,args= [askA u]∧K (askA u)
theorem AWi9:∀args K,BUj9 args K→∃x,PCall prog 118 args x∧K x:=by
 rintro _ K ⟨u,rfl,hk⟩;exact ⟨_,BZa9 u,hk⟩
theorem BRm9 (sl of pe:Int) (l:LayT):PCall prog 169 [cellA sl of, .d (i64 pe),layA l] (.d (bo (ABr9 sl of pe l))):=by
 refine Zbe (n:=100) (u:=false) mixed Zal Zah func169 (by rfl) (by rfl) fun Ev bb=> ?_
 rw [BJn9]
 repeat' (refine Zbh (fun _=> ?_) fun _=> ?_)
 all_goals (rw [ABr9];simp only [*,Bool.true_and,Zdk])
def BOi9 (args:List AV) (K:AV→Prop):Prop:=∃(sl of pe:Int) (l:LayT) (z:Bool),args= [cellA sl of, .d (i64 pe),layA l]∧z=ABr9 sl of pe l∧K (.d (bo z))
theorem BFt9:∀args K,BOi9 args K→∃x,PCall prog 169 args x∧K x:=by
 rintro _ K ⟨sl,of,pe,l,_,rfl,rfl,hk⟩;exact ⟨_,BRm9 sl of pe l,hk⟩
theorem BSg9 (sl of pe:Int) (l:LayT):PCall prog 62 [cellA sl of, .d (i64 pe),layA l] (.d (bo (ABr9 sl of pe l))):=by
 refine Zbe (n:=100) (u:=false) mixed Zal Zah func62 (by rfl) (by rfl) fun Ev bb=> ?_
 rw [BLw9]
 repeat' (refine Zbh (fun _=> ?_) fun _=> ?_)
 all_goals (rw [ABr9];simp only [*,Bool.true_and,Zdk])
def BPd9 (args:List AV) (K:AV→Prop):Prop:=∃(sl of pe:Int) (l:LayT) (z:Bool),args= [cellA sl of, .d (i64 pe),layA l]∧z=ABr9 sl of pe l∧K (.d (bo z))
theorem BHk9:∀args K,BPd9 args K→∃x,PCall prog 62 args x∧K x:=by
 rintro _ K ⟨sl,of,pe,l,_,rfl,rfl,hk⟩;exact ⟨_,BSg9 sl of pe l,hk⟩
def layOk (l:LayT):Bool:=decide (l.no≥1)&&(decide (l.no≤60)&&(decide (l.da≥1)&&decide (l.da≤60)))
theorem BZj9 (u:UseT):PCall prog 170 [useA u] (cellA u.sl u.of):=by
 refine Zbe (n:=100) (u:=false) mixed Zal Zah func170 (by rfl) (by rfl) fun Ev bb=> ?_
 rw [BUe9];rfl
theorem BZk9 (u:GraT):PCall prog 167 [graA u] (cellA u.sl u.of):=by
 refine Zbe (n:=100) (u:=false) mixed Zal Zah func167 (by rfl) (by rfl) fun Ev bb=> ?_
 rw [BUf9];rfl
theorem BZl9 (u:AskT):PCall prog 172 [askA u] (cellA u.sl u.of):=by
 refine Zbe (n:=100) (u:=false) mixed Zal Zah func172 (by rfl) (by rfl) fun Ev bb=> ?_
 rw [BLv9];rfl
def BMk9 (args:List AV) (K:AV→Prop):Prop:=∃u:UseT,args= [useA u]∧K (cellA u.sl u.of)
theorem APj9:∀args K,BMk9 args K→∃x,PCall prog 170 args x∧K x:=by
 rintro _ K ⟨u,rfl,hk⟩;exact ⟨_,BZj9 u,hk⟩
def BMl9 (args:List AV) (K:AV→Prop):Prop:=∃u:GraT,args= [graA u]∧K (cellA u.sl u.of)
theorem APk9:∀args K,BMl9 args K→∃x,PCall prog 167 args x∧K x:=by
 rintro _ K ⟨u,rfl,hk⟩;exact ⟨_,BZk9 u,hk⟩
def BPc9 (args:List AV) (K:AV→Prop):Prop:=∃u:AskT,args= [askA u]∧K (cellA u.sl u.of)
theorem BHj9:∀args K,BPc9 args K→∃x,PCall prog 172 args x∧K x:=by
 rintro _ K ⟨u,rfl,hk⟩;exact ⟨_,BZl9 u,hk⟩
def useOk (u:UseT) (l:LayT):Bool:=ABr9 u.sl u.of u.pe l&&(decide (u.st≥0)&&decide (u.st≤1000000000))
def graOk (g:GraT) (l:LayT):Bool:=ABr9 g.sl g.of g.pe l&&(decide (g.st≥0)&&(decide (g.st≤g.un)&&decide (g.un≤1000000000)))
def askOk (a:AskT) (l:LayT):Bool:=ABr9 a.sl a.of a.pe l
def TPl:List (Nat×(List AV→(AV→Prop)→Prop)):= [(169,BOi9),(62,BPd9),(36,cIn)]
theorem BMr9:AAb9 prog TPl:=Zai BFt9 (Zai BHk9 (Zai BFy9 Zal))
abbrev Qz5 (v0:LayT):List AV:= [Zab (i64 (LayT.no v0)),Zab (i64 (LayT.da v0))]
theorem BIt9 (u:UseT) (l:LayT):wpFn prog ⟨TPl, [],wl,y,false⟩ 100 f171 [useA u,layA l] b R=(∃(sl0:Int) (of1:Int) (pe2:Int) (l3:LayT) (z4:Bool), [Zao [Zab (i64 (UseT.sl u)),Zab (i64 (UseT.of u))],Zab (i64 (UseT.pe u)),Zao (Qz5 l)]= [Zao [Zab (i64 sl0),Zab (i64 of1)],Zab (i64 pe2),Zao (Qz5 l3)]∧z4=ABr9 sl0 of1 pe2 l3∧BIf z4 (BIf (decide (UseT.st u≥(0:Int))) (R (.d (bo (decide (UseT.st u≤(1000000000:Int))))) b) (R (.d (bo false)) b)) (R (.d (bo false)) b)):=by kernel_rfl
theorem BKs9 (u:GraT) (l:LayT):wpFn prog ⟨TPl, [],wl,y,false⟩ 100 f168 [graA u,layA l] b R=(∃(sl0:Int) (of1:Int) (pe2:Int) (l3:LayT) (z4:Bool), [Zao [Zab (i64 (GraT.sl u)),Zab (i64 (GraT.of u))],Zab (i64 (GraT.pe u)),Zao (Qz5 l)]= [Zao [Zab (i64 sl0),Zab (i64 of1)],Zab (i64 pe2),Zao (Qz5 l3)]∧z4=ABr9 sl0 of1 pe2 l3∧BIf z4 (BIf (decide (GraT.st u≥(0:Int))) (BIf (decide (GraT.st u≤GraT.un u)) (R (.d (bo (decide (GraT.un u≤(1000000000:Int))))) b) (R (.d (bo false)) b)) (R (.d (bo false)) b)) (R (.d (bo false)) b)):=by kernel_rfl
theorem BMo9 (u:AskT) (l:LayT):wpFn prog ⟨TPl, [],wl,y,false⟩ 100 f173 [askA u,layA l] b R=(∃(sl0:Int) (of1:Int) (pe2:Int) (l3:LayT) (z4:Bool), [Zao [Zab (i64 (AskT.sl u)),Zab (i64 (AskT.of u))],Zab (i64 (AskT.pe u)),Zao (Qz5 l)]= [Zao [Zab (i64 sl0),Zab (i64 of1)],Zab (i64 pe2),Zao (Qz5 l3)]∧z4=ABr9 sl0 of1 pe2 l3∧R (.d (bo z4)) b):=by kernel_rfl
theorem BKp9 (sl of pe:Int) (l:LayT):wpFn prog ⟨TPl, [],wl,y,false⟩ 100 f81 [layA l,cellA sl of, .d (i64 pe)] b R=(∃(n0:Int) (h1:Int) (z2:Bool), [Zab (i64 sl),Zab (i64 (Zae .i64 (LayT.da l - (1:Int))))]= [Zab (i64 n0),Zab (i64 h1)]∧z2=inN n0 h1∧BIf z2 (∃(n3:Int) (h4:Int) (z5:Bool), [Zab (i64 of),Zab (i64 15)]= [Zab (i64 n3),Zab (i64 h4)]∧z5=inN n3 h4∧BIf z5 (∃(n6:Int) (h7:Int) (z8:Bool), [Zab (i64 pe),Zab (i64 (Zae .i64 (LayT.no l - (1:Int))))]= [Zab (i64 n6),Zab (i64 h7)]∧z8=inN n6 h7∧R (.d (bo z8)) b) (R (.d (bo false)) b)) (R (.d (bo false)) b)):=by kernel_rfl
theorem BRl9 (u:UseT) (l:LayT):PCall prog 171 [useA u,layA l] (.d (bo (useOk u l))):=by
 refine Zbe (n:=100) (u:=false) mixed BMr9 Zah func171 (by rfl) (by rfl) fun Ev bb=> ?_
 rw [BIt9]
 refine ⟨_,_,_,l,_,rfl,rfl, ?_⟩
 repeat' (refine Zbh (fun _=> ?_) fun _=> ?_)
 all_goals (rw [useOk];simp only [*,Bool.true_and,Zdk])
theorem BRr9 (u:GraT) (l:LayT):PCall prog 168 [graA u,layA l] (.d (bo (graOk u l))):=by
 refine Zbe (n:=100) (u:=false) mixed BMr9 Zah func168 (by rfl) (by rfl) fun Ev bb=> ?_
 rw [BKs9]
 refine ⟨_,_,_,l,_,rfl,rfl, ?_⟩
 repeat' (refine Zbh (fun _=> ?_) fun _=> ?_)
 all_goals (rw [graOk];simp only [*,Bool.true_and,Zdk])
theorem BSh9 (u:AskT) (l:LayT):PCall prog 173 [askA u,layA l] (.d (bo (askOk u l))):=by
 refine Zbe (n:=100) (u:=false) mixed BMr9 Zah func173 (by rfl) (by rfl) fun Ev bb=> ?_
 rw [BMo9]
 exact ⟨_,_,_,l,_,rfl,rfl,rfl⟩
def ABv9 (sl of pe:Int) (l:LayT):Bool:=inN sl (Zae Zay (l.da - 1))&&(inN of 15&&inN pe (Zae Zay (l.no - 1)))
theorem BRp9 (sl of pe:Int) (l:LayT):PCall prog 81 [layA l,cellA sl of, .d (i64 pe)] (.d (bo (ABv9 sl of pe l))):=by
 refine Zbe (n:=100) (u:=false) mixed BMr9 Zah func81 (by rfl) (by rfl) fun Ev bb=> ?_
 rw [BKp9]
 refine ⟨_,_,_,rfl,rfl,Zbh (fun h1=>⟨_,_,_,rfl,rfl,Zbh (fun h2=>⟨_,_,_,rfl,rfl, ?_⟩) fun h2=> ?_⟩) fun h1=> ?_⟩
 all_goals (rw [ABv9];simp only [*,Bool.true_and,Zdk])
def BOe9 (args:List AV) (K:AV→Prop):Prop:=∃(u:UseT) (l:LayT) (z:Bool),args= [useA u,layA l]∧z=useOk u l∧K (.d (bo z))
theorem BFn9:∀args K,BOe9 args K→∃x,PCall prog 171 args x∧K x:=by
 rintro _ K ⟨u,l,_,rfl,rfl,hk⟩;exact ⟨_,BRl9 u l,hk⟩
def BOm9 (args:List AV) (K:AV→Prop):Prop:=∃(u:GraT) (l:LayT) (z:Bool),args= [graA u,layA l]∧z=graOk u l∧K (.d (bo z))
theorem BGh9:∀args K,BOm9 args K→∃x,PCall prog 168 args x∧K x:=by
 rintro _ K ⟨u,l,_,rfl,rfl,hk⟩;exact ⟨_,BRr9 u l,hk⟩
def BPe9 (args:List AV) (K:AV→Prop):Prop:=∃(u:AskT) (l:LayT) (z:Bool),args= [askA u,layA l]∧z=askOk u l∧K (.d (bo z))
theorem BHl9:∀args K,BPe9 args K→∃x,PCall prog 173 args x∧K x:=by
 rintro _ K ⟨u,l,_,rfl,rfl,hk⟩;exact ⟨_,BSh9 u l,hk⟩
def BFx9 (args:List AV) (K:AV→Prop):Prop:=∃(sl of pe:Int) (l:LayT) (z:Bool),args= [layA l,cellA sl of, .d (i64 pe)]∧z=ABv9 sl of pe l∧K (.d (bo z))
theorem ASb9:∀args K,BFx9 args K→∃x,PCall prog 81 args x∧K x:=by
 rintro _ K ⟨sl,of,pe,l,_,rfl,rfl,hk⟩;exact ⟨_,BRp9 sl of pe l,hk⟩
theorem wrapN {j:Nat} (h:j<9223372036854775807):Zae Zay ((j:Int)+1)=((j+1:Nat):Int):=by
 rw [AAt9 (by omega) (by omega)];omega
theorem WR.scanL {α:Type} {P:Program} {Ev:Env P} {X:CX Ev.β} {lp:Code} {b:Ev.β} {Q:Exit→St Ev.β→Prop} {k:Nat} (keep:List Nat) (hm:P.follows .mixedOrders=true) (hX:X.Ok) (xs:List α) (p:α→Bool) (tmOf tmR:Nat→List AV) (hp:List Blk) (id:Nat)
   (hr:∀(i:Nat) (x:α),i<xs.length→xs[i]? =some x→∀K:Exit→List AV→List Blk→Ev.β→Prop,(p x=true→K .ret (tmR i) hp b)→(p x=false→K .normal (tmOf (i+1)) hp b)→wpc P X k lp (tmOf i) hp b (maskK hp.length keep K))
   (he:∀K:Exit→List AV→List Blk→Ev.β→Prop,K (.exit id) (tmOf xs.length) hp b→wpc P X k lp (tmOf xs.length) hp b (maskK hp.length keep K))
   (h1:xs.any p=false→Q (.exit id) ⟨tmOf xs.length,hp,b⟩) (h2:xs.any p=true→∀i,Q .ret ⟨tmR i,hp,b⟩):WR Ev lp (xs.length+1) ⟨tmOf 0,hp,b⟩ Q:=by
 have key:∀(m i:Nat),i+m=xs.length→(xs.take i).any p=false→WR Ev lp (m+1) ⟨tmOf i,hp,b⟩ Q:=by
   intro m
   induction m with
   | zero=>
     intro i hi hj
     have:i=xs.length:=by omega
     subst this
     rw [List.take_length] at hj
     exact Zdw keep hm hX (he _ (h1 hj))
   | succ m ih=>
     intro i hi hj
     have hil:i<xs.length:=by omega
     refine Zdw keep hm hX (hr i xs[i] hil (by simp [hil]) _ (fun h=>h2 ?_ _) fun h=> ?_)
     · exact List.any_eq_true.2 ⟨xs[i],List.getElem_mem hil,h⟩
     · refine ih (i+1) (by omega) ?_
       rw [List.take_succ_eq_append_getElem hil,List.any_append,hj]
       simp [h]
 exact key xs.length 0 (by omega) rfl
theorem WR.gathL {α γ:Type} {P:Program} {Ev:Env P} {X:CX Ev.β} {lp:Code} {b:Ev.β} {Q:Exit→St Ev.β→Prop} {k:Nat} (keep:List Nat) (hm:P.follows .mixedOrders=true) (hX:X.Ok) (xs:List α) (f:α→List γ) (hf:∀x,(f x).length≤1) (tmOf:List γ→Nat→List AV) (hp:List Blk) (id:Nat)
   (hr:∀(i:Nat) (x:α) (acc:List γ),i<xs.length→xs[i]? =some x→acc.length≤i→∀K:Exit→List AV→List Blk→Ev.β→Prop,K .normal (tmOf (acc++f x) (i+1)) hp b→wpc P X k lp (tmOf acc i) hp b (maskK hp.length keep K))
   (he:∀(acc:List γ) (K:Exit→List AV→List Blk→Ev.β→Prop),K (.exit id) (tmOf acc xs.length) hp b→wpc P X k lp (tmOf acc xs.length) hp b (maskK hp.length keep K))
   (hQ:Q (.exit id) ⟨tmOf (xs.flatMap f) xs.length,hp,b⟩):WR Ev lp (xs.length+1) ⟨tmOf [] 0,hp,b⟩ Q:=by
 have hlen:∀i,((xs.take i).flatMap f).length≤i:=by
   intro i
   have:∀l:List α,(l.flatMap f).length≤l.length:=by
     intro l
     induction l with
     |nil=>exact Zau _
     |cons x r ih=>have:=hf x;simp only [List.flatMap_cons,List.length_append,Zei];omega
   have h1:=this (xs.take i)
   have h2:(xs.take i).length≤i:=List.length_take_le _ _
   omega
 have key:∀(m i:Nat),i+m=xs.length→WR Ev lp (m+1) ⟨tmOf ((xs.take i).flatMap f) i,hp,b⟩ Q:=by
   intro m
   induction m with
   | zero=>
     intro i hi
     have:i=xs.length:=by omega
     subst this
     rw [List.take_length]
     exact Zdw keep hm hX (he _ _ hQ)
   | succ m ih=>
     intro i hi
     have hil:i<xs.length:=by omega
     refine Zdw keep hm hX (hr i xs[i] _ hil (by simp [hil]) (hlen i) _ ?_)
     have e:(xs.take i).flatMap f++f xs[i]=(xs.take (i+1)).flatMap f:=by
       rw [List.take_succ_eq_append_getElem hil,List.flatMap_append];simp
     rw [e]
     exact ih (i+1) (by omega)
 exact key xs.length 0 (by omega)
structure TabT where
 us:List UseT
 gs:List GraT
 ak:List AskT
def tabA (t:TabT):AV:= .agg [.d (.sl 4 (rowsU t.us)), .d (.sl 5 (rowsG t.gs)), .d (.sl 3 (rowsA t.ak))]
def tabB (t:TabT):Blk:=⟨[.d (.sl 4 (rowsU t.us)), .d (.sl 5 (rowsG t.gs)), .d (.sl 3 (rowsA t.ak))],false,false,0⟩
theorem AAi9 (l:List UseT):(rowsU l).length=l.length:=by simp [rowsU]
theorem AAh9 (l:List GraT):(rowsG l).length=l.length:=by simp [rowsG]
theorem AAx9 (l:List AskT):(rowsA l).length=l.length:=by simp [rowsA]
theorem AEl9 {l:List UseT} {i:Nat} {x:UseT} (h:l[i]? =some x):(rowsU l)[Zav ((i:Nat):Int)]? =some (useR x):=by simp [rowsU,h]
theorem ADc9 {l:List GraT} {i:Nat} {x:GraT} (h:l[i]? =some x):(rowsG l)[Zav ((i:Nat):Int)]? =some (graR x):=by simp [rowsG,h]
theorem ACr9 {l:List AskT} {i:Nat} {x:AskT} (h:l[i]? =some x):(rowsA l)[Zav ((i:Nat):Int)]? =some (askR x):=by simp [rowsA,h]
theorem natI (i:Nat):(true&&decide ((0:Int)≤((i:Nat):Int)))=true:=by simp
structure NearT where
 fr:Int
 fm:Int
 us:List UseT
 gs:List GraT
 ak:List AskT
 x2:Int
 x3:Int
 x4:Int
 x5:Int
 x6:Int
 x7:Int
 x8:Int
 x9:Int
 x10:Int
 x11:Int
 s15:List (List Dv)
 b16:Bool
 s17:List (List Dv)
 s18:List (List Dv)
 s19:List (List Dv)
 x20:Int
 x21:Int
 x22:Int
 x23:Int
 x24:Int
 x25:Int
 x26:Int
 x27:Int
 s28:List (List Dv)
 s29:List (List Dv)
 b30:Bool
def nearR (n:NearT):List Dv:= [i64 n.fr,i64 n.fm,i64 n.x2,i64 n.x3,i64 n.x4,i64 n.x5,i64 n.x6,i64 n.x7,i64 n.x8,i64 n.x9,i64 n.x10,i64 n.x11, .sl 4 (rowsU n.us), .sl 5 (rowsG n.gs), .sl 3 (rowsA n.ak), .sl 4 n.s15,bo n.b16, .sl 8 n.s17, .sl 8 n.s18, .sl 1 n.s19,i64 n.x20,i64 n.x21,u64 n.x22,i64 n.x23,i64 n.x24,i64 n.x25,i64 n.x26,i64 n.x27, .sl 1 n.s28, .sl 1 n.s29,bo n.b30]
def nearA (n:NearT):AV:= .agg [.d (i64 n.fr), .d (i64 n.fm), .d (i64 n.x2), .d (i64 n.x3), .d (i64 n.x4), .d (i64 n.x5), .d (i64 n.x6), .d (i64 n.x7), .d (i64 n.x8), .d (i64 n.x9), .d (i64 n.x10), .d (i64 n.x11), .d (.sl 4 (rowsU n.us)), .d (.sl 5 (rowsG n.gs)), .d (.sl 3 (rowsA n.ak)), .d (.sl 4 n.s15), .d (bo n.b16), .d (.sl 8 n.s17), .d (.sl 8 n.s18), .d (.sl 1 n.s19), .d (i64 n.x20), .d (i64 n.x21), .d (u64 n.x22), .d (i64 n.x23), .d (i64 n.x24), .d (i64 n.x25), .d (i64 n.x26), .d (i64 n.x27), .d (.sl 1 n.s28), .d (.sl 1 n.s29), .d (bo n.b30)]
def nearB (n:NearT):Blk:=⟨[.d (i64 n.fr), .d (i64 n.fm), .d (i64 n.x2), .d (i64 n.x3), .d (i64 n.x4), .d (i64 n.x5), .d (i64 n.x6), .d (i64 n.x7), .d (i64 n.x8), .d (i64 n.x9), .d (i64 n.x10), .d (i64 n.x11), .d (.sl 4 (rowsU n.us)), .d (.sl 5 (rowsG n.gs)), .d (.sl 3 (rowsA n.ak)), .d (.sl 4 n.s15), .d (bo n.b16), .d (.sl 8 n.s17), .d (.sl 8 n.s18), .d (.sl 1 n.s19), .d (i64 n.x20), .d (i64 n.x21), .d (u64 n.x22), .d (i64 n.x23), .d (i64 n.x24), .d (i64 n.x25), .d (i64 n.x26), .d (i64 n.x27), .d (.sl 1 n.s28), .d (.sl 1 n.s29), .d (bo n.b30)],false,false,0⟩
def rowsN (l:List NearT):List (List Dv):=l.map nearR
theorem AFk9 (l:List NearT):(rowsN l).length=l.length:=by simp [rowsN]
theorem AEm9 {l:List NearT} {i:Nat} {x:NearT} (h:l[i]? =some x):(rowsN l)[Zav ((i:Nat):Int)]? =some (nearR x):=by simp [rowsN,h]
def layB (l:LayT):Blk:=⟨[.d (i64 l.no), .d (i64 l.da)],false,false,0⟩
def AGk9 (x:NearT):Prop:=x.us.length≤9223372036854775807∧x.gs.length≤9223372036854775807∧x.ak.length≤9223372036854775807
def TtU:List (Nat×(List AV→(AV→Prop)→Prop)):= [(108,BUi9),(95,BMa9),(118,BUj9)]
theorem BVd9:AAb9 prog TtU:=Zai AWh9 (Zai APi9 (Zai AWi9 Zal))
noncomputable def lpEU:Code:=sub [1,1,0,1,2,3] (code f113)
noncomputable def lpEG:Code:=sub [1,1,0,1,2,3] (code f115)
noncomputable def lpEA:Code:=sub [1,1,0,1,2,3] (code f117)
def tmE (k cf:Nat) (xs:List (List Dv)) (acc:AV) (n i:Int):List AV:= [.bad, .fn (.func cf) [] [], .bad, .bad, .bad,acc, .bad, .bad, .d (.sl k xs), .d (i64 n), .d (i64 i)]++Zaq 11 .bad
abbrev Qz10 (v0:UseT):List AV:= [Zab (i64 (UseT.sl v0)),Zab (i64 (UseT.of v0)),Zab (i64 (UseT.pe v0)),Zab (i64 (UseT.st v0))]
abbrev Qz15 (v0:UseT):= [i64 (UseT.sl v0),i64 (UseT.of v0),i64 (UseT.pe v0),i64 (UseT.st v0)]
abbrev Qz38 (v0:Int) (v1:Int) (v2:Int) (v3:Int):List AV:= [Zab (i64 v0),Zab (i64 v1),Zab (i64 v2),Zab (i64 v3)]
def bds:Nat→List AV→List AV|0,l=>l|n+1,l=>Zad::bds n l
theorem rEU (l:List UseT) (xs:List (List Dv)) (n i:Int):wpc prog ⟨TtU, [],wl,y,false⟩ 100 lpEU (tmE 4 108 (rowsU l) (.own 149 4 xs) n i) [] b (maskK 0 [1,5,8,9,10] K)=(BIf (decide (i<n)) (BIf (true&&decide (0≤i)) (∃(x0:Int) (x1:Int) (x2:Int) (x3:Int),(rowsU l)[Zav i]? =some [i64 x0,i64 x1,i64 x2,i64 x3]∧∃(u6:UseT), [Zao (Qz38 x0 x1 x2 x3)]= [Zao (Qz10 u6)]∧BIf (true&&decide ((Zaa xs+1)*32≤140737488355328)) (K .normal (Zad::Zat (Fn.func 108) [] []::bds 3 (AV.own 149 4 (xs++ [Qz15 u6])::Zad::Zad::Zab (Zaf 4 (rowsU l))::Zab (i64 n)::Zab (i64 (Zae .i64 (i+1)))::bds 11 [])) [] b) False) False) (K (Zbv 0) (Zad::Zat (Fn.func 108) [] []::bds 3 (AV.own 149 4 xs::Zad::Zad::Zab (Zaf 4 (rowsU l))::Zab (i64 n)::Zab (i64 i)::bds 11 [])) [] b)):=by kernel_rfl
abbrev Qz7 (v0:GraT):List AV:= [Zab (i64 (GraT.sl v0)),Zab (i64 (GraT.of v0)),Zab (i64 (GraT.pe v0)),Zab (i64 (GraT.st v0)),Zab (i64 (GraT.un v0))]
abbrev Qz18 (v0:GraT):= [i64 (GraT.sl v0),i64 (GraT.of v0),i64 (GraT.pe v0),i64 (GraT.st v0),i64 (GraT.un v0)]
abbrev Qz24 (v0:Int) (v1:Int) (v2:Int) (v3:Int) (v4:Int):List AV:= [Zab (i64 v0),Zab (i64 v1),Zab (i64 v2),Zab (i64 v3),Zab (i64 v4)]
abbrev Qz48 (v0:Int) (v1:Int) (v2:Int) (v3:Int) (v4:Int):= [i64 v0,i64 v1,i64 v2,i64 v3,i64 v4]
theorem rEG (l:List GraT) (xs:List (List Dv)) (n i:Int):wpc prog ⟨TtU, [],wl,y,false⟩ 100 lpEG (tmE 5 95 (rowsG l) (.own 140 5 xs) n i) [] b (maskK 0 [1,5,8,9,10] K)=(BIf (decide (i<n)) (BIf (true&&decide (0≤i)) (∃(x0:Int) (x1:Int) (x2:Int) (x3:Int) (x4:Int),(rowsG l)[Zav i]? =some (Qz48 x0 x1 x2 x3 x4)∧∃(u7:GraT), [Zao (Qz24 x0 x1 x2 x3 x4)]= [Zao (Qz7 u7)]∧BIf (true&&decide ((Zaa xs+1)*40≤140737488355328)) (K .normal (Zad::Zat (Fn.func 95) [] []::bds 3 (AV.own 140 5 (xs++ [Qz18 u7])::Zad::Zad::Zab (Zaf 5 (rowsG l))::Zab (i64 n)::Zab (i64 (Zae .i64 (i+1)))::bds 11 [])) [] b) False) False) (K (Zbv 0) (Zad::Zat (Fn.func 95) [] []::bds 3 (AV.own 140 5 xs::Zad::Zad::Zab (Zaf 5 (rowsG l))::Zab (i64 n)::Zab (i64 i)::bds 11 [])) [] b)):=by kernel_rfl
abbrev Qz13 (v0:AskT):List AV:= [Zab (i64 (AskT.sl v0)),Zab (i64 (AskT.of v0)),Zab (i64 (AskT.pe v0))]
abbrev Qz27 (v0:Int) (v1:Int) (v2:Int):List AV:= [Zab (i64 v0),Zab (i64 v1),Zab (i64 v2)]
theorem rEA (l:List AskT) (xs:List (List Dv)) (n i:Int):wpc prog ⟨TtU, [],wl,y,false⟩ 100 lpEA (tmE 3 118 (rowsA l) (.own 162 3 xs) n i) [] b (maskK 0 [1,5,8,9,10] K)=(BIf (decide (i<n)) (BIf (true&&decide (0≤i)) (∃(x0:Int) (x1:Int) (x2:Int),(rowsA l)[Zav i]? =some [i64 x0,i64 x1,i64 x2]∧∃(u5:AskT), [Zao (Qz27 x0 x1 x2)]= [Zao (Qz13 u5)]∧BIf (true&&decide ((Zaa xs+1)*24≤140737488355328)) (K .normal (Zad::Zat (Fn.func 118) [] []::bds 3 (AV.own 162 3 (xs++ [[i64 (AskT.sl u5),i64 (AskT.of u5),i64 (AskT.pe u5)]])::Zad::Zad::Zab (Zaf 3 (rowsA l))::Zab (i64 n)::Zab (i64 (Zae .i64 (i+1)))::bds 11 [])) [] b) False) False) (K (Zbv 0) (Zad::Zat (Fn.func 118) [] []::bds 3 (AV.own 162 3 xs::Zad::Zad::Zab (Zaf 3 (rowsA l))::Zab (i64 n)::Zab (i64 i)::bds 11 [])) [] b)):=by kernel_rfl
theorem AVn9 (a b:List UseT):rowsU (a++b)=rowsU a++rowsU b:=by simp [rowsU]
theorem AOi9 (a b:List GraT):rowsG (a++b)=rowsG a++rowsG b:=by simp [rowsG]
theorem AVo9 (a b:List AskT):rowsA (a++b)=rowsA a++rowsA b:=by simp [rowsA]
theorem wrEU {Ev:Env prog} {b:Ev.β} {Q:Exit→St Ev.β→Prop} (l:List UseT) (hl:l.length<1000000) (hQ:∀i:Int,Q (.exit 0) ⟨tmE 4 108 (rowsU l) (.own 149 4 (rowsU l)) l.length i, [],b⟩):
   WR Ev lpEU (l.length+1) ⟨tmE 4 108 (rowsU l) (.own 149 4 (rowsU [])) l.length (0:Nat), [],b⟩ Q:=by
 refine WR.gathL (X:=⟨TtU, [],wlW Ev,Ev.Y,false⟩) (k:=100) [1,5,8,9,10] mixed (CX.Ok.of BVd9 Zah) l (fun x=> [x]) (fun _=>Zau _) (fun acc i=>tmE 4 108 (rowsU l) (.own 149 4 (rowsU acc)) l.length (i:Nat)) [] 0 (fun i x acc hi hx ha K k1=> ?_) (fun acc K k1=> ?_) ?_
 · refine Eq.mpr (rEU _ _ _ K l _ l.length i) ?_
   rw [AEl9 hx]
   refine Zbg (by simp;omega) (Zbg (natI i) ⟨_,_,_,_,rfl,x,rfl,Zbg (by simp [AAi9];omega) ?_⟩)
   rw [AVn9] at k1
   rw [wrapN (by omega)]
   exact k1
 · refine Eq.mpr (rEU _ _ _ K l _ l.length _) ?_
   exact Zdl (by simp) k1
 · rw [List.flatMap_singleton'];exact hQ _
def wlEU {β:Type}:WLT β:=fun cd tm hp b K=>∃l:List UseT,cd= .loop lpEU∧ABd9 [1,5,8,9,10] 0 tm=tmE 4 108 (rowsU l) nilA (rowsU l).length 0∧hp= []∧l.length<1000000∧
 ∀i:Int,K (.exit 0) (tmE 4 108 (rowsU l) (.own 149 4 (rowsU l)) l.length i) [] b
theorem BXa9 {Ev:Env prog} (c:Code) (tm:List AV) (hp:List Blk) (b:Ev.β) (K:Exit→List AV→List Blk→Ev.β→Prop) (h:wlEU c tm hp b K):W Ev c ⟨tm,hp,b⟩ (fun e s=>K e s.tm s.hp s.b):=by
 obtain ⟨l,rfl,htm,rfl,hl,hK⟩:=h
 rw [AAi9] at htm
 refine W.cast (htm▸AAe9 _ tm 0) (Zce _) ?_
 refine W.cast (tm':=tmE 4 108 (rowsU l) (.own 149 4 (rowsU [])) l.length 0) (LeL.at [_,_,_,_,_] _ (LeA.nilOwn rfl)) (Zce _) ?_
 exact W.rounds (wrEU (Q:=fun e s=>K e s.tm s.hp s.b) l hl hK)
theorem CAl9 (l:List UseT):wpFn prog ⟨[], [],wlEU,y,false⟩ 100 f113 [.d (.sl 4 (rowsU l)), .fn (.func 108) [] []] b R=(∃(l0:List UseT),Zaz lpEU=Zaz lpEU∧(Zad::Zat (Fn.func 108) [] []::bds 3 (Zab (Zdc (.slice none 0 0))::Zad::Zad::Zab (Zaf 4 (rowsU l))::Zab (i64 ((Zaa (rowsU l):Nat):Int))::Zab (i64 0)::bds 11 []))=(Zad::Zat (Fn.func 108) [] []::bds 3 (Zab (Zdc (.slice none 0 0))::Zad::Zad::Zab (Zaf 4 (rowsU l0))::Zab (i64 ((Zaa (rowsU l0):Nat):Int))::Zab (i64 0)::bds 11 []))∧([]:List Blk)= []∧Zaa l0<1000000∧∀(i:Int),R (.d (Zaf 4 (rowsU l0))) b):=by kernel_rfl
theorem pcEU (l:List UseT) (hl:l.length<1000000):PCall prog 113 [.d (.sl 4 (rowsU l)), .fn (.func 108) [] []] (.d (.sl 4 (rowsU l))):=by
 refine PCall.ofFnL (n:=100) (u:=false) (fun _=>wlEU) mixed Zal Zah (fun Ev=>BXa9) func113 (by rfl) (by rfl) fun Ev bb=> ?_
 rw [CAl9]
 exact ⟨l,rfl,rfl,rfl,hl,fun i=> .base LeA.rfl⟩
def cEU (args:List AV) (K:AV→Prop):Prop:=∃l:List UseT,args= [.d (.sl 4 (rowsU l)), .fn (.func 108) [] []]∧l.length<1000000∧K (.d (.sl 4 (rowsU l)))
theorem CEd9:∀args K,cEU args K→∃x,PCall prog 113 args x∧K x:=by
 rintro _ K ⟨l,rfl,hl,hk⟩;exact ⟨_,pcEU l hl,hk⟩
theorem wrEG {Ev:Env prog} {b:Ev.β} {Q:Exit→St Ev.β→Prop} (l:List GraT) (hl:l.length<1000000) (hQ:∀i:Int,Q (.exit 0) ⟨tmE 5 95 (rowsG l) (.own 140 5 (rowsG l)) l.length i, [],b⟩):
   WR Ev lpEG (l.length+1) ⟨tmE 5 95 (rowsG l) (.own 140 5 (rowsG [])) l.length (0:Nat), [],b⟩ Q:=by
 refine WR.gathL (X:=⟨TtU, [],wlW Ev,Ev.Y,false⟩) (k:=100) [1,5,8,9,10] mixed (CX.Ok.of BVd9 Zah) l (fun x=> [x]) (fun _=>Zau _) (fun acc i=>tmE 5 95 (rowsG l) (.own 140 5 (rowsG acc)) l.length (i:Nat)) [] 0 (fun i x acc hi hx ha K k1=> ?_) (fun acc K k1=> ?_) ?_
 · refine Eq.mpr (rEG _ _ _ K l _ l.length i) ?_
   rw [ADc9 hx]
   refine Zbg (by simp;omega) (Zbg (natI i) ⟨_,_,_,_,_,rfl,x,rfl,Zbg (by simp [AAh9];omega) ?_⟩)
   rw [AOi9] at k1
   rw [wrapN (by omega)]
   exact k1
 · refine Eq.mpr (rEG _ _ _ K l _ l.length _) ?_
   exact Zdl (by simp) k1
 · rw [List.flatMap_singleton'];exact hQ _
def wlEG {β:Type}:WLT β:=fun cd tm hp b K=>∃l:List GraT,cd= .loop lpEG∧ABd9 [1,5,8,9,10] 0 tm=tmE 5 95 (rowsG l) nilA (rowsG l).length 0∧hp= []∧l.length<1000000∧
 ∀i:Int,K (.exit 0) (tmE 5 95 (rowsG l) (.own 140 5 (rowsG l)) l.length i) [] b
theorem BXb9 {Ev:Env prog} (c:Code) (tm:List AV) (hp:List Blk) (b:Ev.β) (K:Exit→List AV→List Blk→Ev.β→Prop) (h:wlEG c tm hp b K):W Ev c ⟨tm,hp,b⟩ (fun e s=>K e s.tm s.hp s.b):=by
 obtain ⟨l,rfl,htm,rfl,hl,hK⟩:=h
 rw [AAh9] at htm
 refine W.cast (htm▸AAe9 _ tm 0) (Zce _) ?_
 refine W.cast (tm':=tmE 5 95 (rowsG l) (.own 140 5 (rowsG [])) l.length 0) (LeL.at [_,_,_,_,_] _ (LeA.nilOwn rfl)) (Zce _) ?_
 exact W.rounds (wrEG (Q:=fun e s=>K e s.tm s.hp s.b) l hl hK)
theorem CAn9 (l:List GraT):wpFn prog ⟨[], [],wlEG,y,false⟩ 100 f115 [.d (.sl 5 (rowsG l)), .fn (.func 95) [] []] b R=(∃(l0:List GraT),Zaz lpEG=Zaz lpEG∧(Zad::Zat (Fn.func 95) [] []::bds 3 (Zab (Zdc (.slice none 0 0))::Zad::Zad::Zab (Zaf 5 (rowsG l))::Zab (i64 ((Zaa (rowsG l):Nat):Int))::Zab (i64 0)::bds 11 []))=(Zad::Zat (Fn.func 95) [] []::bds 3 (Zab (Zdc (.slice none 0 0))::Zad::Zad::Zab (Zaf 5 (rowsG l0))::Zab (i64 ((Zaa (rowsG l0):Nat):Int))::Zab (i64 0)::bds 11 []))∧([]:List Blk)= []∧Zaa l0<1000000∧∀(i:Int),R (.d (Zaf 5 (rowsG l0))) b):=by kernel_rfl
theorem pcEG (l:List GraT) (hl:l.length<1000000):PCall prog 115 [.d (.sl 5 (rowsG l)), .fn (.func 95) [] []] (.d (.sl 5 (rowsG l))):=by
 refine PCall.ofFnL (n:=100) (u:=false) (fun _=>wlEG) mixed Zal Zah (fun Ev=>BXb9) func115 (by rfl) (by rfl) fun Ev bb=> ?_
 rw [CAn9]
 exact ⟨l,rfl,rfl,rfl,hl,fun i=> .base LeA.rfl⟩
def cEG (args:List AV) (K:AV→Prop):Prop:=∃l:List GraT,args= [.d (.sl 5 (rowsG l)), .fn (.func 95) [] []]∧l.length<1000000∧K (.d (.sl 5 (rowsG l)))
theorem CEe9:∀args K,cEG args K→∃x,PCall prog 115 args x∧K x:=by
 rintro _ K ⟨l,rfl,hl,hk⟩;exact ⟨_,pcEG l hl,hk⟩
theorem wrEA {Ev:Env prog} {b:Ev.β} {Q:Exit→St Ev.β→Prop} (l:List AskT) (hl:l.length<1000000) (hQ:∀i:Int,Q (.exit 0) ⟨tmE 3 118 (rowsA l) (.own 162 3 (rowsA l)) l.length i, [],b⟩):
   WR Ev lpEA (l.length+1) ⟨tmE 3 118 (rowsA l) (.own 162 3 (rowsA [])) l.length (0:Nat), [],b⟩ Q:=by
 refine WR.gathL (X:=⟨TtU, [],wlW Ev,Ev.Y,false⟩) (k:=100) [1,5,8,9,10] mixed (CX.Ok.of BVd9 Zah) l (fun x=> [x]) (fun _=>Zau _) (fun acc i=>tmE 3 118 (rowsA l) (.own 162 3 (rowsA acc)) l.length (i:Nat)) [] 0 (fun i x acc hi hx ha K k1=> ?_) (fun acc K k1=> ?_) ?_
 · refine Eq.mpr (rEA _ _ _ K l _ l.length i) ?_
   rw [ACr9 hx]
   refine Zbg (by simp;omega) (Zbg (natI i) ⟨_,_,_,rfl,x,rfl,Zbg (by simp [AAx9];omega) ?_⟩)
   rw [AVo9] at k1
   rw [wrapN (by omega)]
   exact k1
 · refine Eq.mpr (rEA _ _ _ K l _ l.length _) ?_
   exact Zdl (by simp) k1
 · rw [List.flatMap_singleton'];exact hQ _
def wlEA {β:Type}:WLT β:=fun cd tm hp b K=>∃l:List AskT,cd= .loop lpEA∧ABd9 [1,5,8,9,10] 0 tm=tmE 3 118 (rowsA l) nilA (rowsA l).length 0∧hp= []∧l.length<1000000∧
 ∀i:Int,K (.exit 0) (tmE 3 118 (rowsA l) (.own 162 3 (rowsA l)) l.length i) [] b
theorem BXc9 {Ev:Env prog} (c:Code) (tm:List AV) (hp:List Blk) (b:Ev.β) (K:Exit→List AV→List Blk→Ev.β→Prop) (h:wlEA c tm hp b K):W Ev c ⟨tm,hp,b⟩ (fun e s=>K e s.tm s.hp s.b):=by
 obtain ⟨l,rfl,htm,rfl,hl,hK⟩:=h
 rw [AAx9] at htm
 refine W.cast (htm▸AAe9 _ tm 0) (Zce _) ?_
 refine W.cast (tm':=tmE 3 118 (rowsA l) (.own 162 3 (rowsA [])) l.length 0) (LeL.at [_,_,_,_,_] _ (LeA.nilOwn rfl)) (Zce _) ?_
 exact W.rounds (wrEA (Q:=fun e s=>K e s.tm s.hp s.b) l hl hK)
theorem CAo9 (l:List AskT):wpFn prog ⟨[], [],wlEA,y,false⟩ 100 f117 [.d (.sl 3 (rowsA l)), .fn (.func 118) [] []] b R=(∃(l0:List AskT),Zaz lpEA=Zaz lpEA∧(Zad::Zat (Fn.func 118) [] []::bds 3 (Zab (Zdc (.slice none 0 0))::Zad::Zad::Zab (Zaf 3 (rowsA l))::Zab (i64 ((Zaa (rowsA l):Nat):Int))::Zab (i64 0)::bds 11 []))=(Zad::Zat (Fn.func 118) [] []::bds 3 (Zab (Zdc (.slice none 0 0))::Zad::Zad::Zab (Zaf 3 (rowsA l0))::Zab (i64 ((Zaa (rowsA l0):Nat):Int))::Zab (i64 0)::bds 11 []))∧([]:List Blk)= []∧Zaa l0<1000000∧∀(i:Int),R (.d (Zaf 3 (rowsA l0))) b):=by kernel_rfl
theorem pcEA (l:List AskT) (hl:l.length<1000000):PCall prog 117 [.d (.sl 3 (rowsA l)), .fn (.func 118) [] []] (.d (.sl 3 (rowsA l))):=by
 refine PCall.ofFnL (n:=100) (u:=false) (fun _=>wlEA) mixed Zal Zah (fun Ev=>BXc9) func117 (by rfl) (by rfl) fun Ev bb=> ?_
 rw [CAo9]
 exact ⟨l,rfl,rfl,rfl,hl,fun i=> .base LeA.rfl⟩
def cEA (args:List AV) (K:AV→Prop):Prop:=∃l:List AskT,args= [.d (.sl 3 (rowsA l)), .fn (.func 118) [] []]∧l.length<1000000∧K (.d (.sl 3 (rowsA l)))
theorem CEf9:∀args K,cEA args K→∃x,PCall prog 117 args x∧K x:=by
 rintro _ K ⟨l,rfl,hl,hk⟩;exact ⟨_,pcEA l hl,hk⟩
open Go.Maps (Keyed)
variable {β:Type} (wl:WLT β) (y:ACv9 β) (b:β) (R:AV→β→Prop) (K:Exit→List AV→List Blk→β→Prop) (Q:β→Prop)
abbrev Cnt:=List (Int×Int)
def getC (k:Int) (ts:Cnt):Int:=((ts.find? fun p=>p.1==k).map (·.2)).getD 0
def hasC (k:Int) (ts:Cnt):Bool:=ts.any fun p=>p.1==k
def insC (h:Int×Int):Cnt→Cnt
 | []=> [h]
 |x::r=>if h.1<x.1 then h::x::r else x::insC h r
def putC (h:Int×Int) (ts:Cnt):Cnt:=insC h (ts.filter fun x=> !(x.1==h.1))
def entC (ts:Cnt):MC:=ts.map fun h=>(Lit.int .i64 h.1,Zab (i64 h.2))
abbrev CntG:=Option (Nat×Cnt)
def cnF:CntG→List MapC
 |none=> []
 |some (d,ts)=> [⟨d,3,entC ts⟩]
structure NoG (g:CntG):Prop where
 e:g=none
def mapA (d:Nat):AV:= .d (.s (.map (some d)))
def recA (r:Nat):AV:= .d (.s (.pointer (some ⟨r,0,none⟩)))
structure InI (k:Int):Prop where
 lo: -9223372036854775808≤k
 hi:k≤9223372036854775807
theorem ADw9 (a k:Int):(Lit.int .i64 a).sameKey (Lit.int .i64 k)=(a==k):=by
 by_cases h:a=k<;>simp [Lit.sameKey,h]
theorem BEy9 (k:Int) (ts:Cnt):atK (Lit.int .i64 k) (.d (i64 0)) (entC ts)= .d (i64 (getC k ts)):=by
 induction ts with
 |nil=>rfl
 | cons h t ih=>
   simp only [atK,entC,getC,List.map_cons,List.find?_cons,ADw9] at ih ⊢
   cases h.1==k
   · exact ih
   · rfl
theorem BEx9 (k:Int) (ts:Cnt):hasK (Lit.int .i64 k) (entC ts)=hasC k ts:=by
 simp [hasK,entC,hasC,List.any_map,Function.comp_def,ADw9]
theorem BTt9 (k:Int) (ts:Cnt):delK (Lit.int .i64 k) (entC ts)=entC (ts.filter fun x=> !(x.1==k)):=by
 simp only [delK,entC,List.filter_map]
 congr 1
 apply List.filter_congr
 intro x _
 simp only [Function.comp,ADw9]
theorem BTs9 (h:Int×Int) (ts:Cnt):insK (Lit.int .i64 h.1, .d (i64 h.2)) (entC ts)=entC (insC h ts):=by
 induction ts with
 |nil=>rfl
 | cons x t ih=>
   simp only [entC,List.map_cons,insK,insC,Lit.before] at ih ⊢
   by_cases hx:h.1<x.1
   · simp [hx]
   · simp [hx,ih]
theorem BTr9 (h:Int×Int) (ts:Cnt):putK (Lit.int .i64 h.1) (.d (i64 h.2)) (entC ts)=entC (putC h ts):=by
 rw [putK,BTt9,BTs9];rfl
theorem BIu9:Tryz.prog.underlying 3=some (.int .i64):=by kernel_rfl
theorem ATq9:Keyed prog 3:=Go.Maps.int_keyed (q:= .i64) BIu9
theorem ATg9:Tryz.prog.underlying 154=some (.map 3 3):=by kernel_rfl
theorem key3 {k:Int} (h:InI k):keyOf prog 3 (.int .i64 k)=some (.int .i64 k):=Go.Maps.keyOf_int_mk BIu9 (by obtain ⟨h1,h2⟩:=h;simp [Lit.wf,IntKind.min,IntKind.max,IntKind.signed,IntKind.bits];omega)
theorem zero3 (w:World):(zeroValue 3).run prog w= .ok (.int .i64 0) w:=by rfl
theorem ASn9 (S:Pr) (w:World):RV S w [] none (.d (i64 0)) (.int .i64 0):= .d (.s _)
theorem inv3:∀key kl,keyOf prog 3 key=some kl→∃n,kl= .int .i64 n∧key= .int .i64 n:=by
 intro key kl h
 rw [Go.keyOf_int BIu9] at h
 unfold mapKey at h
 rw [BIu9] at h
 cases key<;>simp_all
def MCT (γ:Type):=List (Nat×(List AV→γ→(AV→γ→Prop)→Prop))
noncomputable def cnM (I:List (Nat×(List AV→(AV→Prop)→Prop))) (C:MCT CntG):MHook CntG:=fun o s g K=>match o.op with
 | .makeMap t none=>some (NoG g∧t=154∧∀d,K {tm:=putA s.tm o.dst (mapA d),hp:=s.hp,pv:=pvPut s.pv o.dst} (some (d, [])))
 | .lookup t m x false=>some (t=154∧∃(d:Nat) (ts:Cnt) (k v:Int),g=some (d,ts)∧evalA s.tm m=mapA d∧evalA s.tm x= .d (i64 k)∧InI k∧v=getC k ts∧
     K {tm:=putA s.tm o.dst (.d (i64 v)),hp:=s.hp,pv:=pvPut s.pv o.dst} g)
 | .mapUpdate t m x v=>some (t=154∧∃(d:Nat) (ts ts':Cnt) (k n:Int),g=some (d,ts)∧evalA s.tm m=mapA d∧evalA s.tm x= .d (i64 k)∧evalA s.tm v= .d (i64 n)∧InI k∧ts.length<1000000∧ts'=putC (k,n) ts∧
     K {tm:=putA s.tm o.dst (.d (.s undef)),hp:=s.hp,pv:=pvPut s.pv o.dst} (some (d,ts')))
 | .call c=>match c.callee with
   | .value _=>match AHf9 s.tm o with
     | some (k,args)=>match C.lookup k with
       |some f=>some (ABs9 args=true∧f args g fun x g'=>K {tm:=putA s.tm o.dst x.view,hp:=s.hp,pv:=pvPut s.pv o.dst} g')
       |none=>none
     |none=>none
   | .invoke _ _=>invH prog I o s g K
   |_=>none
 |_=>none
def MCTok (C:MCT CntG):Prop:=∀k f,C.lookup k=some f→∀args g K,f args g K→∃R,MCall prog cnF k args g R∧∀x g',R x g'→K x g'
theorem MCTok.nil:MCTok []:=fun _ _ h=>by cases h
theorem BOd9 {d:Nat} {ts:Cnt}:(⟨d,3,entC ts⟩:MapC)∈cnF (some (d,ts)):=by simp [cnF]
theorem CAv9 {I:List (Nat×(List AV→(AV→Prop)→Prop))} {C:MCT CntG} (hI:AAb9 prog I) (hC:MCTok C) (N:Nat) (w0:World) (lent:List Nat):MOk (Env.mapped prog none N w0 lent cnF) (cnM I C):=by
 intro o s g K p hp h
 unfold cnM at hp
 split at hp
 · rename_i t ho
   cases hp
   obtain ⟨⟨rfl⟩,rfl,hk⟩:=h
   refine ⟨_,ANi9 (g:=none) (mk:=fun d=>some (d, [])) (k:=3) ho (fun d=>rfl), ?_⟩
   rintro s' b' ⟨d,rfl,rfl⟩
   exact hk d
 · rename_i t m x ho
   cases hp
   obtain ⟨rfl,d,ts,k,_,rfl,hm,hx,hi,rfl,hk⟩:=h
   refine ⟨_,ARm9 (g:=some (d,ts)) (c:=⟨d,3,entC ts⟩) (z:= .d (i64 0)) ho BOd9 hm (key:= .int .i64 k) (by rw [hx];rfl) ATq9 ATg9 (key3 hi) zero3 ASn9 (by rfl), ?_⟩
   rintro s' b' ⟨rfl,rfl⟩
   simp only [Bool.false_eq_true,if_false,BEy9] at hk ⊢
   exact hk
 · rename_i t m x v ho
   cases hp
   obtain ⟨rfl,d,ts,_,k,n,rfl,hm,hx,hv,hi,hl,rfl,hk⟩:=h
   refine ⟨_,AJg9 (g:=some (d,ts)) (g':=some (d,putC (k,n) ts)) (l1:= []) (l2:= []) (c:=⟨d,3,entC ts⟩) ho rfl hm (key:= .int .i64 k) (by rw [hx];rfl) ATq9 ATg9 (key3 hi) (by simp [entC,maxLen];omega) (by rw [hv];rfl) ?_, ?_⟩
   · rw [hv];simp only [cnF,List.nil_append]
     rw [show (Zab (i64 n)).view=Zab (i64 n) from rfl]
     have:=BTr9 (k,n) ts
     simp only at this
     rw [this]
   · rintro s' b' ⟨rfl,rfl⟩
     exact hk
 · rename_i c ho
   split at hp
   · rename_i fo hc
     split at hp
     · rename_i k args hcall
       split at hp
       · rename_i f hf
         cases hp
         obtain ⟨hcl,h⟩:=h
         obtain ⟨R,h1,h2⟩:=hC k f hf args g _ h
         refine ⟨_,BKi9 (g:=g) (g0:=g) (up:=id) (f':=cnF) (l1:= []) (l2:= []) hcall hcl (by simp) (by simp) h1, ?_⟩
         rintro s' b' ⟨x,g1,hR,rfl,he⟩
         cases he
         exact h2 x _ hR
       · cases hp
     · cases hp
   · exact BNw9 hI o s g K p hp h
   · cases hp
 · cases hp
noncomputable def cnR (I:List (Nat×(List AV→(AV→Prop)→Prop))) (C:MCT CntG):MHook (CntG×Option AEe9):=fun o s b K=>match b with
 | (g,none)=>match o.op with
   | .range t mo=>some (t=154∧∃(d:Nat) (ts:Cnt),g=some (d,ts)∧evalA s.tm mo=mapA d∧∀r,K {tm:=putA s.tm o.dst (recA r),hp:=s.hp,pv:=pvPut s.pv o.dst} (some (d,ts),some ⟨d,r,3,entC ts,fun kl=>hasK kl (entC ts),(entC ts).length,none⟩))
   |_=>cnM I C o s g fun s' g'=>K s' (g',none)
 | (g,some c)=>match o.op with
   | .next io false=>some (∃(d:Nat) (ts:Cnt),g=some (d,ts)∧c.k=3∧c.es=entC ts∧evalA s.tm io=recA c.r∧((∀kl,c.left kl=false)→K {tm:=putA s.tm o.dst (.tup [.d (bo false)]),hp:=s.hp,pv:=pvPut s.pv o.dst} (g,some c))∧
       ∀n cnt',c.left (.int .i64 n)=true→hasC n ts=true→cnt'<c.cnt→K {tm:=putA s.tm o.dst (.tup [.d (bo true), .d (i64 n), .d (i64 (getC n ts))]),hp:=s.hp,pv:=pvPut s.pv o.dst} (g,some {c with left:=fun x=>c.left x&& !x.sameKey (.int .i64 n),cnt:=cnt',cur:=some (.int .i64 n)}))
   | .entry io=>some (∃(d:Nat) (ts:Cnt) (n:Int),g=some (d,ts)∧c.k=3∧c.es=entC ts∧evalA s.tm io=recA c.r∧c.cur=some (.int .i64 n)∧K {tm:=putA s.tm o.dst (.tup [.d (i64 n), .d (i64 (getC n ts))]),hp:=s.hp,pv:=pvPut s.pv o.dst} (g,some c))
   |_=>none
theorem CEb9 {I:List (Nat×(List AV→(AV→Prop)→Prop))} {C:MCT CntG} (hI:AAb9 prog I) (hC:MCTok C) (N:Nat) (w0:World) (lent:List Nat):MOk (Env.rngd prog none N w0 lent cnF) (cnR I C):=by
 intro o s b K p hp h
 obtain ⟨g,q⟩:=b
 cases q with
 | none=>
   unfold cnR at hp
   simp only at hp
   split at hp
   · rename_i t mo ho
     cases hp
     obtain ⟨rfl,d,ts,rfl,hm,hk⟩:=h
     refine ⟨_,BJh9 (g:=some (d,ts)) (c:=⟨d,3,entC ts⟩) ho BOd9 hm ATq9 ATg9, ?_⟩
     rintro s' b' ⟨r,rfl,rfl⟩
     exact hk r
   · obtain ⟨T,h1,h2⟩:=CAv9 hI hC N w0 lent o s g _ p hp h
     refine ⟨_,h1.lift, ?_⟩
     rintro s' ⟨g',q'⟩ ⟨rfl,hT⟩
     exact h2 s' g' hT
 | some c=>
   unfold cnR at hp
   simp only at hp
   split at hp
   · rename_i io ho
     cases hp
     obtain ⟨d,ts,rfl,hk3,hes,hm,h1,h2⟩:=h
     refine ⟨_,BSm9 (g:=some (d,ts)) (c:=c) (z:= .d (i64 0)) ho hm (by rw [hk3];exact ATq9) (by rw [hk3];exact inv3) ASn9, ?_⟩
     rintro s' b' (⟨rfl,rfl,hl⟩|⟨n,cnt',hl,hh,hc,rfl,rfl⟩)
     · exact h1 hl
     · rw [show atK (Lit.int .i64 n) (.d (i64 0)) c.es= .d (i64 (getC n ts)) by rw [hes,BEy9]]
       rw [hes,BEx9] at hh
       exact h2 n cnt' hl hh hc
   · rename_i io ho
     cases hp
     obtain ⟨d,ts,n,rfl,hk3,hes,hm,hcur,h1⟩:=h
     refine ⟨_,BLd9 (g:=some (d,ts)) (c:=c) (z:= .d (i64 0)) ho hm (by rw [hk3];exact ATq9) (by rw [hk3];exact inv3) hcur ASn9, ?_⟩
     rintro s' b' ⟨rfl,rfl⟩
     rw [hes,BEy9]
     exact h1
   · cases hp
def cNone (args:List AV) (K:AV→Prop):Prop:=False
theorem ABx9 (n:Nat):∀args K,cNone args K→∃x,PCall prog n args x∧K x:=fun args K h=>by cases h
def TSo:List (Nat×(List AV→(AV→Prop)→Prop)):= [(4000005,cNone),(4000007,cNone),(4000008,cNone)]
theorem BAf9:AAb9 prog TSo:=Zai (ABx9 _) (Zai (ABx9 _) (Zai (ABx9 _) Zal))
def IVa:List (Nat×(List AV→(AV→Prop)→Prop)):= [(171,BOe9),(168,BOm9),(173,BPe9),(170,BMk9),(167,BMl9),(172,BPc9)]
theorem ASk9:AAb9 prog IVa:=Zai BFn9 (Zai BGh9 (Zai BHl9 (Zai APj9 (Zai APk9 (Zai BHj9 Zal)))))
noncomputable def wlCn (T:List (Nat×(List AV→(AV→Prop)→Prop))) (I:List (Nat×(List AV→(AV→Prop)→Prop))) (C:MCT CntG):WLT CntG:=wlM prog ⟨T, [],fun _ _ _ _ _=>False,fun _ _ _=>False,false⟩ (cnM I C) fun _ _ _ _ _=>False
theorem BXf9 {T I:List (Nat×(List AV→(AV→Prop)→Prop))} {C:MCT CntG} (hT:AAb9 prog T) (hI:AAb9 prog I) (hC:MCTok C) (lent:List Nat) (N:Nat) (w0:World):
   ∀c tm hp b K,wlCn T I C c tm hp b K→W (Env.mapped prog none N w0 lent cnF) c ⟨tm,hp,b⟩ (fun e s=>K e s.tm s.hp s.b):=
 BQh9 (Ev:=Env.mapped prog none N w0 lent cnF) mixed (CX.Ok.ofWl (Ev:=Env.mapped prog none N w0 lent cnF) hT Zah fun _ _ _ _ _ h=>h.elim) (CAv9 hI hC N w0 lent) fun _ _ _ _ _ h=>h.elim
noncomputable def lpSU:Code:=sub [1,1,0,1,2,3] (code f112)
noncomputable def lpSG:Code:=sub [1,1,0,1,2,3] (code f114)
noncomputable def lpSA:Code:=sub [1,1,0,1,2,3] (code f116)
def tmSo (k:Nat) (xs:List (List Dv)) (d:Nat) (last n i:Int):List AV:= [.bad, .bad,mapA d, .bad, .ptr 0 0, .bad, .d (bo false), .d (i64 last), .bad, .bad, .d (.sl k xs), .d (i64 n), .d (i64 i)]++Zaq 25 .bad
section
variable (y:ACv9 CntG) (K:Exit→List AV→List Blk→CntG→Prop)
abbrev Qz33 (v0:Nat) (v1:Int) (v2:List UseT) (v3:Int) (v4:Int):=Zad::Zad::Zab (Zdc (Zbm (some v0)))::Zad::Zak 0 0::Zad::Zab (bo false)::Zab (i64 v1)::Zad::Zad::Zab (Zaf 4 (rowsU v2))::Zab (i64 v3)::Zab (i64 v4)::bds 25 []
theorem rSU (us:List UseT) (d:Nat) (ts:Cnt) (l:LayT) (last n i:Int):wpc prog ⟨TSo, [],wlCn TSo IVa [],y,false⟩ 100 lpSU (tmSo 4 (rowsU us) d last n i) [layB l] (some (d,ts)) (maskK 1 [2,4,6,7,10,11,12] K)=(BIf (decide (i<n)) (BIf (true&&decide (0≤i)) (∃(x0:Int) (x1:Int) (x2:Int) (x3:Int),(rowsU us)[Zav i]? =some [i64 x0,i64 x1,i64 x2,i64 x3]∧true=true∧∃(u6:UseT) (l7:LayT) (z8:Bool), [Zao (Qz38 x0 x1 x2 x3),Zao (Qz5 l)]= [Zao (Qz10 u6),Zao (Qz5 l7)]∧z8=useOk u6 l7∧BIf (!z8) (K .ret (Qz33 d last us n i) [Blk.mk (Qz5 l) false false 0] (some (d,ts))) (true=true∧∃(u9:UseT), [Zao (Qz38 x0 x1 x2 x3)]= [Zao (Qz10 u9)]∧BIf (decide (UseT.sl u9≤last)) (K .ret (Qz33 d last us n i) [Blk.mk (Qz5 l) false false 0] (some (d,ts))) (true=true∧∃(u10:UseT), [Zao (Qz38 x0 x1 x2 x3)]= [Zao (Qz10 u10)]∧154=154∧∃(d11:Nat) (ts12:Cnt) (k13:Int) (v14:Int),some (d,ts)=some (d11,ts12)∧Zab (Zdc (Zbm (some d)))=Zab (Zdc (Zbm (some d11)))∧Zab (i64 (UseT.sl u10))=Zab (i64 k13)∧InI k13∧v14=getC k13 ts12∧154=154∧∃(d15:Nat) (ts16:Cnt) (ts17:Cnt) (k18:Int) (n19:Int),some (d,ts)=some (d15,ts16)∧Zab (Zdc (Zbm (some d)))=Zab (Zdc (Zbm (some d15)))∧Zab (i64 (UseT.sl u10))=Zab (i64 k18)∧Zab (i64 (Zae .i64 (v14+1)))=Zab (i64 n19)∧InI k18∧Zaa ts16<1000000∧ts17=putC (k18,n19) ts16∧K .normal (Zad::Zad::Zab (Zdc (Zbm (some d)))::Zad::Zak 0 0::Zad::Zab (bo false)::Zab (i64 (UseT.sl u10))::Zad::Zad::Zab (Zaf 4 (rowsU us))::Zab (i64 n)::Zab (i64 (Zae .i64 (i+1)))::bds 25 []) [Blk.mk (Qz5 l) false false 0] (some (d15,ts17))))) False) (K (Zbv 0) (Qz33 d last us n i) [Blk.mk (Qz5 l) false false 0] (some (d,ts)))):=by kernel_rfl
abbrev Qz34 (v0:Nat) (v1:Int) (v2:List GraT) (v3:Int) (v4:Int):=Zad::Zad::Zab (Zdc (Zbm (some v0)))::Zad::Zak 0 0::Zad::Zab (bo false)::Zab (i64 v1)::Zad::Zad::Zab (Zaf 5 (rowsG v2))::Zab (i64 v3)::Zab (i64 v4)::bds 25 []
theorem rSG (us:List GraT) (d:Nat) (ts:Cnt) (l:LayT) (last n i:Int):wpc prog ⟨TSo, [],wlCn TSo IVa [],y,false⟩ 100 lpSG (tmSo 5 (rowsG us) d last n i) [layB l] (some (d,ts)) (maskK 1 [2,4,6,7,10,11,12] K)=(BIf (decide (i<n)) (BIf (true&&decide (0≤i)) (∃(x0:Int) (x1:Int) (x2:Int) (x3:Int) (x4:Int),(rowsG us)[Zav i]? =some (Qz48 x0 x1 x2 x3 x4)∧true=true∧∃(u7:GraT) (l8:LayT) (z9:Bool), [Zao (Qz24 x0 x1 x2 x3 x4),Zao (Qz5 l)]= [Zao (Qz7 u7),Zao (Qz5 l8)]∧z9=graOk u7 l8∧BIf (!z9) (K .ret (Qz34 d last us n i) [Blk.mk (Qz5 l) false false 0] (some (d,ts))) (true=true∧∃(u10:GraT), [Zao (Qz24 x0 x1 x2 x3 x4)]= [Zao (Qz7 u10)]∧BIf (decide (GraT.sl u10≤last)) (K .ret (Qz34 d last us n i) [Blk.mk (Qz5 l) false false 0] (some (d,ts))) (true=true∧∃(u11:GraT), [Zao (Qz24 x0 x1 x2 x3 x4)]= [Zao (Qz7 u11)]∧154=154∧∃(d12:Nat) (ts13:Cnt) (k14:Int) (v15:Int),some (d,ts)=some (d12,ts13)∧Zab (Zdc (Zbm (some d)))=Zab (Zdc (Zbm (some d12)))∧Zab (i64 (GraT.sl u11))=Zab (i64 k14)∧InI k14∧v15=getC k14 ts13∧154=154∧∃(d16:Nat) (ts17:Cnt) (ts18:Cnt) (k19:Int) (n20:Int),some (d,ts)=some (d16,ts17)∧Zab (Zdc (Zbm (some d)))=Zab (Zdc (Zbm (some d16)))∧Zab (i64 (GraT.sl u11))=Zab (i64 k19)∧Zab (i64 (Zae .i64 (v15+1)))=Zab (i64 n20)∧InI k19∧Zaa ts17<1000000∧ts18=putC (k19,n20) ts17∧K .normal (Zad::Zad::Zab (Zdc (Zbm (some d)))::Zad::Zak 0 0::Zad::Zab (bo false)::Zab (i64 (GraT.sl u11))::Zad::Zad::Zab (Zaf 5 (rowsG us))::Zab (i64 n)::Zab (i64 (Zae .i64 (i+1)))::bds 25 []) [Blk.mk (Qz5 l) false false 0] (some (d16,ts18))))) False) (K (Zbv 0) (Qz34 d last us n i) [Blk.mk (Qz5 l) false false 0] (some (d,ts)))):=by kernel_rfl
abbrev Qz35 (v0:Nat) (v1:Int) (v2:List AskT) (v3:Int) (v4:Int):=Zad::Zad::Zab (Zdc (Zbm (some v0)))::Zad::Zak 0 0::Zad::Zab (bo false)::Zab (i64 v1)::Zad::Zad::Zab (Zaf 3 (rowsA v2))::Zab (i64 v3)::Zab (i64 v4)::bds 25 []
theorem rSA (us:List AskT) (d:Nat) (ts:Cnt) (l:LayT) (last n i:Int):wpc prog ⟨TSo, [],wlCn TSo IVa [],y,false⟩ 100 lpSA (tmSo 3 (rowsA us) d last n i) [layB l] (some (d,ts)) (maskK 1 [2,4,6,7,10,11,12] K)=(BIf (decide (i<n)) (BIf (true&&decide (0≤i)) (∃(x0:Int) (x1:Int) (x2:Int),(rowsA us)[Zav i]? =some [i64 x0,i64 x1,i64 x2]∧true=true∧∃(u5:AskT) (l6:LayT) (z7:Bool), [Zao (Qz27 x0 x1 x2),Zao (Qz5 l)]= [Zao (Qz13 u5),Zao (Qz5 l6)]∧z7=askOk u5 l6∧BIf (!z7) (K .ret (Qz35 d last us n i) [Blk.mk (Qz5 l) false false 0] (some (d,ts))) (true=true∧∃(u8:AskT), [Zao (Qz27 x0 x1 x2)]= [Zao (Qz13 u8)]∧BIf (decide (AskT.sl u8≤last)) (K .ret (Qz35 d last us n i) [Blk.mk (Qz5 l) false false 0] (some (d,ts))) (true=true∧∃(u9:AskT), [Zao (Qz27 x0 x1 x2)]= [Zao (Qz13 u9)]∧154=154∧∃(d10:Nat) (ts11:Cnt) (k12:Int) (v13:Int),some (d,ts)=some (d10,ts11)∧Zab (Zdc (Zbm (some d)))=Zab (Zdc (Zbm (some d10)))∧Zab (i64 (AskT.sl u9))=Zab (i64 k12)∧InI k12∧v13=getC k12 ts11∧154=154∧∃(d14:Nat) (ts15:Cnt) (ts16:Cnt) (k17:Int) (n18:Int),some (d,ts)=some (d14,ts15)∧Zab (Zdc (Zbm (some d)))=Zab (Zdc (Zbm (some d14)))∧Zab (i64 (AskT.sl u9))=Zab (i64 k17)∧Zab (i64 (Zae .i64 (v13+1)))=Zab (i64 n18)∧InI k17∧Zaa ts15<1000000∧ts16=putC (k17,n18) ts15∧K .normal (Zad::Zad::Zab (Zdc (Zbm (some d)))::Zad::Zak 0 0::Zad::Zab (bo false)::Zab (i64 (AskT.sl u9))::Zad::Zad::Zab (Zaf 3 (rowsA us))::Zab (i64 n)::Zab (i64 (Zae .i64 (i+1)))::bds 25 []) [Blk.mk (Qz5 l) false false 0] (some (d14,ts16))))) False) (K (Zbv 0) (Qz35 d last us n i) [Blk.mk (Qz5 l) false false 0] (some (d,ts)))):=by kernel_rfl
end
def incC (k:Int) (ts:Cnt):Cnt:=putC (k,Zae Zay (getC k ts+1)) ts
def ABa9 {α:Type} (ok:α→Bool) (sl:α→Int):Int→List α→Cnt→Bool×Cnt
 |_, [],ts=>(true,ts)
 |last,x::r,ts=>if (!ok x)=true then (false,ts) else if sl x≤last then (false,ts) else ABa9 ok sl (sl x) r (incC (sl x) ts)
theorem BSy9 (h:Int×Int) (l:Cnt):(insC h l).length=l.length+1:=by
 induction l with
 |nil=>rfl
 |cons x r ih=>simp only [insC];split<;>simp [ih]
theorem AOu9 (k:Int) (ts:Cnt):(incC k ts).length≤ts.length+1:=by
 rw [incC,putC,BSy9]
 exact Nat.succ_le_succ (List.length_filter_le _ _)
theorem AKs9 {α:Type} (ok:α→Bool) (sl:α→Int):∀(last:Int) (r:List α) (ts:Cnt),(ABa9 ok sl last r ts).2.length≤ts.length+r.length
 |_, [],ts=>by simp [ABa9]
 | last,x::r,ts=>by
   have:=AKs9 ok sl (sl x) r (incC (sl x) ts)
   have h2:=AOu9 (sl x) ts
   unfold ABa9
   repeat' split
   all_goals simp only [Zei];omega
theorem BEz9 {α:Type} {l rest:List α} {x:α} {i:Nat} (hd:l.drop i=x::rest):l[i]? =some x∧l.drop (i+1)=rest∧i<l.length:=by
 have h1:l[i]? =some x:=by
   have:=congrArg (fun l=>l[0]?) hd
   simpa using this
 refine ⟨h1, ?_,(List.getElem?_eq_some_iff.1 h1).1⟩
 have:=congrArg List.tail hd
 simpa using this
abbrev EvC (N:Nat) (w0:World) (lent:List Nat):Env prog:=Env.mapped prog none N w0 lent cnF
theorem AZl9 {T I:List (Nat×(List AV→(AV→Prop)→Prop))} {C:MCT CntG} (hT:AAb9 prog T) (hI:AAb9 prog I) (hC:MCTok C) (lent:List Nat) (N:Nat) (w0:World):CX.Ok (EvC N w0 lent) ⟨T, [],wlCn T I C,fun _ _ _=>False,false⟩:=
 CX.Ok.ofWl (Ev:=EvC N w0 lent) hT Zah (BXf9 hT hI hC lent N w0)
theorem ALg9 {sl of pe:Int} {l:LayT} (h:ABr9 sl of pe l=true) (hd:l.da≤60):InI sl:=by
 simp only [ABr9,Zaj,decide_eq_true_eq] at h
 exact ⟨by omega,by omega⟩
def ABz9 (l:LayT) (us:List UseT) (ts:Cnt):Bool×Cnt:=ABa9 (fun x:UseT=>useOk x l) (fun x=>x.sl) (-1) us ts
theorem wrSU {N:Nat} {w0:World} {lent:List Nat} {Q:Exit→St CntG→Prop} (us:List UseT) (d:Nat) (l:LayT) (hd:l.da≤60) (hl:us.length<100000):∀(rest:List UseT) (i:Nat) (last:Int) (ts:Cnt),us.drop i=rest→ts.length+rest.length<1000000→
   ((ABa9 (fun x:UseT=>useOk x l) (fun x=>x.sl) last rest ts).1=true→∀last':Int,Q (.exit 0) ⟨tmSo 4 (rowsU us) d last' us.length us.length, [layB l],some (d,(ABa9 (fun x:UseT=>useOk x l) (fun x=>x.sl) last rest ts).2)⟩)→
   ((ABa9 (fun x:UseT=>useOk x l) (fun x=>x.sl) last rest ts).1=false→∀last' i':Int,Q .ret ⟨tmSo 4 (rowsU us) d last' us.length i', [layB l],some (d,(ABa9 (fun x:UseT=>useOk x l) (fun x=>x.sl) last rest ts).2)⟩)→
   i≤us.length→WR (EvC N w0 lent) lpSU (rest.length+1) ⟨tmSo 4 (rowsU us) d last us.length i, [layB l],some (d,ts)⟩ Q
 | [],i,last,ts,hdr,hlen,h1,h2,hi=>by
   refine Zdw [2,4,6,7,10,11,12] mixed (AZl9 BAf9 ASk9 MCTok.nil lent N w0) (k:=100) ?_
   refine Eq.mpr (rSU _ _ us d ts l last us.length i) ?_
   have:=List.drop_eq_nil_iff.1 hdr
   obtain rfl:i=us.length:=by omega
   exact Zdl (by simp) (h1 rfl last)
 | x::rest,i,last,ts,hdr,hlen,h1,h2,hi=>by
   refine Zdw [2,4,6,7,10,11,12] mixed (AZl9 BAf9 ASk9 MCTok.nil lent N w0) (k:=100) ?_
   refine Eq.mpr (rSU _ _ us d ts l last us.length i) ?_
   obtain ⟨hx,hdr',hi'⟩:=BEz9 hdr
   rw [AEl9 hx]
   simp only [Zei] at hlen
   refine Zbg (by simp;omega) (Zbg (natI i) ⟨_,_,_,_,rfl,rfl,x,l,_,rfl,rfl,Zbh (fun g1=> ?_) fun g1=>⟨rfl,x,rfl,Zbh (fun g2=> ?_) fun g2=> ?_⟩⟩)
   · have e:ABa9 (fun x:UseT=>useOk x l) (fun x=>x.sl) last (x::rest) ts=(false,ts):=by rw [ABa9,if_pos g1]
     rw [e] at h2
     exact h2 rfl _ _
   · have g2:=of_decide_eq_true g2
     have e:ABa9 (fun x:UseT=>useOk x l) (fun x=>x.sl) last (x::rest) ts=(false,ts):=by rw [ABa9,if_neg (by rw [g1];decide),if_pos g2]
     rw [e] at h2
     exact h2 rfl _ _
   · have g2:=of_decide_eq_false g2
     have h:useOk x l=true:=by simpa using g1
     have hI:InI x.sl:=ALg9 (by simp only [useOk,Zaj] at h;exact h.1) hd
     have e:ABa9 (fun x:UseT=>useOk x l) (fun x=>x.sl) last (x::rest) ts=ABa9 (fun x:UseT=>useOk x l) (fun x=>x.sl) x.sl rest (incC x.sl ts):=by rw [ABa9,if_neg (by rw [g1];decide),if_neg g2]
     rw [e] at h1 h2
     refine ⟨rfl,x,rfl,rfl,d,ts,x.sl,_,rfl,rfl,rfl,hI,rfl,rfl,d,ts,_,x.sl,_,rfl,rfl,rfl,rfl,hI,by omega,rfl, ?_⟩
     rw [wrapN (by omega)]
     have:=AOu9 x.sl ts
     exact wrSU us d l hd hl rest (i+1) x.sl (incC x.sl ts) hdr' (by omega) h1 h2 (by omega)
noncomputable def wlSU (T:List (Nat×(List AV→(AV→Prop)→Prop))):WLT CntG:=fun cd tm hp b K=>∃(us:List UseT) (d:Nat) (l:LayT) (ts ts':Cnt) (q:Bool),cd= .loop lpSU∧ABd9 [2,4,6,7,10,11,12] 0 tm=tmSo 4 (rowsU us) d (-1) (rowsU us).length 0∧hp= [layB l]∧b=some (d,ts)∧(l.da≤60∧us.length<100000∧ts.length<100000∧q=(ABz9 l us ts).1∧ts'=(ABz9 l us ts).2)∧
 BIf q (∀last':Int,K (.exit 0) (tmSo 4 (rowsU us) d last' us.length us.length) [layB l] (some (d,ts'))) (∀last' i':Int,K .ret (tmSo 4 (rowsU us) d last' us.length i') [layB l] (some (d,ts')))
theorem BWr9 {T:List (Nat×(List AV→(AV→Prop)→Prop))} (lent:List Nat) (N:Nat) (w0:World) (c:Code) (tm:List AV) (hp:List Blk) (b:CntG) (K:Exit→List AV→List Blk→CntG→Prop) (h:wlSU T c tm hp b K):W (EvC N w0 lent) c ⟨tm,hp,b⟩ (fun e s=>K e s.tm s.hp s.b):=by
 obtain ⟨us,d,l,ts,ts',q,rfl,htm,rfl,rfl,⟨hd,hl,ht,hq,rfl⟩,hK⟩:=h
 rw [AAi9] at htm
 refine W.cast (htm▸AAe9 _ tm 0) (Zce _) ?_
 refine W.rounds (wrSU (N:=N) (w0:=w0) (lent:=lent) (Q:=fun e s=>K e s.tm s.hp s.b) us d l hd hl us 0 (-1) ts rfl (by omega) (fun h=> ?_) (fun h=> ?_) (Nat.zero_le _))
 · rw [hq,show (ABz9 l us ts).1=true from h] at hK;exact hK
 · rw [hq,show (ABz9 l us ts).1=false from h] at hK;exact hK
section
variable (y:ACv9 CntG) (R:AV→CntG→Prop)
theorem BIx9 (us:List UseT) (d:Nat) (ts:Cnt) (l:LayT):wpFn prog ⟨[], [],wlSU [],y,false⟩ 100 f112 [.d (.sl 4 (rowsU us)),layA l,mapA d] (some (d,ts)) R=(∃(us0:List UseT) (d1:Nat) (l2:LayT) (ts3:Cnt) (ts4:Cnt) (q5:Bool),Zaz lpSU=Zaz lpSU∧(Zad::Zad::Zab (Zdc (Zbm (some d)))::Zad::Zak 0 0::Zad::Zab (bo false)::Zab (i64 (-1))::Zad::Zad::Zab (Zaf 4 (rowsU us))::Zab (i64 ((Zaa (rowsU us):Nat):Int))::Zab (i64 0)::bds 25 [])=(Zad::Zad::Zab (Zdc (Zbm (some d1)))::Zad::Zak 0 0::Zad::Zab (bo false)::Zab (i64 (-1))::Zad::Zad::Zab (Zaf 4 (rowsU us0))::Zab (i64 ((Zaa (rowsU us0):Nat):Int))::Zab (i64 0)::bds 25 [])∧ [Blk.mk (Qz5 l) false false 0]= [Blk.mk (Qz5 l2) false false 0]∧some (d,ts)=some (d1,ts3)∧(LayT.da l2≤(60:Int)∧Zaa us0<100000∧Zaa ts3<100000∧q5=Prod.fst (ABz9 l2 us0 ts3)∧ts4=Prod.snd (ABz9 l2 us0 ts3))∧BIf q5 (∀(last':Int),R (.d (bo true)) (some (d1,ts4))) (∀(last' i':Int),R (.d (bo false)) (some (d1,ts4)))):=by kernel_rfl
end
theorem BSo9 (us:List UseT) (d:Nat) (ts:Cnt) (l:LayT) (hd:l.da≤60) (hl:us.length<100000) (ht:ts.length<100000):
   MCall prog cnF 112 [.d (.sl 4 (rowsU us)),layA l,mapA d] (some (d,ts)) fun x g=>x= .d (bo (ABz9 l us ts).1)∧g=some (d,(ABz9 l us ts).2):=by
 refine MCall.ofFn (n:=100) (u:=false) (wlSU []) mixed Zal Zah (fun N w0=>BWr9 _ N w0) func112 (by rfl) (by rfl) ?_
 rw [BIx9]
 exact ⟨us,d,l,ts,_,_,rfl,rfl,rfl,rfl,⟨hd,hl,ht,rfl,rfl⟩,Zbh (fun h last'=>⟨by rw [h],rfl⟩) fun h last' i'=>⟨by rw [h],rfl⟩⟩
def BOf9 (args:List AV) (g:CntG) (K:AV→CntG→Prop):Prop:=∃(us:List UseT) (d:Nat) (ts ts':Cnt) (l:LayT) (q:Bool),args= [.d (.sl 4 (rowsU us)),layA l,mapA d]∧g=some (d,ts)∧(l.da≤60∧us.length<100000∧ts.length<100000∧q=(ABz9 l us ts).1∧ts'=(ABz9 l us ts).2)∧K (.d (bo q)) (some (d,ts'))
theorem BFq9:∀args g K,BOf9 args g K→∃R,MCall prog cnF 112 args g R∧∀x g',R x g'→K x g':=by
 rintro _ _ K ⟨us,d,ts,_,l,_,rfl,rfl,⟨hd,hl,ht,rfl,rfl⟩,hk⟩
 refine ⟨_,BSo9 us d ts l hd hl ht, ?_⟩
 rintro x g' ⟨rfl,rfl⟩;exact hk
def ADa9 (l:LayT) (us:List GraT) (ts:Cnt):Bool×Cnt:=ABa9 (fun x:GraT=>graOk x l) (fun x=>x.sl) (-1) us ts
theorem wrSG {N:Nat} {w0:World} {lent:List Nat} {Q:Exit→St CntG→Prop} (us:List GraT) (d:Nat) (l:LayT) (hd:l.da≤60) (hl:us.length<100000):∀(rest:List GraT) (i:Nat) (last:Int) (ts:Cnt),us.drop i=rest→ts.length+rest.length<1000000→
   ((ABa9 (fun x:GraT=>graOk x l) (fun x=>x.sl) last rest ts).1=true→∀last':Int,Q (.exit 0) ⟨tmSo 5 (rowsG us) d last' us.length us.length, [layB l],some (d,(ABa9 (fun x:GraT=>graOk x l) (fun x=>x.sl) last rest ts).2)⟩)→
   ((ABa9 (fun x:GraT=>graOk x l) (fun x=>x.sl) last rest ts).1=false→∀last' i':Int,Q .ret ⟨tmSo 5 (rowsG us) d last' us.length i', [layB l],some (d,(ABa9 (fun x:GraT=>graOk x l) (fun x=>x.sl) last rest ts).2)⟩)→
   i≤us.length→WR (EvC N w0 lent) lpSG (rest.length+1) ⟨tmSo 5 (rowsG us) d last us.length i, [layB l],some (d,ts)⟩ Q
 | [],i,last,ts,hdr,hlen,h1,h2,hi=>by
   refine Zdw [2,4,6,7,10,11,12] mixed (AZl9 BAf9 ASk9 MCTok.nil lent N w0) (k:=100) ?_
   refine Eq.mpr (rSG _ _ us d ts l last us.length i) ?_
   have:=List.drop_eq_nil_iff.1 hdr
   obtain rfl:i=us.length:=by omega
   exact Zdl (by simp) (h1 rfl last)
 | x::rest,i,last,ts,hdr,hlen,h1,h2,hi=>by
   refine Zdw [2,4,6,7,10,11,12] mixed (AZl9 BAf9 ASk9 MCTok.nil lent N w0) (k:=100) ?_
   refine Eq.mpr (rSG _ _ us d ts l last us.length i) ?_
   obtain ⟨hx,hdr',hi'⟩:=BEz9 hdr
   rw [ADc9 hx]
   simp only [Zei] at hlen
   refine Zbg (by simp;omega) (Zbg (natI i) ⟨_,_,_,_,_,rfl,rfl,x,l,_,rfl,rfl,Zbh (fun g1=> ?_) fun g1=>⟨rfl,x,rfl,Zbh (fun g2=> ?_) fun g2=> ?_⟩⟩)
   · have e:ABa9 (fun x:GraT=>graOk x l) (fun x=>x.sl) last (x::rest) ts=(false,ts):=by rw [ABa9,if_pos g1]
     rw [e] at h2
     exact h2 rfl _ _
   · have g2:=of_decide_eq_true g2
     have e:ABa9 (fun x:GraT=>graOk x l) (fun x=>x.sl) last (x::rest) ts=(false,ts):=by rw [ABa9,if_neg (by rw [g1];decide),if_pos g2]
     rw [e] at h2
     exact h2 rfl _ _
   · have g2:=of_decide_eq_false g2
     have h:graOk x l=true:=by simpa using g1
     have hI:InI x.sl:=ALg9 (by simp only [graOk,Zaj] at h;exact h.1) hd
     have e:ABa9 (fun x:GraT=>graOk x l) (fun x=>x.sl) last (x::rest) ts=ABa9 (fun x:GraT=>graOk x l) (fun x=>x.sl) x.sl rest (incC x.sl ts):=by rw [ABa9,if_neg (by rw [g1];decide),if_neg g2]
     rw [e] at h1 h2
     refine ⟨rfl,x,rfl,rfl,d,ts,x.sl,_,rfl,rfl,rfl,hI,rfl,rfl,d,ts,_,x.sl,_,rfl,rfl,rfl,rfl,hI,by omega,rfl, ?_⟩
     rw [wrapN (by omega)]
     have:=AOu9 x.sl ts
     exact wrSG us d l hd hl rest (i+1) x.sl (incC x.sl ts) hdr' (by omega) h1 h2 (by omega)
noncomputable def wlSG (T:List (Nat×(List AV→(AV→Prop)→Prop))):WLT CntG:=fun cd tm hp b K=>∃(us:List GraT) (d:Nat) (l:LayT) (ts ts':Cnt) (q:Bool),cd= .loop lpSG∧ABd9 [2,4,6,7,10,11,12] 0 tm=tmSo 5 (rowsG us) d (-1) (rowsG us).length 0∧hp= [layB l]∧b=some (d,ts)∧(l.da≤60∧us.length<100000∧ts.length<100000∧q=(ADa9 l us ts).1∧ts'=(ADa9 l us ts).2)∧
 BIf q (∀last':Int,K (.exit 0) (tmSo 5 (rowsG us) d last' us.length us.length) [layB l] (some (d,ts'))) (∀last' i':Int,K .ret (tmSo 5 (rowsG us) d last' us.length i') [layB l] (some (d,ts')))
theorem BWs9 {T:List (Nat×(List AV→(AV→Prop)→Prop))} (lent:List Nat) (N:Nat) (w0:World) (c:Code) (tm:List AV) (hp:List Blk) (b:CntG) (K:Exit→List AV→List Blk→CntG→Prop) (h:wlSG T c tm hp b K):W (EvC N w0 lent) c ⟨tm,hp,b⟩ (fun e s=>K e s.tm s.hp s.b):=by
 obtain ⟨us,d,l,ts,ts',q,rfl,htm,rfl,rfl,⟨hd,hl,ht,hq,rfl⟩,hK⟩:=h
 rw [AAh9] at htm
 refine W.cast (htm▸AAe9 _ tm 0) (Zce _) ?_
 refine W.rounds (wrSG (N:=N) (w0:=w0) (lent:=lent) (Q:=fun e s=>K e s.tm s.hp s.b) us d l hd hl us 0 (-1) ts rfl (by omega) (fun h=> ?_) (fun h=> ?_) (Nat.zero_le _))
 · rw [hq,show (ADa9 l us ts).1=true from h] at hK;exact hK
 · rw [hq,show (ADa9 l us ts).1=false from h] at hK;exact hK
section
variable (y:ACv9 CntG) (R:AV→CntG→Prop)
theorem BIy9 (us:List GraT) (d:Nat) (ts:Cnt) (l:LayT):wpFn prog ⟨[], [],wlSG [],y,false⟩ 100 f114 [.d (.sl 5 (rowsG us)),layA l,mapA d] (some (d,ts)) R=(∃(us0:List GraT) (d1:Nat) (l2:LayT) (ts3:Cnt) (ts4:Cnt) (q5:Bool),Zaz lpSG=Zaz lpSG∧(Zad::Zad::Zab (Zdc (Zbm (some d)))::Zad::Zak 0 0::Zad::Zab (bo false)::Zab (i64 (-1))::Zad::Zad::Zab (Zaf 5 (rowsG us))::Zab (i64 ((Zaa (rowsG us):Nat):Int))::Zab (i64 0)::bds 25 [])=(Zad::Zad::Zab (Zdc (Zbm (some d1)))::Zad::Zak 0 0::Zad::Zab (bo false)::Zab (i64 (-1))::Zad::Zad::Zab (Zaf 5 (rowsG us0))::Zab (i64 ((Zaa (rowsG us0):Nat):Int))::Zab (i64 0)::bds 25 [])∧ [Blk.mk (Qz5 l) false false 0]= [Blk.mk (Qz5 l2) false false 0]∧some (d,ts)=some (d1,ts3)∧(LayT.da l2≤(60:Int)∧Zaa us0<100000∧Zaa ts3<100000∧q5=Prod.fst (ADa9 l2 us0 ts3)∧ts4=Prod.snd (ADa9 l2 us0 ts3))∧BIf q5 (∀(last':Int),R (.d (bo true)) (some (d1,ts4))) (∀(last' i':Int),R (.d (bo false)) (some (d1,ts4)))):=by kernel_rfl
end
theorem BSp9 (us:List GraT) (d:Nat) (ts:Cnt) (l:LayT) (hd:l.da≤60) (hl:us.length<100000) (ht:ts.length<100000):
   MCall prog cnF 114 [.d (.sl 5 (rowsG us)),layA l,mapA d] (some (d,ts)) fun x g=>x= .d (bo (ADa9 l us ts).1)∧g=some (d,(ADa9 l us ts).2):=by
 refine MCall.ofFn (n:=100) (u:=false) (wlSG []) mixed Zal Zah (fun N w0=>BWs9 _ N w0) func114 (by rfl) (by rfl) ?_
 rw [BIy9]
 exact ⟨us,d,l,ts,_,_,rfl,rfl,rfl,rfl,⟨hd,hl,ht,rfl,rfl⟩,Zbh (fun h last'=>⟨by rw [h],rfl⟩) fun h last' i'=>⟨by rw [h],rfl⟩⟩
def BOg9 (args:List AV) (g:CntG) (K:AV→CntG→Prop):Prop:=∃(us:List GraT) (d:Nat) (ts ts':Cnt) (l:LayT) (q:Bool),args= [.d (.sl 5 (rowsG us)),layA l,mapA d]∧g=some (d,ts)∧(l.da≤60∧us.length<100000∧ts.length<100000∧q=(ADa9 l us ts).1∧ts'=(ADa9 l us ts).2)∧K (.d (bo q)) (some (d,ts'))
theorem BFr9:∀args g K,BOg9 args g K→∃R,MCall prog cnF 114 args g R∧∀x g',R x g'→K x g':=by
 rintro _ _ K ⟨us,d,ts,_,l,_,rfl,rfl,⟨hd,hl,ht,rfl,rfl⟩,hk⟩
 refine ⟨_,BSp9 us d ts l hd hl ht, ?_⟩
 rintro x g' ⟨rfl,rfl⟩;exact hk
def AEk9 (l:LayT) (us:List AskT) (ts:Cnt):Bool×Cnt:=ABa9 (fun x:AskT=>askOk x l) (fun x=>x.sl) (-1) us ts
theorem wrSA {N:Nat} {w0:World} {lent:List Nat} {Q:Exit→St CntG→Prop} (us:List AskT) (d:Nat) (l:LayT) (hd:l.da≤60) (hl:us.length<100000):∀(rest:List AskT) (i:Nat) (last:Int) (ts:Cnt),us.drop i=rest→ts.length+rest.length<1000000→
   ((ABa9 (fun x:AskT=>askOk x l) (fun x=>x.sl) last rest ts).1=true→∀last':Int,Q (.exit 0) ⟨tmSo 3 (rowsA us) d last' us.length us.length, [layB l],some (d,(ABa9 (fun x:AskT=>askOk x l) (fun x=>x.sl) last rest ts).2)⟩)→
   ((ABa9 (fun x:AskT=>askOk x l) (fun x=>x.sl) last rest ts).1=false→∀last' i':Int,Q .ret ⟨tmSo 3 (rowsA us) d last' us.length i', [layB l],some (d,(ABa9 (fun x:AskT=>askOk x l) (fun x=>x.sl) last rest ts).2)⟩)→
   i≤us.length→WR (EvC N w0 lent) lpSA (rest.length+1) ⟨tmSo 3 (rowsA us) d last us.length i, [layB l],some (d,ts)⟩ Q
 | [],i,last,ts,hdr,hlen,h1,h2,hi=>by
   refine Zdw [2,4,6,7,10,11,12] mixed (AZl9 BAf9 ASk9 MCTok.nil lent N w0) (k:=100) ?_
   refine Eq.mpr (rSA _ _ us d ts l last us.length i) ?_
   have:=List.drop_eq_nil_iff.1 hdr
   obtain rfl:i=us.length:=by omega
   exact Zdl (by simp) (h1 rfl last)
 | x::rest,i,last,ts,hdr,hlen,h1,h2,hi=>by
   refine Zdw [2,4,6,7,10,11,12] mixed (AZl9 BAf9 ASk9 MCTok.nil lent N w0) (k:=100) ?_
   refine Eq.mpr (rSA _ _ us d ts l last us.length i) ?_
   obtain ⟨hx,hdr',hi'⟩:=BEz9 hdr
   rw [ACr9 hx]
   simp only [Zei] at hlen
   refine Zbg (by simp;omega) (Zbg (natI i) ⟨_,_,_,rfl,rfl,x,l,_,rfl,rfl,Zbh (fun g1=> ?_) fun g1=>⟨rfl,x,rfl,Zbh (fun g2=> ?_) fun g2=> ?_⟩⟩)
   · have e:ABa9 (fun x:AskT=>askOk x l) (fun x=>x.sl) last (x::rest) ts=(false,ts):=by rw [ABa9,if_pos g1]
     rw [e] at h2
     exact h2 rfl _ _
   · have g2:=of_decide_eq_true g2
     have e:ABa9 (fun x:AskT=>askOk x l) (fun x=>x.sl) last (x::rest) ts=(false,ts):=by rw [ABa9,if_neg (by rw [g1];decide),if_pos g2]
     rw [e] at h2
     exact h2 rfl _ _
   · have g2:=of_decide_eq_false g2
     have h:askOk x l=true:=by simpa using g1
     have hI:InI x.sl:=ALg9 (by simpa only [askOk] using h) hd
     have e:ABa9 (fun x:AskT=>askOk x l) (fun x=>x.sl) last (x::rest) ts=ABa9 (fun x:AskT=>askOk x l) (fun x=>x.sl) x.sl rest (incC x.sl ts):=by rw [ABa9,if_neg (by rw [g1];decide),if_neg g2]
     rw [e] at h1 h2
     refine ⟨rfl,x,rfl,rfl,d,ts,x.sl,_,rfl,rfl,rfl,hI,rfl,rfl,d,ts,_,x.sl,_,rfl,rfl,rfl,rfl,hI,by omega,rfl, ?_⟩
     rw [wrapN (by omega)]
     have:=AOu9 x.sl ts
     exact wrSA us d l hd hl rest (i+1) x.sl (incC x.sl ts) hdr' (by omega) h1 h2 (by omega)
noncomputable def wlSA (T:List (Nat×(List AV→(AV→Prop)→Prop))):WLT CntG:=fun cd tm hp b K=>∃(us:List AskT) (d:Nat) (l:LayT) (ts ts':Cnt) (q:Bool),cd= .loop lpSA∧ABd9 [2,4,6,7,10,11,12] 0 tm=tmSo 3 (rowsA us) d (-1) (rowsA us).length 0∧hp= [layB l]∧b=some (d,ts)∧(l.da≤60∧us.length<100000∧ts.length<100000∧q=(AEk9 l us ts).1∧ts'=(AEk9 l us ts).2)∧
 BIf q (∀last':Int,K (.exit 0) (tmSo 3 (rowsA us) d last' us.length us.length) [layB l] (some (d,ts'))) (∀last' i':Int,K .ret (tmSo 3 (rowsA us) d last' us.length i') [layB l] (some (d,ts')))
theorem BWt9 {T:List (Nat×(List AV→(AV→Prop)→Prop))} (lent:List Nat) (N:Nat) (w0:World) (c:Code) (tm:List AV) (hp:List Blk) (b:CntG) (K:Exit→List AV→List Blk→CntG→Prop) (h:wlSA T c tm hp b K):W (EvC N w0 lent) c ⟨tm,hp,b⟩ (fun e s=>K e s.tm s.hp s.b):=by
 obtain ⟨us,d,l,ts,ts',q,rfl,htm,rfl,rfl,⟨hd,hl,ht,hq,rfl⟩,hK⟩:=h
 rw [AAx9] at htm
 refine W.cast (htm▸AAe9 _ tm 0) (Zce _) ?_
 refine W.rounds (wrSA (N:=N) (w0:=w0) (lent:=lent) (Q:=fun e s=>K e s.tm s.hp s.b) us d l hd hl us 0 (-1) ts rfl (by omega) (fun h=> ?_) (fun h=> ?_) (Nat.zero_le _))
 · rw [hq,show (AEk9 l us ts).1=true from h] at hK;exact hK
 · rw [hq,show (AEk9 l us ts).1=false from h] at hK;exact hK
section
variable (y:ACv9 CntG) (R:AV→CntG→Prop)
theorem BIz9 (us:List AskT) (d:Nat) (ts:Cnt) (l:LayT):wpFn prog ⟨[], [],wlSA [],y,false⟩ 100 f116 [.d (.sl 3 (rowsA us)),layA l,mapA d] (some (d,ts)) R=(∃(us0:List AskT) (d1:Nat) (l2:LayT) (ts3:Cnt) (ts4:Cnt) (q5:Bool),Zaz lpSA=Zaz lpSA∧(Zad::Zad::Zab (Zdc (Zbm (some d)))::Zad::Zak 0 0::Zad::Zab (bo false)::Zab (i64 (-1))::Zad::Zad::Zab (Zaf 3 (rowsA us))::Zab (i64 ((Zaa (rowsA us):Nat):Int))::Zab (i64 0)::bds 25 [])=(Zad::Zad::Zab (Zdc (Zbm (some d1)))::Zad::Zak 0 0::Zad::Zab (bo false)::Zab (i64 (-1))::Zad::Zad::Zab (Zaf 3 (rowsA us0))::Zab (i64 ((Zaa (rowsA us0):Nat):Int))::Zab (i64 0)::bds 25 [])∧ [Blk.mk (Qz5 l) false false 0]= [Blk.mk (Qz5 l2) false false 0]∧some (d,ts)=some (d1,ts3)∧(LayT.da l2≤(60:Int)∧Zaa us0<100000∧Zaa ts3<100000∧q5=Prod.fst (AEk9 l2 us0 ts3)∧ts4=Prod.snd (AEk9 l2 us0 ts3))∧BIf q5 (∀(last':Int),R (.d (bo true)) (some (d1,ts4))) (∀(last' i':Int),R (.d (bo false)) (some (d1,ts4)))):=by kernel_rfl
end
theorem BSq9 (us:List AskT) (d:Nat) (ts:Cnt) (l:LayT) (hd:l.da≤60) (hl:us.length<100000) (ht:ts.length<100000):
   MCall prog cnF 116 [.d (.sl 3 (rowsA us)),layA l,mapA d] (some (d,ts)) fun x g=>x= .d (bo (AEk9 l us ts).1)∧g=some (d,(AEk9 l us ts).2):=by
 refine MCall.ofFn (n:=100) (u:=false) (wlSA []) mixed Zal Zah (fun N w0=>BWt9 _ N w0) func116 (by rfl) (by rfl) ?_
 rw [BIz9]
 exact ⟨us,d,l,ts,_,_,rfl,rfl,rfl,rfl,⟨hd,hl,ht,rfl,rfl⟩,Zbh (fun h last'=>⟨by rw [h],rfl⟩) fun h last' i'=>⟨by rw [h],rfl⟩⟩
def BOh9 (args:List AV) (g:CntG) (K:AV→CntG→Prop):Prop:=∃(us:List AskT) (d:Nat) (ts ts':Cnt) (l:LayT) (q:Bool),args= [.d (.sl 3 (rowsA us)),layA l,mapA d]∧g=some (d,ts)∧(l.da≤60∧us.length<100000∧ts.length<100000∧q=(AEk9 l us ts).1∧ts'=(AEk9 l us ts).2)∧K (.d (bo q)) (some (d,ts'))
theorem BFs9:∀args g K,BOh9 args g K→∃R,MCall prog cnF 116 args g R∧∀x g',R x g'→K x g':=by
 rintro _ _ K ⟨us,d,ts,_,l,_,rfl,rfl,⟨hd,hl,ht,rfl,rfl⟩,hk⟩
 refine ⟨_,BSq9 us d ts l hd hl ht, ?_⟩
 rintro x g' ⟨rfl,rfl⟩;exact hk
def TVd:List (Nat×(List AV→(AV→Prop)→Prop)):= [(113,cEU),(115,cEG),(117,cEA),(4000003,cNone),(4000004,cNone),(4000006,cNone),(4000007,cNone),(4000008,cNone)]
theorem BVe9:AAb9 prog TVd:=Zai CEd9 (Zai CEe9 (Zai CEf9 (Zai (ABx9 _) (Zai (ABx9 _) (Zai (ABx9 _) (Zai (ABx9 _) (Zai (ABx9 _) Zal)))))))
def CVd:MCT CntG:= [(112,BOf9),(114,BOg9),(116,BOh9)]
theorem CFh9:MCTok CVd:=by
 intro k f hk args g K h
 simp only [CVd,List.lookup] at hk
 split at hk
 · rename_i e;cases hk;have:=eq_of_beq e;subst this;exact BFq9 args g K h
 · split at hk
   · rename_i e;cases hk;have:=eq_of_beq e;subst this;exact BFr9 args g K h
   · split at hk
     · rename_i e;cases hk;have:=eq_of_beq e;subst this;exact BFs9 args g K h
     · cases hk
abbrev CntR:=CntG×Option AEe9
noncomputable def wlRn (wl:WLT CntR):WLT CntR:=wlS prog ⟨TVd, [],fun _ _ _ _ _=>False,fun _ _ _=>False,false⟩ (cnR [] CVd) wl
noncomputable def lpVd:Code:=sub [1,1,1,1,0,1,2,3] (code f73)
def tmVd (r:Nat):List AV:= [.bad, .bad, .bad, .bad, .d (bo false)]++Zaq 64 .bad++ [recA r]++Zaq 6 .bad
section
variable (y:ACv9 CntR) (K:Exit→List AV→List Blk→CntR→Prop)
abbrev Qz3 (v0:TabT):List AV:= [Zab (Zaf 4 (rowsU (TabT.us v0))),Zab (Zaf 5 (rowsG (TabT.gs v0))),Zab (Zaf 3 (rowsA (TabT.ak v0)))]
abbrev Qz31 (v0:Nat):List AV:=bds 4 (Zab (bo false)::bds 64 (Zab (Zdc (Zcf (some (Addr.mk v0 0 none))))::bds 6 []))
abbrev Qz45 (v0:TabT) (v1:LayT):= [Blk.mk (Qz3 v0) false false 0,Blk.mk (Qz5 v1) false false 0]
theorem rVd (t:TabT) (l:LayT) (d r cnt:Nat) (ts:Cnt) (left:Lit→Bool) (cur:Option Lit):wpc prog ⟨TVd, [],wlRn (fun _ _ _ _ _=>False),y,false⟩ 100 lpVd (tmVd r) [tabB t,layB l] (some (d,ts),some ⟨d,r,3,entC ts,left,cnt,cur⟩) (maskK 2 [4,69] K)=(∃(d0:Nat) (ts1:Cnt),some (d,ts)=some (d0,ts1)∧3=3∧entC ts=entC ts1∧Zab (Zdc (Zcf (some (Addr.mk r 0 none))))=Zab (Zdc (Zcf (some (Addr.mk r 0 none))))∧((∀(kl:Lit),AEe9.left (AEe9.mk d r (3:TypeId) (entC ts) left cnt cur) kl=false)→K (Zbv 0) (Qz31 r) (Qz45 t l) (some (d,ts),some (AEe9.mk d r 3 (entC ts) left cnt cur)))∧∀(n:Int) (cnt':Nat),AEe9.left (AEe9.mk d r (3:TypeId) (entC ts) left cnt cur) (Lit.int Zay n)=true→hasC n ts1=true→cnt'<AEe9.cnt (AEe9.mk d r (3:TypeId) (entC ts) left cnt cur)→∃(d2:Nat) (ts3:Cnt) (n4:Int),some (d,ts)=some (d2,ts3)∧3=3∧entC ts=entC ts3∧Zab (Zdc (Zcf (some (Addr.mk r 0 none))))=Zab (Zdc (Zcf (some (Addr.mk r 0 none))))∧some (Lit.int Zay n)=some (Lit.int Zay n4)∧BIf (decide (getC n4 ts3>(1:Int))) (K .ret (Qz31 r) (Qz45 t l) (some (d,ts),some (AEe9.mk d r 3 (entC ts) (fun (x5:Lit)=>left x5&& !Lit.sameKey x5 (Lit.int Zay n)) cnt' (some (Lit.int Zay n))))) (K .normal (Qz31 r) (Qz45 t l) (some (d,ts),some (AEe9.mk d r 3 (entC ts) (fun (x6:Lit)=>left x6&& !Lit.sameKey x6 (Lit.int Zay n)) cnt' (some (Lit.int Zay n)))))):=by kernel_rfl
end
def okC (ts:Cnt):Bool:=ts.all fun p=>decide (getC p.1 ts≤1)
abbrev EvR (N:Nat) (w0:World) (lent:List Nat):Env prog:=Env.rngd prog none N w0 lent cnF
theorem rn_ok {wl:WLT CntR} (lent:List Nat) (N:Nat) (w0:World) (hwl:∀c tm hp b K,wl c tm hp b K→W (EvR N w0 lent) c ⟨tm,hp,b⟩ (fun e s=>K e s.tm s.hp s.b)):∀c tm hp b K,wlRn wl c tm hp b K→W (EvR N w0 lent) c ⟨tm,hp,b⟩ (fun e s=>K e s.tm s.hp s.b):=
 CCs9 (Ev:=EvR N w0 lent) mixed (CX.Ok.ofWl (Ev:=EvR N w0 lent) BVe9 Zah fun _ _ _ _ _ h=>h.elim) (CEb9 Zal CFh9 N w0 lent) hwl
theorem BYd9 {wl:WLT CntR} (lent:List Nat) (N:Nat) (w0:World) (hwl:∀c tm hp b K,wl c tm hp b K→W (EvR N w0 lent) c ⟨tm,hp,b⟩ (fun e s=>K e s.tm s.hp s.b)):CX.Ok (EvR N w0 lent) ⟨TVd, [],wlRn wl,fun _ _ _=>False,false⟩:=
 CX.Ok.ofWl (Ev:=EvR N w0 lent) BVe9 Zah (rn_ok lent N w0 hwl)
theorem BEe9 {k:Int} {ts:Cnt}:hasC k ts=true↔∃p∈ts,p.1=k:=by simp [hasC]
theorem wrVd {N:Nat} {w0:World} {lent:List Nat} {Q:Exit→St CntR→Prop} (t:TabT) (l:LayT) (d r:Nat) (ts:Cnt) (hQ1:okC ts=true→∀c,Q (.exit 0) ⟨tmVd r, [tabB t,layB l],(some (d,ts),some c)⟩) (hQ2:okC ts=false→∀c,Q .ret ⟨tmVd r, [tabB t,layB l],(some (d,ts),some c)⟩):
   ∀(n cnt:Nat) (left:Lit→Bool) (cur:Option Lit),cnt≤n→(∀p∈ts,1<getC p.1 ts→left (.int .i64 p.1)=true)→WR (EvR N w0 lent) lpVd (n+1) ⟨tmVd r, [tabB t,layB l],(some (d,ts),some ⟨d,r,3,entC ts,left,cnt,cur⟩)⟩ Q:=by
 have fin:∀(left:Lit→Bool),(∀p∈ts,1<getC p.1 ts→left (.int .i64 p.1)=true)→(∀kl,left kl=false)→okC ts=true:=fun left hin hno=>by
   rw [okC,Zbd]
   intro p hp
   refine decide_eq_true ?_
   rcases Int.lt_or_le 1 (getC p.1 ts) with h|h
   · have:=hin p hp h
     rw [hno] at this;cases this
   · exact h
 intro n
 induction n with
 | zero=>
   intro cnt left cur hcnt hin
   refine Zdw [4,69] mixed (BYd9 (wl:=fun _ _ _ _ _=>False) lent N w0 fun _ _ _ _ _ h=>h.elim) (k:=100) ?_
   refine Eq.mpr (rVd _ _ t l d r cnt ts left cur) ?_
   refine ⟨d,ts,rfl,rfl,rfl,rfl,fun hno=>hQ1 (fin left hin hno) _,fun m cnt' hl hh hc=> ?_⟩
   have hc:cnt'<cnt:=hc
   omega
 | succ n ih=>
   intro cnt left cur hcnt hin
   refine Zdw [4,69] mixed (BYd9 (wl:=fun _ _ _ _ _=>False) lent N w0 fun _ _ _ _ _ h=>h.elim) (k:=100) ?_
   refine Eq.mpr (rVd _ _ t l d r cnt ts left cur) ?_
   refine ⟨d,ts,rfl,rfl,rfl,rfl,fun hno=>hQ1 (fin left hin hno) _,fun m cnt' hl hh hc=>⟨d,ts,m,rfl,rfl,rfl,rfl,rfl,Zbh (fun g=> ?_) fun g=> ?_⟩⟩
   · refine hQ2 ?_ _
     obtain ⟨p,hp,rfl⟩:=BEe9.1 hh
     have g:=of_decide_eq_true g
     cases ho:okC ts with
     |false=>rfl
     | true=>
       have:=of_decide_eq_true (Zbd.1 ho p hp)
       omega
   · have hc:cnt'<cnt:=hc
     have g:=of_decide_eq_false g
     refine ih cnt' _ _ (by omega) fun p hp h1=> ?_
     have h2:=hin p hp h1
     have hne:p.1≠m:=fun e=>by subst e;omega
     rw [h2,ADw9]
     simp [hne]
noncomputable def wlVdL:WLT CntR:=fun cd tm hp b K=>∃(t:TabT) (l:LayT) (d r:Nat) (ts:Cnt) (q:Bool),cd= .loop lpVd∧ABd9 [4,69] 0 tm=tmVd r∧hp= [tabB t,layB l]∧b=(some (d,ts),some ⟨d,r,3,entC ts,fun kl=>hasK kl (entC ts),(entC ts).length,none⟩)∧q=okC ts∧
 BIf q (∀c,K (.exit 0) (tmVd r) [tabB t,layB l] (some (d,ts),some c)) (∀c,K .ret (tmVd r) [tabB t,layB l] (some (d,ts),some c))
theorem BQg9 (lent:List Nat) (N:Nat) (w0:World) (c:Code) (tm:List AV) (hp:List Blk) (b:CntR) (K:Exit→List AV→List Blk→CntR→Prop) (h:wlVdL c tm hp b K):W (EvR N w0 lent) c ⟨tm,hp,b⟩ (fun e s=>K e s.tm s.hp s.b):=by
 obtain ⟨t,l,d,r,ts,q,rfl,htm,rfl,rfl,hq,hK⟩:=h
 refine W.cast (htm▸AAe9 _ tm 0) (Zce _) ?_
 refine W.rounds (wrVd (N:=N) (w0:=w0) (lent:=lent) (Q:=fun e s=>K e s.tm s.hp s.b) t l d r ts (fun h=> ?_) (fun h=> ?_) (entC ts).length (entC ts).length _ none (Zau _) fun p hp _=> ?_)
 · rw [hq,h] at hK;exact hK
 · rw [hq,h] at hK;exact hK
 · rw [BEx9];exact BEe9.2 ⟨p,hp,rfl⟩
section
variable (y:ACv9 CntR) (R:AV→CntR→Prop)
theorem BQm9 (t:TabT) (l:LayT):wpFn prog ⟨TVd, [],wlRn wlVdL,y,false⟩ 100 f73 [tabA t,layA l] (none,none) R=(BIf (decide (LayT.no l<(1:Int))) (R (.d (bo false)) (none,none)) (BIf (decide (LayT.no l>(60:Int))) (R (.d (bo false)) (none,none)) (BIf (decide (LayT.da l<(1:Int))) (R (.d (bo false)) (none,none)) (BIf (decide (LayT.da l>(60:Int))) (R (.d (bo false)) (none,none)) (BIf (decide (Zae .i64 (((Zaa (rowsU (TabT.us t)):Nat):Int)+((Zaa (rowsG (TabT.gs t)):Nat):Int))>(24:Int))) (R (.d (bo false)) (none,none)) (BIf (decide (((Zaa (rowsA (TabT.ak t)):Nat):Int)>(24:Int))) (R (.d (bo false)) (none,none)) (NoG none∧154=154∧∀(d:Nat),∃(l0:List UseT), [Zab (Zaf 4 (rowsU (TabT.us t))),Zat (Fn.func 108) [] []]= [Zab (Zaf 4 (rowsU l0)),Zat (Fn.func 108) [] []]∧Zaa l0<1000000∧true=true∧∃(us1:List UseT) (d2:Nat) (ts3:Cnt) (ts4:Cnt) (l5:LayT) (q6:Bool), [Zab (Zaf 4 (rowsU l0)),Zao (Qz5 l),Zab (Zdc (Zbm (some d)))]= [Zab (Zaf 4 (rowsU us1)),Zao (Qz5 l5),Zab (Zdc (Zbm (some d2)))]∧some (d, [])=some (d2,ts3)∧(LayT.da l5≤(60:Int)∧Zaa us1<100000∧Zaa ts3<100000∧q6=Prod.fst (ABz9 l5 us1 ts3)∧ts4=Prod.snd (ABz9 l5 us1 ts3))∧BIf (!q6) (R (.d (bo false)) (some (d2,ts4),none)) (∃(l7:List GraT), [Zab (Zaf 5 (rowsG (TabT.gs t))),Zat (Fn.func 95) [] []]= [Zab (Zaf 5 (rowsG l7)),Zat (Fn.func 95) [] []]∧Zaa l7<1000000∧true=true∧∃(us8:List GraT) (d9:Nat) (ts10:Cnt) (ts11:Cnt) (l12:LayT) (q13:Bool), [Zab (Zaf 5 (rowsG l7)),Zao (Qz5 l),Zab (Zdc (Zbm (some d)))]= [Zab (Zaf 5 (rowsG us8)),Zao (Qz5 l12),Zab (Zdc (Zbm (some d9)))]∧some (d2,ts4)=some (d9,ts10)∧(LayT.da l12≤(60:Int)∧Zaa us8<100000∧Zaa ts10<100000∧q13=Prod.fst (ADa9 l12 us8 ts10)∧ts11=Prod.snd (ADa9 l12 us8 ts10))∧BIf (!q13) (R (.d (bo false)) (some (d9,ts11),none)) (∃(l14:List AskT), [Zab (Zaf 3 (rowsA (TabT.ak t))),Zat (Fn.func 118) [] []]= [Zab (Zaf 3 (rowsA l14)),Zat (Fn.func 118) [] []]∧Zaa l14<1000000∧true=true∧∃(us15:List AskT) (d16:Nat) (ts17:Cnt) (ts18:Cnt) (l19:LayT) (q20:Bool), [Zab (Zaf 3 (rowsA l14)),Zao (Qz5 l),Zab (Zdc (Zbm (some d)))]= [Zab (Zaf 3 (rowsA us15)),Zao (Qz5 l19),Zab (Zdc (Zbm (some d16)))]∧some (d9,ts11)=some (d16,ts17)∧(LayT.da l19≤(60:Int)∧Zaa us15<100000∧Zaa ts17<100000∧q20=Prod.fst (AEk9 l19 us15 ts17)∧ts18=Prod.snd (AEk9 l19 us15 ts17))∧BIf (!q20) (R (.d (bo false)) (some (d16,ts18),none)) (154=154∧∃(d21:Nat) (ts22:Cnt),some (d16,ts18)=some (d21,ts22)∧Zab (Zdc (Zbm (some d)))=Zab (Zdc (Zbm (some d21)))∧∀(r:Nat),∃(t23:TabT) (l24:LayT) (d25:Nat) (r26:Nat) (ts27:Cnt) (q28:Bool),Zaz lpVd=Zaz lpVd∧(Qz31 r)=(Qz31 r26)∧(Qz45 t l)=(Qz45 t23 l24)∧(some (d21,ts22),some (AEe9.mk d21 r 3 (entC ts22) (fun (kl29:Lit)=>Zed (entC ts22) fun (p30:Lit×AV)=>Lit.sameKey (Prod.fst p30) kl29) (Zaa (entC ts22)) none))=(some (d25,ts27),some (AEe9.mk d25 r26 3 (entC ts27) (fun (kl31:Lit)=>Zed (entC ts27) fun (p32:Lit×AV)=>Lit.sameKey (Prod.fst p32) kl31) (Zaa (entC ts27)) none))∧q28=okC ts27∧BIf q28 (∀(c:AEe9),R (.d (bo true)) (some (d25,ts27),some c)) (∀(c:AEe9),R (.d (bo false)) (some (d25,ts27),some c)))))))))))):=by kernel_rfl
end
def TabOk (t:TabT):Prop:=t.us.length<10000∧t.gs.length<10000∧t.ak.length<10000
def ACy9 (t:TabT) (l:LayT):Bool:=
 if l.no<1 then false else if l.no>60 then false else if l.da<1 then false else if l.da>60 then false else if (t.us.length:Int)+(t.gs.length:Int)>24 then false else if (t.ak.length:Int)>24 then false
 else if (!(ABz9 l t.us []).1)=true then false else if (!(ADa9 l t.gs (ABz9 l t.us []).2).1)=true then false else if (!(AEk9 l t.ak (ADa9 l t.gs (ABz9 l t.us []).2).2).1)=true then false
 else okC (AEk9 l t.ak (ADa9 l t.gs (ABz9 l t.us []).2).2).2
theorem BZv9 (t:TabT) (l:LayT) (ht:TabOk t):MCall prog cnF 73 [tabA t,layA l] none fun x _=>x= .d (bo (ACy9 t l)):=by
 obtain ⟨t1,t2,t3⟩:=ht
 refine MCall.ofFnR (n:=100) (u:=false) (wlRn wlVdL) mixed BVe9 Zah (fun N w0=>rn_ok _ N w0 (BQg9 _ N w0)) func73 (by rfl) (by rfl) ?_
 rw [BQm9,AAi9,AAh9,AAx9]
 have hw:Zae Zay ((t.us.length:Int)+(t.gs.length:Int))=(t.us.length:Int)+(t.gs.length:Int):=AAt9 (by omega) (by omega)
 rw [hw]
 have e1:(ABz9 l t.us []).2.length≤t.us.length:=by
   have h:(ABz9 l t.us []).2.length≤([]:Cnt).length+t.us.length:=AKs9 (fun x:UseT=>useOk x l) (fun x=>x.sl) (-1) t.us []
   simpa using h
 have e2:=AKs9 (fun x:GraT=>graOk x l) (fun x=>x.sl) (-1) t.gs (ABz9 l t.us []).2
 have e2:(ADa9 l t.gs (ABz9 l t.us []).2).2.length≤(ABz9 l t.us []).2.length+t.gs.length:=e2
 refine Zbh (fun h1=> ?_) fun h1=>Zbh (fun h2=> ?_) fun h2=>Zbh (fun h3=> ?_) fun h3=>Zbh (fun h4=> ?_) fun h4=>Zbh (fun h5=> ?_) fun h5=>Zbh (fun h6=> ?_) fun h6=> ?_
 all_goals
   try simp only [decide_eq_true_eq,decide_eq_false_iff_not] at h1
   try simp only [decide_eq_true_eq,decide_eq_false_iff_not] at h2
   try simp only [decide_eq_true_eq,decide_eq_false_iff_not] at h3
   try simp only [decide_eq_true_eq,decide_eq_false_iff_not] at h4
   try simp only [decide_eq_true_eq,decide_eq_false_iff_not] at h5
   try simp only [decide_eq_true_eq,decide_eq_false_iff_not] at h6
 · rw [ACy9,if_pos h1]
 · rw [ACy9,if_neg h1,if_pos h2]
 · rw [ACy9,if_neg h1,if_neg h2,if_pos h3]
 · rw [ACy9,if_neg h1,if_neg h2,if_neg h3,if_pos h4]
 · rw [ACy9,if_neg h1,if_neg h2,if_neg h3,if_neg h4,if_pos h5]
 · rw [ACy9,if_neg h1,if_neg h2,if_neg h3,if_neg h4,if_neg h5,if_pos h6]
 · have hv:ACy9 t l=(if (!(ABz9 l t.us []).1)=true then false else if (!(ADa9 l t.gs (ABz9 l t.us []).2).1)=true then false else if (!(AEk9 l t.ak (ADa9 l t.gs (ABz9 l t.us []).2).2).1)=true then false
       else okC (AEk9 l t.ak (ADa9 l t.gs (ABz9 l t.us []).2).2).2):=by
     rw [ACy9,if_neg h1,if_neg h2,if_neg h3,if_neg h4,if_neg h5,if_neg h6]
   refine ⟨⟨rfl⟩,rfl,fun d=>⟨t.us,rfl,by omega,rfl,t.us,d, [],_,l,_,rfl,rfl,⟨by omega,by omega,by simp,rfl,rfl⟩,Zbh (fun g1=> ?_) fun g1=>⟨t.gs,rfl,by omega,rfl,t.gs,d,_,_,l,_,rfl,rfl,⟨by omega,by omega,by omega,rfl,rfl⟩,Zbh (fun g2=> ?_) fun g2=>
     ⟨t.ak,rfl,by omega,rfl,t.ak,d,_,_,l,_,rfl,rfl,⟨by omega,by omega,by omega,rfl,rfl⟩,Zbh (fun g3=> ?_) fun g3=>⟨rfl,d,_,rfl,rfl,fun r=>⟨t,l,d,r,_,_,rfl,rfl,rfl,rfl,rfl,Zbh (fun g4 c=> ?_) fun g4 c=> ?_⟩⟩⟩⟩⟩⟩
   · rw [hv,if_pos g1]
   · rw [hv,if_neg (by rw [g1];decide),if_pos g2]
   · rw [hv,if_neg (by rw [g1];decide),if_neg (by rw [g2];decide),if_pos g3]
   · rw [hv,if_neg (by rw [g1];decide),if_neg (by rw [g2];decide),if_neg (by rw [g3];decide),g4]
   · rw [hv,if_neg (by rw [g1];decide),if_neg (by rw [g2];decide),if_neg (by rw [g3];decide),g4]
theorem BYv9 (t:TabT) (l:LayT) (ht:TabOk t):PCall prog 73 [tabA t,layA l] (.d (bo (ACy9 t l))):=(BZv9 t l ht).toP rfl
def BLx9 (args:List AV) (K:AV→Prop):Prop:=∃(t:TabT) (l:LayT) (q:Bool),args= [tabA t,layA l]∧(TabOk t∧q=ACy9 t l)∧K (.d (bo q))
theorem APh9:∀args K,BLx9 args K→∃x,PCall prog 73 args x∧K x:=by
 rintro _ K ⟨t,l,_,rfl,⟨ht,rfl⟩,hk⟩;exact ⟨_,BYv9 t l ht,hk⟩
def idxS {α:Type} (p:α→Bool) (l:List α):Int:=match l.findIdx? p with
 |some j=>(j:Int)
 |none=> -1
theorem AAy9 {α:Type} {p:α→Bool} {l:List α} (h:l.findIdx? p=none):idxS p l= -1:=by simp [idxS,h]
theorem AAg9 {α:Type} {p:α→Bool} {l:List α} {j:Nat} (h:l.findIdx? p=some j):idxS p l=(j:Int):=by simp [idxS,h]
theorem AFo9 {α:Type} {p:α→Bool} {l:List α}:decide (idxS p l≥0)=l.any p:=by
 cases h:l.findIdx? p with
 | none=>
   rw [AAy9 h]
   have:=List.findIdx?_eq_none_iff.1 h
   symm
   rw [show decide ((-1:Int)≥0)=false by decide,List.any_eq_false]
   intro x hx;rw [this x hx];decide
 | some j=>
   rw [AAg9 h]
   obtain ⟨hj,hp,_⟩:=List.findIdx?_eq_some_iff_getElem.1 h
   rw [show decide ((j:Int)≥0)=true by simp]
   exact (List.any_eq_true.2 ⟨l[j],List.getElem_mem hj,hp⟩).symm
theorem WR.findL {α:Type} {P:Program} {Ev:Env P} {X:CX Ev.β} {lp:Code} {b:Ev.β} {Q:Exit→St Ev.β→Prop} {k:Nat} (keep:List Nat) (hm:P.follows .mixedOrders=true) (hX:X.Ok) (xs:List α) (p:α→Bool) (tmOf tmR:Nat→List AV) (hp:List Blk) (id:Nat)
   (hr:∀(i:Nat) (x:α),i<xs.length→xs[i]? =some x→∀K:Exit→List AV→List Blk→Ev.β→Prop,(p x=true→K .ret (tmR i) hp b)→(p x=false→K .normal (tmOf (i+1)) hp b)→wpc P X k lp (tmOf i) hp b (maskK hp.length keep K))
   (he:∀K:Exit→List AV→List Blk→Ev.β→Prop,K (.exit id) (tmOf xs.length) hp b→wpc P X k lp (tmOf xs.length) hp b (maskK hp.length keep K))
   (h1:xs.findIdx? p=none→Q (.exit id) ⟨tmOf xs.length,hp,b⟩) (h2:∀j,xs.findIdx? p=some j→Q .ret ⟨tmR j,hp,b⟩):WR Ev lp (xs.length+1) ⟨tmOf 0,hp,b⟩ Q:=by
 have key:∀(m i:Nat),i+m=xs.length→(∀(j:Nat) (x:α),j<i→xs[j]? =some x→p x=false)→WR Ev lp (m+1) ⟨tmOf i,hp,b⟩ Q:=by
   intro m
   induction m with
   | zero=>
     intro i hi hj
     have:i=xs.length:=by omega
     subst this
     refine Zdw keep hm hX (he _ (h1 ?_))
     rw [List.findIdx?_eq_none_iff]
     intro x hx
     obtain ⟨j,hjx⟩:=List.mem_iff_getElem?.1 hx
     exact hj j x (List.getElem?_eq_some_iff.1 hjx).1 hjx
   | succ m ih=>
     intro i hi hj
     have hil:i<xs.length:=by omega
     refine Zdw keep hm hX (hr i xs[i] hil (by simp [hil]) _ (fun h=>h2 i ?_) fun h=> ?_)
     · rw [List.findIdx?_eq_some_iff_getElem]
       refine ⟨hil,h,fun j hji=> ?_⟩
       have:=hj j xs[j] hji (by simp)
       simp [this]
     · refine ih (i+1) (by omega) fun j x hji hjx=> ?_
       rcases Zda j i with h'|h'
       · exact hj j x h' hjx
       · obtain rfl:j=i:=by omega
         have:xs[j]? =some xs[j]:=by simp [hil]
         rw [this] at hjx;cases hjx;exact h
 exact key xs.length 0 (by omega) fun j x hj=>by omega
theorem BFl9 (x:UseT) (s:Int):wpFn prog ⟨[], [],wl,y,false⟩ 100 f119 ([useA x]++ [.rptr [i64 s]]) b R=(R (Zab (bo (UseT.sl x==s))) b):=by kernel_rfl
theorem BKd9 (x:UseT) (s:Int):PCall prog 119 ([useA x]++ [.rptr [i64 s]]) (.d (bo ((fun x:UseT=>x.sl==s) x))):=by
 refine Zbe (n:=100) (u:=false) mixed Zal Zah func119 (by rfl) (by rfl) fun Ev bb=> ?_
 rw [BFl9]
def BHh9 (args:List AV) (K:AV→Prop):Prop:=∃(x:UseT) (s:Int) (q:Bool),args= [useA x]++ [.rptr [i64 s]]∧(q=(fun x:UseT=>x.sl==s) x)∧K (.d (bo q))
theorem AZz9:∀args K,BHh9 args K→∃x,PCall prog 119 args x∧K x:=by
 rintro _ K ⟨x,s,_,rfl,rfl,hk⟩;exact ⟨_,BKd9 x s,hk⟩
def BIe9:List (Nat×(List AV→(AV→Prop)→Prop)):= [(119,BHh9)]
theorem BId9:AAb9 prog BIe9:=Zai AZz9 Zal
noncomputable def ALq9:Code:=sub [1,0,1,2,3] (code f133)
def AFi9 (l:List UseT) (s:Int) (q i:Int):List AV:= [.d (.sl 4 (rowsU l)), .fn (.func 119) [] [.rptr [i64 s]], .bad, .bad, .d (i64 q), .bad, .bad, .d (i64 l.length), .d (i64 i)]++Zaq 10 .bad
theorem BNp9 (l:List UseT) (s:Int) (i:Int):wpc prog ⟨BIe9, [],wl,y,false⟩ 100 ALq9 (AFi9 l s 0 i) [] b (maskK 0 [0,1,4,7,8] K)=(BIf (decide (i<((Zaa l:Nat):Int))) (BIf (true&&decide (0≤i)) (∃(x0:Int) (x1:Int) (x2:Int) (x3:Int),(rowsU l)[Zav i]? =some [i64 x0,i64 x1,i64 x2,i64 x3]∧∃(x6:UseT) (s7:Int) (q8:Bool), [Zao (Qz38 x0 x1 x2 x3),Zag [i64 s]]= [Zao (Qz10 x6),Zag [i64 s7]]∧q8=(UseT.sl x6==s7)∧BIf q8 (K .ret (Zab (Zaf 4 (rowsU l))::Zat (Fn.func 119) [] [Zag [i64 s]]::Zad::Zad::Zab (i64 i)::Zad::Zad::Zab (i64 ((Zaa l:Nat):Int))::Zab (i64 i)::bds 10 []) [] b) (K .normal (Zab (Zaf 4 (rowsU l))::Zat (Fn.func 119) [] [Zag [i64 s]]::Zad::Zad::Zab (i64 0)::Zad::Zad::Zab (i64 ((Zaa l:Nat):Int))::Zab (i64 (Zae .i64 (i+1)))::bds 10 []) [] b)) False) (K (Zbv 0) (Zab (Zaf 4 (rowsU l))::Zat (Fn.func 119) [] [Zag [i64 s]]::Zad::Zad::Zab (i64 0)::Zad::Zad::Zab (i64 ((Zaa l:Nat):Int))::Zab (i64 i)::bds 10 []) [] b)):=by kernel_rfl
theorem BQe9 {Ev:Env prog} {b:Ev.β} {Q:Exit→St Ev.β→Prop} (l:List UseT) (s:Int) (hl:l.length≤9223372036854775807) (h1:l.findIdx? (fun x:UseT=>x.sl==s)=none→∀i:Int,Q (.exit 0) ⟨AFi9 l s 0 i, [],b⟩) (h2:∀j:Nat,l.findIdx? (fun x:UseT=>x.sl==s)=some j→Q .ret ⟨AFi9 l s j j, [],b⟩):
   WR Ev ALq9 (l.length+1) ⟨AFi9 l s 0 (0:Nat), [],b⟩ Q:=by
 refine WR.findL (X:=⟨BIe9, [],wlW Ev,Ev.Y,false⟩) (k:=100) [0,1,4,7,8] mixed (CX.Ok.of BId9 Zah) l (fun x:UseT=>x.sl==s) (fun i=>AFi9 l s 0 (i:Nat)) (fun i=>AFi9 l s (i:Nat) (i:Nat)) [] 0 (fun i x hi hxi K k1 k2=> ?_) (fun K k1=> ?_) (fun h=>h1 h _) h2
 · refine Eq.mpr (BNp9 _ _ _ K l s i) ?_
   rw [AEl9 hxi]
   refine Zbg (by simp;omega) (Zbg (natI i) ⟨_,_,_,_,rfl,x,s,_,rfl,rfl,Zbh (fun g=>k1 g) fun g=> ?_⟩)
   rw [wrapN (by omega)];exact k2 g
 · refine Eq.mpr (BNp9 _ _ _ K l s _) ?_
   exact Zdl (by simp) k1
def ATd9 {β:Type}:WLT β:=fun cd tm hp b K=>∃(l:List UseT) (s:Int) (q:Int),cd= .loop ALq9∧ABd9 [0,1,4,7,8] 0 tm=AFi9 l s 0 0∧hp= []∧(l.length≤9223372036854775807∧q=idxS (fun x:UseT=>x.sl==s) l)∧(∀i:Int,q= -1→K (.exit 0) (AFi9 l s 0 i) [] b)∧(∀i:Int,0≤q→K .ret (AFi9 l s q i) [] b)
theorem AXr9 {Ev:Env prog} (c:Code) (tm:List AV) (hp:List Blk) (b:Ev.β) (K:Exit→List AV→List Blk→Ev.β→Prop) (h:ATd9 c tm hp b K):W Ev c ⟨tm,hp,b⟩ (fun e s=>K e s.tm s.hp s.b):=by
 obtain ⟨l,s,q,rfl,htm,rfl,⟨hl,rfl⟩,hK1,hK2⟩:=h
 refine W.cast (htm▸AAe9 _ tm 0) (Zce _) ?_
 exact W.rounds (BQe9 (Q:=fun e s=>K e s.tm s.hp s.b) l s hl (fun h i=>hK1 i (AAy9 h)) fun j h=>by have:=hK2 j (by rw [AAg9 h];omega);rwa [AAg9 h] at this)
theorem AYx9 (l:List UseT) (s:Int):wpFn prog ⟨[], [],ATd9,y,false⟩ 100 f133 [.d (.sl 4 (rowsU l)), .fn (.func 119) [] [.rptr [i64 s]]] b R=(∃(l0:List UseT) (s1:Int) (q2:Int),Zaz ALq9=Zaz ALq9∧(Zab (Zaf 4 (rowsU l))::Zat (Fn.func 119) [] [Zag [i64 s]]::Zad::Zad::Zab (i64 0)::Zad::Zad::Zab (i64 ((Zaa (rowsU l):Nat):Int))::Zab (i64 0)::bds 10 [])=(Zab (Zaf 4 (rowsU l0))::Zat (Fn.func 119) [] [Zag [i64 s1]]::Zad::Zad::Zab (i64 0)::Zad::Zad::Zab (i64 ((Zaa l0:Nat):Int))::Zab (i64 0)::bds 10 [])∧([]:List Blk)= []∧(Zaa l0≤9223372036854775807∧q2=idxS (fun (x3:UseT)=>UseT.sl x3==s1) l0)∧(∀(i:Int),q2=(-1:Int)→R (.d (i64 (-1))) b)∧∀(i:Int),(0:Int)≤q2→R (.d (i64 q2)) b):=by kernel_rfl
theorem BDe9 (l:List UseT) (s:Int) (hl:l.length≤9223372036854775807):PCall prog 133 [.d (.sl 4 (rowsU l)), .fn (.func 119) [] [.rptr [i64 s]]] (.d (i64 (idxS (fun x:UseT=>x.sl==s) l))):=by
 refine Zdy (n:=100) (u:=false) (fun _=>ATd9) mixed Zal Zah (fun Ev=>AXr9) func133 (by rfl) (by rfl) fun Ev bb=> ?_
 rw [AYx9,AAi9]
 exact ⟨l,s,_,rfl,rfl,rfl,⟨hl,rfl⟩,fun i h=>by rw [h],fun i h=>rfl⟩
def AWr9 (args:List AV) (K:AV→Prop):Prop:=∃(l:List UseT) (s:Int) (q:Int),args= [.d (.sl 4 (rowsU l)), .fn (.func 119) [] [.rptr [i64 s]]]∧(l.length≤9223372036854775807∧q=idxS (fun x:UseT=>x.sl==s) l)∧K (.d (i64 q))
theorem AUl9:∀args K,AWr9 args K→∃x,PCall prog 133 args x∧K x:=by
 rintro _ K ⟨l,s,_,rfl,⟨hl,rfl⟩,hk⟩;exact ⟨_,BDe9 l s hl,hk⟩
def BPp9:List (Nat×(List AV→(AV→Prop)→Prop)):= [(133,AWr9)]
theorem BIk9:AAb9 prog BPp9:=Zai AUl9 Zal
theorem AZj9 (l:List UseT) (s:Int):wpFn prog ⟨BPp9, [],wl,y,false⟩ 100 f98 [.d (.sl 4 (rowsU l)), .fn (.func 119) [] [.rptr [i64 s]]] b R=(∃(l0:List UseT) (s1:Int) (q2:Int), [Zab (Zaf 4 (rowsU l)),Zat (Fn.func 119) [] [Zag [i64 s]]]= [Zab (Zaf 4 (rowsU l0)),Zat (Fn.func 119) [] [Zag [i64 s1]]]∧(Zaa l0≤9223372036854775807∧q2=idxS (fun (x3:UseT)=>UseT.sl x3==s1) l0)∧R (.d (bo (decide (q2≥(0:Int))))) b):=by kernel_rfl
theorem BDk9 (l:List UseT) (s:Int) (hl:l.length≤9223372036854775807):PCall prog 98 [.d (.sl 4 (rowsU l)), .fn (.func 119) [] [.rptr [i64 s]]] (.d (bo (l.any (fun x:UseT=>x.sl==s)))):=by
 refine Zbe (n:=100) (u:=false) mixed BIk9 Zah func98 (by rfl) (by rfl) fun Ev bb=> ?_
 rw [AZj9]
 exact ⟨l,s,_,rfl,⟨hl,rfl⟩,by rw [AFo9]⟩
def AWy9 (args:List AV) (K:AV→Prop):Prop:=∃(l:List UseT) (s:Int) (q:Bool),args= [.d (.sl 4 (rowsU l)), .fn (.func 119) [] [.rptr [i64 s]]]∧(l.length≤9223372036854775807∧q=l.any (fun x:UseT=>x.sl==s))∧K (.d (bo q))
theorem AUs9:∀args K,AWy9 args K→∃x,PCall prog 98 args x∧K x:=by
 rintro _ K ⟨l,s,_,rfl,⟨hl,rfl⟩,hk⟩;exact ⟨_,BDk9 l s hl,hk⟩
theorem BFm9 (x:GraT) (s:Int):wpFn prog ⟨[], [],wl,y,false⟩ 100 f120 ([graA x]++ [.rptr [i64 s]]) b R=(R (Zab (bo (GraT.sl x==s))) b):=by kernel_rfl
theorem BKe9 (x:GraT) (s:Int):PCall prog 120 ([graA x]++ [.rptr [i64 s]]) (.d (bo ((fun x:GraT=>x.sl==s) x))):=by
 refine Zbe (n:=100) (u:=false) mixed Zal Zah func120 (by rfl) (by rfl) fun Ev bb=> ?_
 rw [BFm9]
def BHi9 (args:List AV) (K:AV→Prop):Prop:=∃(x:GraT) (s:Int) (q:Bool),args= [graA x]++ [.rptr [i64 s]]∧(q=(fun x:GraT=>x.sl==s) x)∧K (.d (bo q))
theorem BAa9:∀args K,BHi9 args K→∃x,PCall prog 120 args x∧K x:=by
 rintro _ K ⟨x,s,_,rfl,rfl,hk⟩;exact ⟨_,BKe9 x s,hk⟩
def BIg9:List (Nat×(List AV→(AV→Prop)→Prop)):= [(120,BHi9)]
theorem BIf9:AAb9 prog BIg9:=Zai BAa9 Zal
noncomputable def ALr9:Code:=sub [1,0,1,2,3] (code f54)
def AFj9 (l:List GraT) (s:Int) (q i:Int):List AV:= [.d (.sl 5 (rowsG l)), .fn (.func 120) [] [.rptr [i64 s]], .bad, .bad, .d (i64 q), .bad, .bad, .d (i64 l.length), .d (i64 i)]++Zaq 10 .bad
theorem BNq9 (l:List GraT) (s:Int) (i:Int):wpc prog ⟨BIg9, [],wl,y,false⟩ 100 ALr9 (AFj9 l s 0 i) [] b (maskK 0 [0,1,4,7,8] K)=(BIf (decide (i<((Zaa l:Nat):Int))) (BIf (true&&decide (0≤i)) (∃(x0:Int) (x1:Int) (x2:Int) (x3:Int) (x4:Int),(rowsG l)[Zav i]? =some (Qz48 x0 x1 x2 x3 x4)∧∃(x7:GraT) (s8:Int) (q9:Bool), [Zao (Qz24 x0 x1 x2 x3 x4),Zag [i64 s]]= [Zao (Qz7 x7),Zag [i64 s8]]∧q9=(GraT.sl x7==s8)∧BIf q9 (K .ret (Zab (Zaf 5 (rowsG l))::Zat (Fn.func 120) [] [Zag [i64 s]]::Zad::Zad::Zab (i64 i)::Zad::Zad::Zab (i64 ((Zaa l:Nat):Int))::Zab (i64 i)::bds 10 []) [] b) (K .normal (Zab (Zaf 5 (rowsG l))::Zat (Fn.func 120) [] [Zag [i64 s]]::Zad::Zad::Zab (i64 0)::Zad::Zad::Zab (i64 ((Zaa l:Nat):Int))::Zab (i64 (Zae .i64 (i+1)))::bds 10 []) [] b)) False) (K (Zbv 0) (Zab (Zaf 5 (rowsG l))::Zat (Fn.func 120) [] [Zag [i64 s]]::Zad::Zad::Zab (i64 0)::Zad::Zad::Zab (i64 ((Zaa l:Nat):Int))::Zab (i64 i)::bds 10 []) [] b)):=by kernel_rfl
theorem BQf9 {Ev:Env prog} {b:Ev.β} {Q:Exit→St Ev.β→Prop} (l:List GraT) (s:Int) (hl:l.length≤9223372036854775807) (h1:l.findIdx? (fun x:GraT=>x.sl==s)=none→∀i:Int,Q (.exit 0) ⟨AFj9 l s 0 i, [],b⟩) (h2:∀j:Nat,l.findIdx? (fun x:GraT=>x.sl==s)=some j→Q .ret ⟨AFj9 l s j j, [],b⟩):
   WR Ev ALr9 (l.length+1) ⟨AFj9 l s 0 (0:Nat), [],b⟩ Q:=by
 refine WR.findL (X:=⟨BIg9, [],wlW Ev,Ev.Y,false⟩) (k:=100) [0,1,4,7,8] mixed (CX.Ok.of BIf9 Zah) l (fun x:GraT=>x.sl==s) (fun i=>AFj9 l s 0 (i:Nat)) (fun i=>AFj9 l s (i:Nat) (i:Nat)) [] 0 (fun i x hi hxi K k1 k2=> ?_) (fun K k1=> ?_) (fun h=>h1 h _) h2
 · refine Eq.mpr (BNq9 _ _ _ K l s i) ?_
   rw [ADc9 hxi]
   refine Zbg (by simp;omega) (Zbg (natI i) ⟨_,_,_,_,_,rfl,x,s,_,rfl,rfl,Zbh (fun g=>k1 g) fun g=> ?_⟩)
   rw [wrapN (by omega)];exact k2 g
 · refine Eq.mpr (BNq9 _ _ _ K l s _) ?_
   exact Zdl (by simp) k1
def ATe9 {β:Type}:WLT β:=fun cd tm hp b K=>∃(l:List GraT) (s:Int) (q:Int),cd= .loop ALr9∧ABd9 [0,1,4,7,8] 0 tm=AFj9 l s 0 0∧hp= []∧(l.length≤9223372036854775807∧q=idxS (fun x:GraT=>x.sl==s) l)∧(∀i:Int,q= -1→K (.exit 0) (AFj9 l s 0 i) [] b)∧(∀i:Int,0≤q→K .ret (AFj9 l s q i) [] b)
theorem AXs9 {Ev:Env prog} (c:Code) (tm:List AV) (hp:List Blk) (b:Ev.β) (K:Exit→List AV→List Blk→Ev.β→Prop) (h:ATe9 c tm hp b K):W Ev c ⟨tm,hp,b⟩ (fun e s=>K e s.tm s.hp s.b):=by
 obtain ⟨l,s,q,rfl,htm,rfl,⟨hl,rfl⟩,hK1,hK2⟩:=h
 refine W.cast (htm▸AAe9 _ tm 0) (Zce _) ?_
 exact W.rounds (BQf9 (Q:=fun e s=>K e s.tm s.hp s.b) l s hl (fun h i=>hK1 i (AAy9 h)) fun j h=>by have:=hK2 j (by rw [AAg9 h];omega);rwa [AAg9 h] at this)
theorem AYy9 (l:List GraT) (s:Int):wpFn prog ⟨[], [],ATe9,y,false⟩ 100 f54 [.d (.sl 5 (rowsG l)), .fn (.func 120) [] [.rptr [i64 s]]] b R=(∃(l0:List GraT) (s1:Int) (q2:Int),Zaz ALr9=Zaz ALr9∧(Zab (Zaf 5 (rowsG l))::Zat (Fn.func 120) [] [Zag [i64 s]]::Zad::Zad::Zab (i64 0)::Zad::Zad::Zab (i64 ((Zaa (rowsG l):Nat):Int))::Zab (i64 0)::bds 10 [])=(Zab (Zaf 5 (rowsG l0))::Zat (Fn.func 120) [] [Zag [i64 s1]]::Zad::Zad::Zab (i64 0)::Zad::Zad::Zab (i64 ((Zaa l0:Nat):Int))::Zab (i64 0)::bds 10 [])∧([]:List Blk)= []∧(Zaa l0≤9223372036854775807∧q2=idxS (fun (x3:GraT)=>GraT.sl x3==s1) l0)∧(∀(i:Int),q2=(-1:Int)→R (.d (i64 (-1))) b)∧∀(i:Int),(0:Int)≤q2→R (.d (i64 q2)) b):=by kernel_rfl
theorem BDf9 (l:List GraT) (s:Int) (hl:l.length≤9223372036854775807):PCall prog 54 [.d (.sl 5 (rowsG l)), .fn (.func 120) [] [.rptr [i64 s]]] (.d (i64 (idxS (fun x:GraT=>x.sl==s) l))):=by
 refine Zdy (n:=100) (u:=false) (fun _=>ATe9) mixed Zal Zah (fun Ev=>AXs9) func54 (by rfl) (by rfl) fun Ev bb=> ?_
 rw [AYy9,AAh9]
 exact ⟨l,s,_,rfl,rfl,rfl,⟨hl,rfl⟩,fun i h=>by rw [h],fun i h=>rfl⟩
def AWs9 (args:List AV) (K:AV→Prop):Prop:=∃(l:List GraT) (s:Int) (q:Int),args= [.d (.sl 5 (rowsG l)), .fn (.func 120) [] [.rptr [i64 s]]]∧(l.length≤9223372036854775807∧q=idxS (fun x:GraT=>x.sl==s) l)∧K (.d (i64 q))
theorem AUm9:∀args K,AWs9 args K→∃x,PCall prog 54 args x∧K x:=by
 rintro _ K ⟨l,s,_,rfl,⟨hl,rfl⟩,hk⟩;exact ⟨_,BDf9 l s hl,hk⟩
def BPq9:List (Nat×(List AV→(AV→Prop)→Prop)):= [(54,AWs9)]
theorem BIl9:AAb9 prog BPq9:=Zai AUm9 Zal
theorem AZk9 (l:List GraT) (s:Int):wpFn prog ⟨BPq9, [],wl,y,false⟩ 100 f87 [.d (.sl 5 (rowsG l)), .fn (.func 120) [] [.rptr [i64 s]]] b R=(∃(l0:List GraT) (s1:Int) (q2:Int), [Zab (Zaf 5 (rowsG l)),Zat (Fn.func 120) [] [Zag [i64 s]]]= [Zab (Zaf 5 (rowsG l0)),Zat (Fn.func 120) [] [Zag [i64 s1]]]∧(Zaa l0≤9223372036854775807∧q2=idxS (fun (x3:GraT)=>GraT.sl x3==s1) l0)∧R (.d (bo (decide (q2≥(0:Int))))) b):=by kernel_rfl
theorem BDl9 (l:List GraT) (s:Int) (hl:l.length≤9223372036854775807):PCall prog 87 [.d (.sl 5 (rowsG l)), .fn (.func 120) [] [.rptr [i64 s]]] (.d (bo (l.any (fun x:GraT=>x.sl==s)))):=by
 refine Zbe (n:=100) (u:=false) mixed BIl9 Zah func87 (by rfl) (by rfl) fun Ev bb=> ?_
 rw [AZk9]
 exact ⟨l,s,_,rfl,⟨hl,rfl⟩,by rw [AFo9]⟩
def AWz9 (args:List AV) (K:AV→Prop):Prop:=∃(l:List GraT) (s:Int) (q:Bool),args= [.d (.sl 5 (rowsG l)), .fn (.func 120) [] [.rptr [i64 s]]]∧(l.length≤9223372036854775807∧q=l.any (fun x:GraT=>x.sl==s))∧K (.d (bo q))
theorem AUt9:∀args K,AWz9 args K→∃x,PCall prog 87 args x∧K x:=by
 rintro _ K ⟨l,s,_,rfl,⟨hl,rfl⟩,hk⟩;exact ⟨_,BDl9 l s hl,hk⟩
structure SideT where
 lay:LayT
 me:Int
 ns:List NearT
 fr:Int
def sideD (s:SideT):List Dv:= [i64 s.lay.no,i64 s.lay.da,i64 s.me, .sl 31 (rowsN s.ns),i64 s.fr]
theorem BLs9 (x:NearT) (pe:Int):wpFn prog ⟨[], [],wl,y,false⟩ 100 f83 ([nearA x]++ [.rptr [i64 pe]]) b R=(R (Zab (bo (NearT.fm x==pe))) b):=by kernel_rfl
theorem BSe9 (x:NearT) (pe:Int):PCall prog 83 ([nearA x]++ [.rptr [i64 pe]]) (.d (bo ((fun x:NearT=>x.fm==pe) x))):=by
 refine Zbe (n:=100) (u:=false) mixed Zal Zah func83 (by rfl) (by rfl) fun Ev bb=> ?_
 rw [BLs9]
def BPa9 (args:List AV) (K:AV→Prop):Prop:=∃(x:NearT) (pe:Int) (q:Bool),args= [nearA x]++ [.rptr [i64 pe]]∧(q=(fun x:NearT=>x.fm==pe) x)∧K (.d (bo q))
theorem BHe9:∀args K,BPa9 args K→∃x,PCall prog 83 args x∧K x:=by
 rintro _ K ⟨x,pe,_,rfl,rfl,hk⟩;exact ⟨_,BSe9 x pe,hk⟩
def BVt9:List (Nat×(List AV→(AV→Prop)→Prop)):= [(83,BPa9)]
theorem BNc9:AAb9 prog BVt9:=Zai BHe9 Zal
noncomputable def ARj9:Code:=sub [1,0,1,2,3] (code f82)
def AHt9 (l:List NearT) (pe:Int) (q i:Int):List AV:= [.d (.sl 31 (rowsN l)), .fn (.func 83) [] [.rptr [i64 pe]], .bad, .bad, .d (i64 q), .bad, .bad, .d (i64 l.length), .d (i64 i)]++Zaq 10 .bad
abbrev Qz1 (v0:NearT):List AV:= [Zab (i64 (NearT.fr v0)),Zab (i64 (NearT.fm v0)),Zab (i64 (NearT.x2 v0)),Zab (i64 (NearT.x3 v0)),Zab (i64 (NearT.x4 v0)),Zab (i64 (NearT.x5 v0)),Zab (i64 (NearT.x6 v0)),Zab (i64 (NearT.x7 v0)),Zab (i64 (NearT.x8 v0)),Zab (i64 (NearT.x9 v0)),Zab (i64 (NearT.x10 v0)),Zab (i64 (NearT.x11 v0)),Zab (Zaf 4 (rowsU (NearT.us v0))),Zab (Zaf 5 (rowsG (NearT.gs v0))),Zab (Zaf 3 (rowsA (NearT.ak v0))),Zab (Zaf 4 (NearT.s15 v0)),Zab (bo (NearT.b16 v0)),Zab (Zaf 8 (NearT.s17 v0)),Zab (Zaf 8 (NearT.s18 v0)),Zab (Zaf 1 (NearT.s19 v0)),Zab (i64 (NearT.x20 v0)),Zab (i64 (NearT.x21 v0)),Zab (u64 (NearT.x22 v0)),Zab (i64 (NearT.x23 v0)),Zab (i64 (NearT.x24 v0)),Zab (i64 (NearT.x25 v0)),Zab (i64 (NearT.x26 v0)),Zab (i64 (NearT.x27 v0)),Zab (Zaf 1 (NearT.s28 v0)),Zab (Zaf 1 (NearT.s29 v0)),Zab (bo (NearT.b30 v0))]
theorem BYp9 (l:List NearT) (pe:Int) (i:Int):wpc prog ⟨BVt9, [],wl,y,false⟩ 100 ARj9 (AHt9 l pe 0 i) [] b (maskK 0 [0,1,4,7,8] K)=(BIf (decide (i<((Zaa l:Nat):Int))) (BIf (true&&decide (0≤i)) (∃(x0:Int) (x1:Int) (x2:Int) (x3:Int) (x4:Int) (x5:Int) (x6:Int) (x7:Int) (x8:Int) (x9:Int) (x10:Int) (x11:Int) (xs12:List (List Dv)) (xs13:List (List Dv)) (xs14:List (List Dv)) (xs15:List (List Dv)) (b16:Bool) (xs17:List (List Dv)) (xs18:List (List Dv)) (xs19:List (List Dv)) (x20:Int) (x21:Int) (x22:Int) (x23:Int) (x24:Int) (x25:Int) (x26:Int) (x27:Int) (xs28:List (List Dv)) (xs29:List (List Dv)) (b30:Bool),(rowsN l)[Zav i]? =some [i64 x0,i64 x1,i64 x2,i64 x3,i64 x4,i64 x5,i64 x6,i64 x7,i64 x8,i64 x9,i64 x10,i64 x11,Zaf 4 xs12,Zaf 5 xs13,Zaf 3 xs14,Zaf 4 xs15,bo b16,Zaf 8 xs17,Zaf 8 xs18,Zaf 1 xs19,i64 x20,i64 x21,u64 x22,i64 x23,i64 x24,i64 x25,i64 x26,i64 x27,Zaf 1 xs28,Zaf 1 xs29,bo b30]∧∃(x33:NearT) (pe34:Int) (q35:Bool), [Zao [Zab (i64 x0),Zab (i64 x1),Zab (i64 x2),Zab (i64 x3),Zab (i64 x4),Zab (i64 x5),Zab (i64 x6),Zab (i64 x7),Zab (i64 x8),Zab (i64 x9),Zab (i64 x10),Zab (i64 x11),Zab (Zaf 4 xs12),Zab (Zaf 5 xs13),Zab (Zaf 3 xs14),Zab (Zaf 4 xs15),Zab (bo b16),Zab (Zaf 8 xs17),Zab (Zaf 8 xs18),Zab (Zaf 1 xs19),Zab (i64 x20),Zab (i64 x21),Zab (u64 x22),Zab (i64 x23),Zab (i64 x24),Zab (i64 x25),Zab (i64 x26),Zab (i64 x27),Zab (Zaf 1 xs28),Zab (Zaf 1 xs29),Zab (bo b30)],Zag [i64 pe]]= [Zao (Qz1 x33),Zag [i64 pe34]]∧q35=(NearT.fm x33==pe34)∧BIf q35 (K .ret (Zab (Zaf 31 (rowsN l))::Zat (Fn.func 83) [] [Zag [i64 pe]]::Zad::Zad::Zab (i64 i)::Zad::Zad::Zab (i64 ((Zaa l:Nat):Int))::Zab (i64 i)::bds 10 []) [] b) (K .normal (Zab (Zaf 31 (rowsN l))::Zat (Fn.func 83) [] [Zag [i64 pe]]::Zad::Zad::Zab (i64 0)::Zad::Zad::Zab (i64 ((Zaa l:Nat):Int))::Zab (i64 (Zae .i64 (i+1)))::bds 10 []) [] b)) False) (K (Zbv 0) (Zab (Zaf 31 (rowsN l))::Zat (Fn.func 83) [] [Zag [i64 pe]]::Zad::Zad::Zab (i64 0)::Zad::Zad::Zab (i64 ((Zaa l:Nat):Int))::Zab (i64 i)::bds 10 []) [] b)):=by kernel_rfl
theorem BWk9 {Ev:Env prog} {b:Ev.β} {Q:Exit→St Ev.β→Prop} (l:List NearT) (pe:Int) (hl:l.length≤9223372036854775807) (h1:l.findIdx? (fun x:NearT=>x.fm==pe)=none→∀i:Int,Q (.exit 0) ⟨AHt9 l pe 0 i, [],b⟩) (h2:∀j:Nat,l.findIdx? (fun x:NearT=>x.fm==pe)=some j→Q .ret ⟨AHt9 l pe j j, [],b⟩):
   WR Ev ARj9 (l.length+1) ⟨AHt9 l pe 0 (0:Nat), [],b⟩ Q:=by
 refine WR.findL (X:=⟨BVt9, [],wlW Ev,Ev.Y,false⟩) (k:=100) [0,1,4,7,8] mixed (CX.Ok.of BNc9 Zah) l (fun x:NearT=>x.fm==pe) (fun i=>AHt9 l pe 0 (i:Nat)) (fun i=>AHt9 l pe (i:Nat) (i:Nat)) [] 0 (fun i x hi hxi K k1 k2=> ?_) (fun K k1=> ?_) (fun h=>h1 h _) h2
 · refine Eq.mpr (BYp9 _ _ _ K l pe i) ?_
   rw [AEm9 hxi]
   refine Zbg (by simp;omega) (Zbg (natI i) ⟨_,_,_,_,_,_,_,_,_,_,_,_,_,_,_,_,_,_,_,_,_,_,_,_,_,_,_,_,_,_,_,rfl,x,pe,_,rfl,rfl,Zbh (fun g=>k1 g) fun g=> ?_⟩)
   rw [wrapN (by omega)];exact k2 g
 · refine Eq.mpr (BYp9 _ _ _ K l pe _) ?_
   exact Zdl (by simp) k1
def BBo9 {β:Type}:WLT β:=fun cd tm hp b K=>∃(l:List NearT) (pe:Int) (q:Int),cd= .loop ARj9∧ABd9 [0,1,4,7,8] 0 tm=AHt9 l pe 0 0∧hp= []∧(l.length≤9223372036854775807∧q=idxS (fun x:NearT=>x.fm==pe) l)∧(∀i:Int,q= -1→K (.exit 0) (AHt9 l pe 0 i) [] b)∧(∀i:Int,0≤q→K .ret (AHt9 l pe q i) [] b)
theorem BBn9 {Ev:Env prog} (c:Code) (tm:List AV) (hp:List Blk) (b:Ev.β) (K:Exit→List AV→List Blk→Ev.β→Prop) (h:BBo9 c tm hp b K):W Ev c ⟨tm,hp,b⟩ (fun e s=>K e s.tm s.hp s.b):=by
 obtain ⟨l,pe,q,rfl,htm,rfl,⟨hl,rfl⟩,hK1,hK2⟩:=h
 refine W.cast (htm▸AAe9 _ tm 0) (Zce _) ?_
 exact W.rounds (BWk9 (Q:=fun e s=>K e s.tm s.hp s.b) l pe hl (fun h i=>hK1 i (AAy9 h)) fun j h=>by have:=hK2 j (by rw [AAg9 h];omega);rwa [AAg9 h] at this)
theorem BEb9 (l:List NearT) (pe:Int):wpFn prog ⟨[], [],BBo9,y,false⟩ 100 f82 [.d (.sl 31 (rowsN l)), .fn (.func 83) [] [.rptr [i64 pe]]] b R=(∃(l0:List NearT) (pe1:Int) (q2:Int),Zaz ARj9=Zaz ARj9∧(Zab (Zaf 31 (rowsN l))::Zat (Fn.func 83) [] [Zag [i64 pe]]::Zad::Zad::Zab (i64 0)::Zad::Zad::Zab (i64 ((Zaa (rowsN l):Nat):Int))::Zab (i64 0)::bds 10 [])=(Zab (Zaf 31 (rowsN l0))::Zat (Fn.func 83) [] [Zag [i64 pe1]]::Zad::Zad::Zab (i64 0)::Zad::Zad::Zab (i64 ((Zaa l0:Nat):Int))::Zab (i64 0)::bds 10 [])∧([]:List Blk)= []∧(Zaa l0≤9223372036854775807∧q2=idxS (fun (x3:NearT)=>NearT.fm x3==pe1) l0)∧(∀(i:Int),q2=(-1:Int)→R (.d (i64 (-1))) b)∧∀(i:Int),(0:Int)≤q2→R (.d (i64 q2)) b):=by kernel_rfl
theorem BJu9 (l:List NearT) (pe:Int) (hl:l.length≤9223372036854775807):PCall prog 82 [.d (.sl 31 (rowsN l)), .fn (.func 83) [] [.rptr [i64 pe]]] (.d (i64 (idxS (fun x:NearT=>x.fm==pe) l))):=by
 refine Zdy (n:=100) (u:=false) (fun _=>BBo9) mixed Zal Zah (fun Ev=>BBn9) func82 (by rfl) (by rfl) fun Ev bb=> ?_
 rw [BEb9,AFk9]
 exact ⟨l,pe,_,rfl,rfl,rfl,⟨hl,rfl⟩,fun i h=>by rw [h],fun i h=>rfl⟩
def BGe9 (args:List AV) (K:AV→Prop):Prop:=∃(l:List NearT) (pe:Int) (q:Int),args= [.d (.sl 31 (rowsN l)), .fn (.func 83) [] [.rptr [i64 pe]]]∧(l.length≤9223372036854775807∧q=idxS (fun x:NearT=>x.fm==pe) l)∧K (.d (i64 q))
theorem AZr9:∀args K,BGe9 args K→∃x,PCall prog 82 args x∧K x:=by
 rintro _ K ⟨l,pe,_,rfl,⟨hl,rfl⟩,hk⟩;exact ⟨_,BJu9 l pe hl,hk⟩
theorem BUd9 (x:GraT) (sl:Int) (of:Int) (s:SideT):wpFn prog ⟨[], [],wl,y,false⟩ 100 f88 ([graA x]++ [.rptr [i64 sl,i64 of], .rptr [.pt (sideD s)]]) b R=(BIf (GraT.sl x==sl&&(GraT.of x==of&&true)) (R (.d (bo (GraT.pe x !=SideT.me s))) b) (R (.d (bo false)) b)):=by kernel_rfl
theorem BZi9 (x:GraT) (sl:Int) (of:Int) (s:SideT):PCall prog 88 ([graA x]++ [.rptr [i64 sl,i64 of], .rptr [.pt (sideD s)]]) (.d (bo ((fun x:GraT=>(x.sl==sl&&x.of==of)&& !(x.pe==s.me)) x))):=by
 refine Zbe (n:=100) (u:=false) mixed Zal Zah func88 (by rfl) (by rfl) fun Ev bb=> ?_
 rw [BUd9]
 have e:(x.sl==sl&&(x.of==of&&true))=(x.sl==sl&&x.of==of):=by simp
 rw [e]
 refine Zbh (fun h=> ?_) fun h=> ?_
 · simp only [h,Bool.true_and]<;>rfl
 · simp only [h,Zdk]
def CBj9 (args:List AV) (K:AV→Prop):Prop:=∃(x:GraT) (sl:Int) (of:Int) (s:SideT) (q:Bool),args= [graA x]++ [.rptr [i64 sl,i64 of], .rptr [.pt (sideD s)]]∧(q=(fun x:GraT=>(x.sl==sl&&x.of==of)&& !(x.pe==s.me)) x)∧K (.d (bo q))
theorem BMj9:∀args K,CBj9 args K→∃x,PCall prog 88 args x∧K x:=by
 rintro _ K ⟨x,sl,of,s,_,rfl,rfl,hk⟩;exact ⟨_,BZi9 x sl of s,hk⟩
def TIFgn:List (Nat×(List AV→(AV→Prop)→Prop)):= [(88,CBj9)]
theorem BVu9:AAb9 prog TIFgn:=Zai BMj9 Zal
noncomputable def BDr9:Code:=sub [1,0,1,2,3] (code f54)
def AOc9 (l:List GraT) (sl:Int) (of:Int) (s:SideT) (q i:Int):List AV:= [.d (.sl 5 (rowsG l)), .fn (.func 88) [] [.rptr [i64 sl,i64 of], .rptr [.pt (sideD s)]], .bad, .bad, .d (i64 q), .bad, .bad, .d (i64 l.length), .d (i64 i)]++Zaq 10 .bad
abbrev Qz2 (v0:SideT):= [i64 (LayT.no (SideT.lay v0)),i64 (LayT.da (SideT.lay v0)),i64 (SideT.me v0),Zaf 31 (rowsN (SideT.ns v0)),i64 (SideT.fr v0)]
abbrev Qz22 (v0:Int) (v1:Int) (v2:SideT):List AV:= [Zag [i64 v0,i64 v1],Zag [Dv.pt (Qz2 v2)]]
theorem rIFgn (l:List GraT) (sl:Int) (of:Int) (s:SideT) (i:Int):wpc prog ⟨TIFgn, [],wl,y,false⟩ 100 BDr9 (AOc9 l sl of s 0 i) [] b (maskK 0 [0,1,4,7,8] K)=(BIf (decide (i<((Zaa l:Nat):Int))) (BIf (true&&decide (0≤i)) (∃(x0:Int) (x1:Int) (x2:Int) (x3:Int) (x4:Int),(rowsG l)[Zav i]? =some (Qz48 x0 x1 x2 x3 x4)∧∃(x7:GraT) (sl8:Int) (of9:Int) (s10:SideT) (q11:Bool), [Zao (Qz24 x0 x1 x2 x3 x4),Zag [i64 sl,i64 of],Zag [Dv.pt (Qz2 s)]]= [Zao (Qz7 x7),Zag [i64 sl8,i64 of9],Zag [Dv.pt (Qz2 s10)]]∧q11=(GraT.sl x7==sl8&&GraT.of x7==of9&& !GraT.pe x7==SideT.me s10)∧BIf q11 (K .ret (Zab (Zaf 5 (rowsG l))::Zat (Fn.func 88) [] (Qz22 sl of s)::Zad::Zad::Zab (i64 i)::Zad::Zad::Zab (i64 ((Zaa l:Nat):Int))::Zab (i64 i)::bds 10 []) [] b) (K .normal (Zab (Zaf 5 (rowsG l))::Zat (Fn.func 88) [] (Qz22 sl of s)::Zad::Zad::Zab (i64 0)::Zad::Zad::Zab (i64 ((Zaa l:Nat):Int))::Zab (i64 (Zae .i64 (i+1)))::bds 10 []) [] b)) False) (K (Zbv 0) (Zab (Zaf 5 (rowsG l))::Zat (Fn.func 88) [] (Qz22 sl of s)::Zad::Zad::Zab (i64 0)::Zad::Zad::Zab (i64 ((Zaa l:Nat):Int))::Zab (i64 i)::bds 10 []) [] b)):=by kernel_rfl
theorem CCl9 {Ev:Env prog} {b:Ev.β} {Q:Exit→St Ev.β→Prop} (l:List GraT) (sl:Int) (of:Int) (s:SideT) (hl:l.length≤9223372036854775807) (h1:l.findIdx? (fun x:GraT=>(x.sl==sl&&x.of==of)&& !(x.pe==s.me))=none→∀i:Int,Q (.exit 0) ⟨AOc9 l sl of s 0 i, [],b⟩) (h2:∀j:Nat,l.findIdx? (fun x:GraT=>(x.sl==sl&&x.of==of)&& !(x.pe==s.me))=some j→Q .ret ⟨AOc9 l sl of s j j, [],b⟩):
   WR Ev BDr9 (l.length+1) ⟨AOc9 l sl of s 0 (0:Nat), [],b⟩ Q:=by
 refine WR.findL (X:=⟨TIFgn, [],wlW Ev,Ev.Y,false⟩) (k:=100) [0,1,4,7,8] mixed (CX.Ok.of BVu9 Zah) l (fun x:GraT=>(x.sl==sl&&x.of==of)&& !(x.pe==s.me)) (fun i=>AOc9 l sl of s 0 (i:Nat)) (fun i=>AOc9 l sl of s (i:Nat) (i:Nat)) [] 0 (fun i x hi hxi K k1 k2=> ?_) (fun K k1=> ?_) (fun h=>h1 h _) h2
 · refine Eq.mpr (rIFgn _ _ _ K l sl of s i) ?_
   rw [ADc9 hxi]
   refine Zbg (by simp;omega) (Zbg (natI i) ⟨_,_,_,_,_,rfl,x,sl,of,s,_,rfl,rfl,Zbh (fun g=>k1 g) fun g=> ?_⟩)
   rw [wrapN (by omega)];exact k2 g
 · refine Eq.mpr (rIFgn _ _ _ K l sl of s _) ?_
   exact Zdl (by simp) k1
def BQi9 {β:Type}:WLT β:=fun cd tm hp b K=>∃(l:List GraT) (sl:Int) (of:Int) (s:SideT) (q:Int),cd= .loop BDr9∧ABd9 [0,1,4,7,8] 0 tm=AOc9 l sl of s 0 0∧hp= []∧(l.length≤9223372036854775807∧q=idxS (fun x:GraT=>(x.sl==sl&&x.of==of)&& !(x.pe==s.me)) l)∧(∀i:Int,q= -1→K (.exit 0) (AOc9 l sl of s 0 i) [] b)∧(∀i:Int,0≤q→K .ret (AOc9 l sl of s q i) [] b)
theorem BIo9 {Ev:Env prog} (c:Code) (tm:List AV) (hp:List Blk) (b:Ev.β) (K:Exit→List AV→List Blk→Ev.β→Prop) (h:BQi9 c tm hp b K):W Ev c ⟨tm,hp,b⟩ (fun e s=>K e s.tm s.hp s.b):=by
 obtain ⟨l,sl,of,s,q,rfl,htm,rfl,⟨hl,rfl⟩,hK1,hK2⟩:=h
 refine W.cast (htm▸AAe9 _ tm 0) (Zce _) ?_
 exact W.rounds (CCl9 (Q:=fun e s=>K e s.tm s.hp s.b) l sl of s hl (fun h i=>hK1 i (AAy9 h)) fun j h=>by have:=hK2 j (by rw [AAg9 h];omega);rwa [AAg9 h] at this)
theorem BKr9 (l:List GraT) (sl:Int) (of:Int) (s:SideT):wpFn prog ⟨[], [],BQi9,y,false⟩ 100 f54 [.d (.sl 5 (rowsG l)), .fn (.func 88) [] [.rptr [i64 sl,i64 of], .rptr [.pt (sideD s)]]] b R=(∃(l0:List GraT) (sl1:Int) (of2:Int) (s3:SideT) (q4:Int),Zaz BDr9=Zaz BDr9∧(Zab (Zaf 5 (rowsG l))::Zat (Fn.func 88) [] (Qz22 sl of s)::Zad::Zad::Zab (i64 0)::Zad::Zad::Zab (i64 ((Zaa (rowsG l):Nat):Int))::Zab (i64 0)::bds 10 [])=(Zab (Zaf 5 (rowsG l0))::Zat (Fn.func 88) [] (Qz22 sl1 of2 s3)::Zad::Zad::Zab (i64 0)::Zad::Zad::Zab (i64 ((Zaa l0:Nat):Int))::Zab (i64 0)::bds 10 [])∧([]:List Blk)= []∧(Zaa l0≤9223372036854775807∧q4=idxS (fun (x5:GraT)=>GraT.sl x5==sl1&&GraT.of x5==of2&& !GraT.pe x5==SideT.me s3) l0)∧(∀(i:Int),q4=(-1:Int)→R (.d (i64 (-1))) b)∧∀(i:Int),(0:Int)≤q4→R (.d (i64 q4)) b):=by kernel_rfl
theorem BRq9 (l:List GraT) (sl:Int) (of:Int) (s:SideT) (hl:l.length≤9223372036854775807):PCall prog 54 [.d (.sl 5 (rowsG l)), .fn (.func 88) [] [.rptr [i64 sl,i64 of], .rptr [.pt (sideD s)]]] (.d (i64 (idxS (fun x:GraT=>(x.sl==sl&&x.of==of)&& !(x.pe==s.me)) l))):=by
 refine Zdy (n:=100) (u:=false) (fun _=>BQi9) mixed Zal Zah (fun Ev=>BIo9) func54 (by rfl) (by rfl) fun Ev bb=> ?_
 rw [BKr9,AAh9]
 exact ⟨l,sl,of,s,_,rfl,rfl,rfl,⟨hl,rfl⟩,fun i h=>by rw [h],fun i h=>rfl⟩
def BOl9 (args:List AV) (K:AV→Prop):Prop:=∃(l:List GraT) (sl:Int) (of:Int) (s:SideT) (q:Int),args= [.d (.sl 5 (rowsG l)), .fn (.func 88) [] [.rptr [i64 sl,i64 of], .rptr [.pt (sideD s)]]]∧(l.length≤9223372036854775807∧q=idxS (fun x:GraT=>(x.sl==sl&&x.of==of)&& !(x.pe==s.me)) l)∧K (.d (i64 q))
theorem BGf9:∀args K,BOl9 args K→∃x,PCall prog 54 args x∧K x:=by
 rintro _ K ⟨l,sl,of,s,_,rfl,⟨hl,rfl⟩,hk⟩;exact ⟨_,BRq9 l sl of s hl,hk⟩
def TCFgn:List (Nat×(List AV→(AV→Prop)→Prop)):= [(54,BOl9)]
theorem BVw9:AAb9 prog TCFgn:=Zai BGf9 Zal
theorem BLe9 (l:List GraT) (sl:Int) (of:Int) (s:SideT):wpFn prog ⟨TCFgn, [],wl,y,false⟩ 100 f87 [.d (.sl 5 (rowsG l)), .fn (.func 88) [] [.rptr [i64 sl,i64 of], .rptr [.pt (sideD s)]]] b R=(∃(l0:List GraT) (sl1:Int) (of2:Int) (s3:SideT) (q4:Int), [Zab (Zaf 5 (rowsG l)),Zat (Fn.func 88) [] (Qz22 sl of s)]= [Zab (Zaf 5 (rowsG l0)),Zat (Fn.func 88) [] (Qz22 sl1 of2 s3)]∧(Zaa l0≤9223372036854775807∧q4=idxS (fun (x5:GraT)=>GraT.sl x5==sl1&&GraT.of x5==of2&& !GraT.pe x5==SideT.me s3) l0)∧R (.d (bo (decide (q4≥(0:Int))))) b):=by kernel_rfl
theorem BRu9 (l:List GraT) (sl:Int) (of:Int) (s:SideT) (hl:l.length≤9223372036854775807):PCall prog 87 [.d (.sl 5 (rowsG l)), .fn (.func 88) [] [.rptr [i64 sl,i64 of], .rptr [.pt (sideD s)]]] (.d (bo (l.any (fun x:GraT=>(x.sl==sl&&x.of==of)&& !(x.pe==s.me))))):=by
 refine Zbe (n:=100) (u:=false) mixed BVw9 Zah func87 (by rfl) (by rfl) fun Ev bb=> ?_
 rw [BLe9]
 exact ⟨l,sl,of,s,_,rfl,⟨hl,rfl⟩,by rw [AFo9]⟩
def BOq9 (args:List AV) (K:AV→Prop):Prop:=∃(l:List GraT) (sl:Int) (of:Int) (s:SideT) (q:Bool),args= [.d (.sl 5 (rowsG l)), .fn (.func 88) [] [.rptr [i64 sl,i64 of], .rptr [.pt (sideD s)]]]∧(l.length≤9223372036854775807∧q=l.any (fun x:GraT=>(x.sl==sl&&x.of==of)&& !(x.pe==s.me)))∧K (.d (bo q))
theorem BGn9:∀args K,BOq9 args K→∃x,PCall prog 87 args x∧K x:=by
 rintro _ K ⟨l,sl,of,s,_,rfl,⟨hl,rfl⟩,hk⟩;exact ⟨_,BRu9 l sl of s hl,hk⟩
theorem BLj9 (x:AskT) (sl:Int) (of:Int):wpFn prog ⟨[], [],wl,y,false⟩ 100 f44 ([askA x]++ [.rptr [i64 sl,i64 of]]) b R=(R (Zab (bo (AskT.sl x==sl))) b):=by kernel_rfl
theorem BRv9 (x:AskT) (sl:Int) (of:Int):PCall prog 44 ([askA x]++ [.rptr [i64 sl,i64 of]]) (.d (bo ((fun x:AskT=>x.sl==sl) x))):=by
 refine Zbe (n:=100) (u:=false) mixed Zal Zah func44 (by rfl) (by rfl) fun Ev bb=> ?_
 rw [BLj9]
def BOt9 (args:List AV) (K:AV→Prop):Prop:=∃(x:AskT) (sl:Int) (of:Int) (q:Bool),args= [askA x]++ [.rptr [i64 sl,i64 of]]∧(q=(fun x:AskT=>x.sl==sl) x)∧K (.d (bo q))
theorem BGv9:∀args K,BOt9 args K→∃x,PCall prog 44 args x∧K x:=by
 rintro _ K ⟨x,sl,of,_,rfl,rfl,hk⟩;exact ⟨_,BRv9 x sl of,hk⟩
def BVo9:List (Nat×(List AV→(AV→Prop)→Prop)):= [(44,BOt9)]
theorem BMx9:AAb9 prog BVo9:=Zai BGv9 Zal
noncomputable def ARe9:Code:=sub [1,0,1,2,3] (code f90)
def AHo9 (l:List AskT) (sl:Int) (of:Int) (q i:Int):List AV:= [.d (.sl 3 (rowsA l)), .fn (.func 44) [] [.rptr [i64 sl,i64 of]], .bad, .bad, .d (i64 q), .bad, .bad, .d (i64 l.length), .d (i64 i)]++Zaq 10 .bad
theorem BYk9 (l:List AskT) (sl:Int) (of:Int) (i:Int):wpc prog ⟨BVo9, [],wl,y,false⟩ 100 ARe9 (AHo9 l sl of 0 i) [] b (maskK 0 [0,1,4,7,8] K)=(BIf (decide (i<((Zaa l:Nat):Int))) (BIf (true&&decide (0≤i)) (∃(x0:Int) (x1:Int) (x2:Int),(rowsA l)[Zav i]? =some [i64 x0,i64 x1,i64 x2]∧∃(x5:AskT) (sl6:Int) (of7:Int) (q8:Bool), [Zao (Qz27 x0 x1 x2),Zag [i64 sl,i64 of]]= [Zao (Qz13 x5),Zag [i64 sl6,i64 of7]]∧q8=(AskT.sl x5==sl6)∧BIf q8 (K .ret (Zab (Zaf 3 (rowsA l))::Zat (Fn.func 44) [] [Zag [i64 sl,i64 of]]::Zad::Zad::Zab (i64 i)::Zad::Zad::Zab (i64 ((Zaa l:Nat):Int))::Zab (i64 i)::bds 10 []) [] b) (K .normal (Zab (Zaf 3 (rowsA l))::Zat (Fn.func 44) [] [Zag [i64 sl,i64 of]]::Zad::Zad::Zab (i64 0)::Zad::Zad::Zab (i64 ((Zaa l:Nat):Int))::Zab (i64 (Zae .i64 (i+1)))::bds 10 []) [] b)) False) (K (Zbv 0) (Zab (Zaf 3 (rowsA l))::Zat (Fn.func 44) [] [Zag [i64 sl,i64 of]]::Zad::Zad::Zab (i64 0)::Zad::Zad::Zab (i64 ((Zaa l:Nat):Int))::Zab (i64 i)::bds 10 []) [] b)):=by kernel_rfl
theorem BWf9 {Ev:Env prog} {b:Ev.β} {Q:Exit→St Ev.β→Prop} (l:List AskT) (sl:Int) (of:Int) (hl:l.length≤9223372036854775807) (h1:l.findIdx? (fun x:AskT=>x.sl==sl)=none→∀i:Int,Q (.exit 0) ⟨AHo9 l sl of 0 i, [],b⟩) (h2:∀j:Nat,l.findIdx? (fun x:AskT=>x.sl==sl)=some j→Q .ret ⟨AHo9 l sl of j j, [],b⟩):
   WR Ev ARe9 (l.length+1) ⟨AHo9 l sl of 0 (0:Nat), [],b⟩ Q:=by
 refine WR.findL (X:=⟨BVo9, [],wlW Ev,Ev.Y,false⟩) (k:=100) [0,1,4,7,8] mixed (CX.Ok.of BMx9 Zah) l (fun x:AskT=>x.sl==sl) (fun i=>AHo9 l sl of 0 (i:Nat)) (fun i=>AHo9 l sl of (i:Nat) (i:Nat)) [] 0 (fun i x hi hxi K k1 k2=> ?_) (fun K k1=> ?_) (fun h=>h1 h _) h2
 · refine Eq.mpr (BYk9 _ _ _ K l sl of i) ?_
   rw [ACr9 hxi]
   refine Zbg (by simp;omega) (Zbg (natI i) ⟨_,_,_,rfl,x,sl,of,_,rfl,rfl,Zbh (fun g=>k1 g) fun g=> ?_⟩)
   rw [wrapN (by omega)];exact k2 g
 · refine Eq.mpr (BYk9 _ _ _ K l sl of _) ?_
   exact Zdl (by simp) k1
def BBe9 {β:Type}:WLT β:=fun cd tm hp b K=>∃(l:List AskT) (sl:Int) (of:Int) (q:Int),cd= .loop ARe9∧ABd9 [0,1,4,7,8] 0 tm=AHo9 l sl of 0 0∧hp= []∧(l.length≤9223372036854775807∧q=idxS (fun x:AskT=>x.sl==sl) l)∧(∀i:Int,q= -1→K (.exit 0) (AHo9 l sl of 0 i) [] b)∧(∀i:Int,0≤q→K .ret (AHo9 l sl of q i) [] b)
theorem BBd9 {Ev:Env prog} (c:Code) (tm:List AV) (hp:List Blk) (b:Ev.β) (K:Exit→List AV→List Blk→Ev.β→Prop) (h:BBe9 c tm hp b K):W Ev c ⟨tm,hp,b⟩ (fun e s=>K e s.tm s.hp s.b):=by
 obtain ⟨l,sl,of,q,rfl,htm,rfl,⟨hl,rfl⟩,hK1,hK2⟩:=h
 refine W.cast (htm▸AAe9 _ tm 0) (Zce _) ?_
 exact W.rounds (BWf9 (Q:=fun e s=>K e s.tm s.hp s.b) l sl of hl (fun h i=>hK1 i (AAy9 h)) fun j h=>by have:=hK2 j (by rw [AAg9 h];omega);rwa [AAg9 h] at this)
theorem BDw9 (l:List AskT) (sl:Int) (of:Int):wpFn prog ⟨[], [],BBe9,y,false⟩ 100 f90 [.d (.sl 3 (rowsA l)), .fn (.func 44) [] [.rptr [i64 sl,i64 of]]] b R=(∃(l0:List AskT) (sl1:Int) (of2:Int) (q3:Int),Zaz ARe9=Zaz ARe9∧(Zab (Zaf 3 (rowsA l))::Zat (Fn.func 44) [] [Zag [i64 sl,i64 of]]::Zad::Zad::Zab (i64 0)::Zad::Zad::Zab (i64 ((Zaa (rowsA l):Nat):Int))::Zab (i64 0)::bds 10 [])=(Zab (Zaf 3 (rowsA l0))::Zat (Fn.func 44) [] [Zag [i64 sl1,i64 of2]]::Zad::Zad::Zab (i64 0)::Zad::Zad::Zab (i64 ((Zaa l0:Nat):Int))::Zab (i64 0)::bds 10 [])∧([]:List Blk)= []∧(Zaa l0≤9223372036854775807∧q3=idxS (fun (x4:AskT)=>AskT.sl x4==sl1) l0)∧(∀(i:Int),q3=(-1:Int)→R (.d (i64 (-1))) b)∧∀(i:Int),(0:Int)≤q3→R (.d (i64 q3)) b):=by kernel_rfl
theorem BJp9 (l:List AskT) (sl:Int) (of:Int) (hl:l.length≤9223372036854775807):PCall prog 90 [.d (.sl 3 (rowsA l)), .fn (.func 44) [] [.rptr [i64 sl,i64 of]]] (.d (i64 (idxS (fun x:AskT=>x.sl==sl) l))):=by
 refine Zdy (n:=100) (u:=false) (fun _=>BBe9) mixed Zal Zah (fun Ev=>BBd9) func90 (by rfl) (by rfl) fun Ev bb=> ?_
 rw [BDw9,AAx9]
 exact ⟨l,sl,of,_,rfl,rfl,rfl,⟨hl,rfl⟩,fun i h=>by rw [h],fun i h=>rfl⟩
def BFz9 (args:List AV) (K:AV→Prop):Prop:=∃(l:List AskT) (sl:Int) (of:Int) (q:Int),args= [.d (.sl 3 (rowsA l)), .fn (.func 44) [] [.rptr [i64 sl,i64 of]]]∧(l.length≤9223372036854775807∧q=idxS (fun x:AskT=>x.sl==sl) l)∧K (.d (i64 q))
theorem AZm9:∀args K,BFz9 args K→∃x,PCall prog 90 args x∧K x:=by
 rintro _ K ⟨l,sl,of,_,rfl,⟨hl,rfl⟩,hk⟩;exact ⟨_,BJp9 l sl of hl,hk⟩
def CCg9:List (Nat×(List AV→(AV→Prop)→Prop)):= [(90,BFz9)]
theorem BNf9:AAb9 prog CCg9:=Zai AZm9 Zal
theorem BFe9 (l:List AskT) (sl:Int) (of:Int):wpFn prog ⟨CCg9, [],wl,y,false⟩ 100 f43 [.d (.sl 3 (rowsA l)), .fn (.func 44) [] [.rptr [i64 sl,i64 of]]] b R=(∃(l0:List AskT) (sl1:Int) (of2:Int) (q3:Int), [Zab (Zaf 3 (rowsA l)),Zat (Fn.func 44) [] [Zag [i64 sl,i64 of]]]= [Zab (Zaf 3 (rowsA l0)),Zat (Fn.func 44) [] [Zag [i64 sl1,i64 of2]]]∧(Zaa l0≤9223372036854775807∧q3=idxS (fun (x4:AskT)=>AskT.sl x4==sl1) l0)∧R (.d (bo (decide (q3≥(0:Int))))) b):=by kernel_rfl
theorem BJx9 (l:List AskT) (sl:Int) (of:Int) (hl:l.length≤9223372036854775807):PCall prog 43 [.d (.sl 3 (rowsA l)), .fn (.func 44) [] [.rptr [i64 sl,i64 of]]] (.d (bo (l.any (fun x:AskT=>x.sl==sl)))):=by
 refine Zbe (n:=100) (u:=false) mixed BNf9 Zah func43 (by rfl) (by rfl) fun Ev bb=> ?_
 rw [BFe9]
 exact ⟨l,sl,of,_,rfl,⟨hl,rfl⟩,by rw [AFo9]⟩
def BGl9 (args:List AV) (K:AV→Prop):Prop:=∃(l:List AskT) (sl:Int) (of:Int) (q:Bool),args= [.d (.sl 3 (rowsA l)), .fn (.func 44) [] [.rptr [i64 sl,i64 of]]]∧(l.length≤9223372036854775807∧q=l.any (fun x:AskT=>x.sl==sl))∧K (.d (bo q))
theorem ANo9:∀args K,BGl9 args K→∃x,PCall prog 43 args x∧K x:=by
 rintro _ K ⟨l,sl,of,_,rfl,⟨hl,rfl⟩,hk⟩;exact ⟨_,BJx9 l sl of hl,hk⟩
theorem BFi9 (x:UseT) (sl:Int) (of:Int) (s:SideT):wpFn prog ⟨[], [],wl,y,false⟩ 100 f99 ([useA x]++ [.rptr [i64 sl,i64 of], .rptr [.pt (sideD s)]]) b R=(BIf (UseT.sl x==sl&&(UseT.of x==of&&true)) (R (.d (bo (UseT.pe x==SideT.me s))) b) (R (.d (bo false)) b)):=by kernel_rfl
theorem BKa9 (x:UseT) (sl:Int) (of:Int) (s:SideT):PCall prog 99 ([useA x]++ [.rptr [i64 sl,i64 of], .rptr [.pt (sideD s)]]) (.d (bo ((fun x:UseT=>(x.sl==sl&&x.of==of)&&x.pe==s.me) x))):=by
 refine Zbe (n:=100) (u:=false) mixed Zal Zah func99 (by rfl) (by rfl) fun Ev bb=> ?_
 rw [BFi9]
 have e:(x.sl==sl&&(x.of==of&&true))=(x.sl==sl&&x.of==of):=by simp
 rw [e]
 refine Zbh (fun h=> ?_) fun h=> ?_
 · simp only [h,Bool.true_and]<;>rfl
 · simp only [h,Zdk]
def BGt9 (args:List AV) (K:AV→Prop):Prop:=∃(x:UseT) (sl:Int) (of:Int) (s:SideT) (q:Bool),args= [useA x]++ [.rptr [i64 sl,i64 of], .rptr [.pt (sideD s)]]∧(q=(fun x:UseT=>(x.sl==sl&&x.of==of)&&x.pe==s.me) x)∧K (.d (bo q))
theorem AZw9:∀args K,BGt9 args K→∃x,PCall prog 99 args x∧K x:=by
 rintro _ K ⟨x,sl,of,s,_,rfl,rfl,hk⟩;exact ⟨_,BKa9 x sl of s,hk⟩
def BHy9:List (Nat×(List AV→(AV→Prop)→Prop)):= [(99,BGt9)]
theorem BHx9:AAb9 prog BHy9:=Zai AZw9 Zal
noncomputable def ALn9:Code:=sub [1,0,1,2,3] (code f133)
def AFf9 (l:List UseT) (sl:Int) (of:Int) (s:SideT) (q i:Int):List AV:= [.d (.sl 4 (rowsU l)), .fn (.func 99) [] [.rptr [i64 sl,i64 of], .rptr [.pt (sideD s)]], .bad, .bad, .d (i64 q), .bad, .bad, .d (i64 l.length), .d (i64 i)]++Zaq 10 .bad
theorem BNm9 (l:List UseT) (sl:Int) (of:Int) (s:SideT) (i:Int):wpc prog ⟨BHy9, [],wl,y,false⟩ 100 ALn9 (AFf9 l sl of s 0 i) [] b (maskK 0 [0,1,4,7,8] K)=(BIf (decide (i<((Zaa l:Nat):Int))) (BIf (true&&decide (0≤i)) (∃(x0:Int) (x1:Int) (x2:Int) (x3:Int),(rowsU l)[Zav i]? =some [i64 x0,i64 x1,i64 x2,i64 x3]∧∃(x6:UseT) (sl7:Int) (of8:Int) (s9:SideT) (q10:Bool), [Zao (Qz38 x0 x1 x2 x3),Zag [i64 sl,i64 of],Zag [Dv.pt (Qz2 s)]]= [Zao (Qz10 x6),Zag [i64 sl7,i64 of8],Zag [Dv.pt (Qz2 s9)]]∧q10=(UseT.sl x6==sl7&&UseT.of x6==of8&&UseT.pe x6==SideT.me s9)∧BIf q10 (K .ret (Zab (Zaf 4 (rowsU l))::Zat (Fn.func 99) [] (Qz22 sl of s)::Zad::Zad::Zab (i64 i)::Zad::Zad::Zab (i64 ((Zaa l:Nat):Int))::Zab (i64 i)::bds 10 []) [] b) (K .normal (Zab (Zaf 4 (rowsU l))::Zat (Fn.func 99) [] (Qz22 sl of s)::Zad::Zad::Zab (i64 0)::Zad::Zad::Zab (i64 ((Zaa l:Nat):Int))::Zab (i64 (Zae .i64 (i+1)))::bds 10 []) [] b)) False) (K (Zbv 0) (Zab (Zaf 4 (rowsU l))::Zat (Fn.func 99) [] (Qz22 sl of s)::Zad::Zad::Zab (i64 0)::Zad::Zad::Zab (i64 ((Zaa l:Nat):Int))::Zab (i64 i)::bds 10 []) [] b)):=by kernel_rfl
theorem BQb9 {Ev:Env prog} {b:Ev.β} {Q:Exit→St Ev.β→Prop} (l:List UseT) (sl:Int) (of:Int) (s:SideT) (hl:l.length≤9223372036854775807) (h1:l.findIdx? (fun x:UseT=>(x.sl==sl&&x.of==of)&&x.pe==s.me)=none→∀i:Int,Q (.exit 0) ⟨AFf9 l sl of s 0 i, [],b⟩) (h2:∀j:Nat,l.findIdx? (fun x:UseT=>(x.sl==sl&&x.of==of)&&x.pe==s.me)=some j→Q .ret ⟨AFf9 l sl of s j j, [],b⟩):
   WR Ev ALn9 (l.length+1) ⟨AFf9 l sl of s 0 (0:Nat), [],b⟩ Q:=by
 refine WR.findL (X:=⟨BHy9, [],wlW Ev,Ev.Y,false⟩) (k:=100) [0,1,4,7,8] mixed (CX.Ok.of BHx9 Zah) l (fun x:UseT=>(x.sl==sl&&x.of==of)&&x.pe==s.me) (fun i=>AFf9 l sl of s 0 (i:Nat)) (fun i=>AFf9 l sl of s (i:Nat) (i:Nat)) [] 0 (fun i x hi hxi K k1 k2=> ?_) (fun K k1=> ?_) (fun h=>h1 h _) h2
 · refine Eq.mpr (BNm9 _ _ _ K l sl of s i) ?_
   rw [AEl9 hxi]
   refine Zbg (by simp;omega) (Zbg (natI i) ⟨_,_,_,_,rfl,x,sl,of,s,_,rfl,rfl,Zbh (fun g=>k1 g) fun g=> ?_⟩)
   rw [wrapN (by omega)];exact k2 g
 · refine Eq.mpr (BNm9 _ _ _ K l sl of s _) ?_
   exact Zdl (by simp) k1
def ATa9 {β:Type}:WLT β:=fun cd tm hp b K=>∃(l:List UseT) (sl:Int) (of:Int) (s:SideT) (q:Int),cd= .loop ALn9∧ABd9 [0,1,4,7,8] 0 tm=AFf9 l sl of s 0 0∧hp= []∧(l.length≤9223372036854775807∧q=idxS (fun x:UseT=>(x.sl==sl&&x.of==of)&&x.pe==s.me) l)∧(∀i:Int,q= -1→K (.exit 0) (AFf9 l sl of s 0 i) [] b)∧(∀i:Int,0≤q→K .ret (AFf9 l sl of s q i) [] b)
theorem AXo9 {Ev:Env prog} (c:Code) (tm:List AV) (hp:List Blk) (b:Ev.β) (K:Exit→List AV→List Blk→Ev.β→Prop) (h:ATa9 c tm hp b K):W Ev c ⟨tm,hp,b⟩ (fun e s=>K e s.tm s.hp s.b):=by
 obtain ⟨l,sl,of,s,q,rfl,htm,rfl,⟨hl,rfl⟩,hK1,hK2⟩:=h
 refine W.cast (htm▸AAe9 _ tm 0) (Zce _) ?_
 exact W.rounds (BQb9 (Q:=fun e s=>K e s.tm s.hp s.b) l sl of s hl (fun h i=>hK1 i (AAy9 h)) fun j h=>by have:=hK2 j (by rw [AAg9 h];omega);rwa [AAg9 h] at this)
theorem AYu9 (l:List UseT) (sl:Int) (of:Int) (s:SideT):wpFn prog ⟨[], [],ATa9,y,false⟩ 100 f133 [.d (.sl 4 (rowsU l)), .fn (.func 99) [] [.rptr [i64 sl,i64 of], .rptr [.pt (sideD s)]]] b R=(∃(l0:List UseT) (sl1:Int) (of2:Int) (s3:SideT) (q4:Int),Zaz ALn9=Zaz ALn9∧(Zab (Zaf 4 (rowsU l))::Zat (Fn.func 99) [] (Qz22 sl of s)::Zad::Zad::Zab (i64 0)::Zad::Zad::Zab (i64 ((Zaa (rowsU l):Nat):Int))::Zab (i64 0)::bds 10 [])=(Zab (Zaf 4 (rowsU l0))::Zat (Fn.func 99) [] (Qz22 sl1 of2 s3)::Zad::Zad::Zab (i64 0)::Zad::Zad::Zab (i64 ((Zaa l0:Nat):Int))::Zab (i64 0)::bds 10 [])∧([]:List Blk)= []∧(Zaa l0≤9223372036854775807∧q4=idxS (fun (x5:UseT)=>UseT.sl x5==sl1&&UseT.of x5==of2&&UseT.pe x5==SideT.me s3) l0)∧(∀(i:Int),q4=(-1:Int)→R (.d (i64 (-1))) b)∧∀(i:Int),(0:Int)≤q4→R (.d (i64 q4)) b):=by kernel_rfl
theorem BDb9 (l:List UseT) (sl:Int) (of:Int) (s:SideT) (hl:l.length≤9223372036854775807):PCall prog 133 [.d (.sl 4 (rowsU l)), .fn (.func 99) [] [.rptr [i64 sl,i64 of], .rptr [.pt (sideD s)]]] (.d (i64 (idxS (fun x:UseT=>(x.sl==sl&&x.of==of)&&x.pe==s.me) l))):=by
 refine Zdy (n:=100) (u:=false) (fun _=>ATa9) mixed Zal Zah (fun Ev=>AXo9) func133 (by rfl) (by rfl) fun Ev bb=> ?_
 rw [AYu9,AAi9]
 exact ⟨l,sl,of,s,_,rfl,rfl,rfl,⟨hl,rfl⟩,fun i h=>by rw [h],fun i h=>rfl⟩
def AWo9 (args:List AV) (K:AV→Prop):Prop:=∃(l:List UseT) (sl:Int) (of:Int) (s:SideT) (q:Int),args= [.d (.sl 4 (rowsU l)), .fn (.func 99) [] [.rptr [i64 sl,i64 of], .rptr [.pt (sideD s)]]]∧(l.length≤9223372036854775807∧q=idxS (fun x:UseT=>(x.sl==sl&&x.of==of)&&x.pe==s.me) l)∧K (.d (i64 q))
theorem AUi9:∀args K,AWo9 args K→∃x,PCall prog 133 args x∧K x:=by
 rintro _ K ⟨l,sl,of,s,_,rfl,⟨hl,rfl⟩,hk⟩;exact ⟨_,BDb9 l sl of s hl,hk⟩
def BPn9:List (Nat×(List AV→(AV→Prop)→Prop)):= [(133,AWo9)]
theorem BIi9:AAb9 prog BPn9:=Zai AUi9 Zal
theorem AZh9 (l:List UseT) (sl:Int) (of:Int) (s:SideT):wpFn prog ⟨BPn9, [],wl,y,false⟩ 100 f98 [.d (.sl 4 (rowsU l)), .fn (.func 99) [] [.rptr [i64 sl,i64 of], .rptr [.pt (sideD s)]]] b R=(∃(l0:List UseT) (sl1:Int) (of2:Int) (s3:SideT) (q4:Int), [Zab (Zaf 4 (rowsU l)),Zat (Fn.func 99) [] (Qz22 sl of s)]= [Zab (Zaf 4 (rowsU l0)),Zat (Fn.func 99) [] (Qz22 sl1 of2 s3)]∧(Zaa l0≤9223372036854775807∧q4=idxS (fun (x5:UseT)=>UseT.sl x5==sl1&&UseT.of x5==of2&&UseT.pe x5==SideT.me s3) l0)∧R (.d (bo (decide (q4≥(0:Int))))) b):=by kernel_rfl
theorem BDi9 (l:List UseT) (sl:Int) (of:Int) (s:SideT) (hl:l.length≤9223372036854775807):PCall prog 98 [.d (.sl 4 (rowsU l)), .fn (.func 99) [] [.rptr [i64 sl,i64 of], .rptr [.pt (sideD s)]]] (.d (bo (l.any (fun x:UseT=>(x.sl==sl&&x.of==of)&&x.pe==s.me)))):=by
 refine Zbe (n:=100) (u:=false) mixed BIi9 Zah func98 (by rfl) (by rfl) fun Ev bb=> ?_
 rw [AZh9]
 exact ⟨l,sl,of,s,_,rfl,⟨hl,rfl⟩,by rw [AFo9]⟩
def AWw9 (args:List AV) (K:AV→Prop):Prop:=∃(l:List UseT) (sl:Int) (of:Int) (s:SideT) (q:Bool),args= [.d (.sl 4 (rowsU l)), .fn (.func 99) [] [.rptr [i64 sl,i64 of], .rptr [.pt (sideD s)]]]∧(l.length≤9223372036854775807∧q=l.any (fun x:UseT=>(x.sl==sl&&x.of==of)&&x.pe==s.me))∧K (.d (bo q))
theorem AUq9:∀args K,AWw9 args K→∃x,PCall prog 98 args x∧K x:=by
 rintro _ K ⟨l,sl,of,s,_,rfl,⟨hl,rfl⟩,hk⟩;exact ⟨_,BDi9 l sl of s hl,hk⟩
theorem BFk9 (x:UseT) (sl:Int) (of:Int):wpFn prog ⟨[], [],wl,y,false⟩ 100 f102 ([useA x]++ [.rptr [i64 sl,i64 of]]) b R=(R (Zab (bo (UseT.sl x==sl&&(UseT.of x==of&&true)))) b):=by kernel_rfl
theorem BKc9 (x:UseT) (sl:Int) (of:Int):PCall prog 102 ([useA x]++ [.rptr [i64 sl,i64 of]]) (.d (bo ((fun x:UseT=>(x.sl==sl&&x.of==of)) x))):=by
 refine Zbe (n:=100) (u:=false) mixed Zal Zah func102 (by rfl) (by rfl) fun Ev bb=> ?_
 rw [BFk9]
 simp
def BHg9 (args:List AV) (K:AV→Prop):Prop:=∃(x:UseT) (sl:Int) (of:Int) (q:Bool),args= [useA x]++ [.rptr [i64 sl,i64 of]]∧(q=(fun x:UseT=>(x.sl==sl&&x.of==of)) x)∧K (.d (bo q))
theorem AZy9:∀args K,BHg9 args K→∃x,PCall prog 102 args x∧K x:=by
 rintro _ K ⟨x,sl,of,_,rfl,rfl,hk⟩;exact ⟨_,BKc9 x sl of,hk⟩
def BIc9:List (Nat×(List AV→(AV→Prop)→Prop)):= [(102,BHg9)]
theorem BIb9:AAb9 prog BIc9:=Zai AZy9 Zal
noncomputable def ALp9:Code:=sub [1,0,1,2,3] (code f133)
def AFh9 (l:List UseT) (sl:Int) (of:Int) (q i:Int):List AV:= [.d (.sl 4 (rowsU l)), .fn (.func 102) [] [.rptr [i64 sl,i64 of]], .bad, .bad, .d (i64 q), .bad, .bad, .d (i64 l.length), .d (i64 i)]++Zaq 10 .bad
theorem BNo9 (l:List UseT) (sl:Int) (of:Int) (i:Int):wpc prog ⟨BIc9, [],wl,y,false⟩ 100 ALp9 (AFh9 l sl of 0 i) [] b (maskK 0 [0,1,4,7,8] K)=(BIf (decide (i<((Zaa l:Nat):Int))) (BIf (true&&decide (0≤i)) (∃(x0:Int) (x1:Int) (x2:Int) (x3:Int),(rowsU l)[Zav i]? =some [i64 x0,i64 x1,i64 x2,i64 x3]∧∃(x6:UseT) (sl7:Int) (of8:Int) (q9:Bool), [Zao (Qz38 x0 x1 x2 x3),Zag [i64 sl,i64 of]]= [Zao (Qz10 x6),Zag [i64 sl7,i64 of8]]∧q9=(UseT.sl x6==sl7&&UseT.of x6==of8)∧BIf q9 (K .ret (Zab (Zaf 4 (rowsU l))::Zat (Fn.func 102) [] [Zag [i64 sl,i64 of]]::Zad::Zad::Zab (i64 i)::Zad::Zad::Zab (i64 ((Zaa l:Nat):Int))::Zab (i64 i)::bds 10 []) [] b) (K .normal (Zab (Zaf 4 (rowsU l))::Zat (Fn.func 102) [] [Zag [i64 sl,i64 of]]::Zad::Zad::Zab (i64 0)::Zad::Zad::Zab (i64 ((Zaa l:Nat):Int))::Zab (i64 (Zae .i64 (i+1)))::bds 10 []) [] b)) False) (K (Zbv 0) (Zab (Zaf 4 (rowsU l))::Zat (Fn.func 102) [] [Zag [i64 sl,i64 of]]::Zad::Zad::Zab (i64 0)::Zad::Zad::Zab (i64 ((Zaa l:Nat):Int))::Zab (i64 i)::bds 10 []) [] b)):=by kernel_rfl
theorem BQd9 {Ev:Env prog} {b:Ev.β} {Q:Exit→St Ev.β→Prop} (l:List UseT) (sl:Int) (of:Int) (hl:l.length≤9223372036854775807) (h1:l.findIdx? (fun x:UseT=>(x.sl==sl&&x.of==of))=none→∀i:Int,Q (.exit 0) ⟨AFh9 l sl of 0 i, [],b⟩) (h2:∀j:Nat,l.findIdx? (fun x:UseT=>(x.sl==sl&&x.of==of))=some j→Q .ret ⟨AFh9 l sl of j j, [],b⟩):
   WR Ev ALp9 (l.length+1) ⟨AFh9 l sl of 0 (0:Nat), [],b⟩ Q:=by
 refine WR.findL (X:=⟨BIc9, [],wlW Ev,Ev.Y,false⟩) (k:=100) [0,1,4,7,8] mixed (CX.Ok.of BIb9 Zah) l (fun x:UseT=>(x.sl==sl&&x.of==of)) (fun i=>AFh9 l sl of 0 (i:Nat)) (fun i=>AFh9 l sl of (i:Nat) (i:Nat)) [] 0 (fun i x hi hxi K k1 k2=> ?_) (fun K k1=> ?_) (fun h=>h1 h _) h2
 · refine Eq.mpr (BNo9 _ _ _ K l sl of i) ?_
   rw [AEl9 hxi]
   refine Zbg (by simp;omega) (Zbg (natI i) ⟨_,_,_,_,rfl,x,sl,of,_,rfl,rfl,Zbh (fun g=>k1 g) fun g=> ?_⟩)
   rw [wrapN (by omega)];exact k2 g
 · refine Eq.mpr (BNo9 _ _ _ K l sl of _) ?_
   exact Zdl (by simp) k1
def ATc9 {β:Type}:WLT β:=fun cd tm hp b K=>∃(l:List UseT) (sl:Int) (of:Int) (q:Int),cd= .loop ALp9∧ABd9 [0,1,4,7,8] 0 tm=AFh9 l sl of 0 0∧hp= []∧(l.length≤9223372036854775807∧q=idxS (fun x:UseT=>(x.sl==sl&&x.of==of)) l)∧(∀i:Int,q= -1→K (.exit 0) (AFh9 l sl of 0 i) [] b)∧(∀i:Int,0≤q→K .ret (AFh9 l sl of q i) [] b)
theorem AXq9 {Ev:Env prog} (c:Code) (tm:List AV) (hp:List Blk) (b:Ev.β) (K:Exit→List AV→List Blk→Ev.β→Prop) (h:ATc9 c tm hp b K):W Ev c ⟨tm,hp,b⟩ (fun e s=>K e s.tm s.hp s.b):=by
 obtain ⟨l,sl,of,q,rfl,htm,rfl,⟨hl,rfl⟩,hK1,hK2⟩:=h
 refine W.cast (htm▸AAe9 _ tm 0) (Zce _) ?_
 exact W.rounds (BQd9 (Q:=fun e s=>K e s.tm s.hp s.b) l sl of hl (fun h i=>hK1 i (AAy9 h)) fun j h=>by have:=hK2 j (by rw [AAg9 h];omega);rwa [AAg9 h] at this)
theorem AYw9 (l:List UseT) (sl:Int) (of:Int):wpFn prog ⟨[], [],ATc9,y,false⟩ 100 f133 [.d (.sl 4 (rowsU l)), .fn (.func 102) [] [.rptr [i64 sl,i64 of]]] b R=(∃(l0:List UseT) (sl1:Int) (of2:Int) (q3:Int),Zaz ALp9=Zaz ALp9∧(Zab (Zaf 4 (rowsU l))::Zat (Fn.func 102) [] [Zag [i64 sl,i64 of]]::Zad::Zad::Zab (i64 0)::Zad::Zad::Zab (i64 ((Zaa (rowsU l):Nat):Int))::Zab (i64 0)::bds 10 [])=(Zab (Zaf 4 (rowsU l0))::Zat (Fn.func 102) [] [Zag [i64 sl1,i64 of2]]::Zad::Zad::Zab (i64 0)::Zad::Zad::Zab (i64 ((Zaa l0:Nat):Int))::Zab (i64 0)::bds 10 [])∧([]:List Blk)= []∧(Zaa l0≤9223372036854775807∧q3=idxS (fun (x4:UseT)=>UseT.sl x4==sl1&&UseT.of x4==of2) l0)∧(∀(i:Int),q3=(-1:Int)→R (.d (i64 (-1))) b)∧∀(i:Int),(0:Int)≤q3→R (.d (i64 q3)) b):=by kernel_rfl
theorem BDd9 (l:List UseT) (sl:Int) (of:Int) (hl:l.length≤9223372036854775807):PCall prog 133 [.d (.sl 4 (rowsU l)), .fn (.func 102) [] [.rptr [i64 sl,i64 of]]] (.d (i64 (idxS (fun x:UseT=>(x.sl==sl&&x.of==of)) l))):=by
 refine Zdy (n:=100) (u:=false) (fun _=>ATc9) mixed Zal Zah (fun Ev=>AXq9) func133 (by rfl) (by rfl) fun Ev bb=> ?_
 rw [AYw9,AAi9]
 exact ⟨l,sl,of,_,rfl,rfl,rfl,⟨hl,rfl⟩,fun i h=>by rw [h],fun i h=>rfl⟩
def AWq9 (args:List AV) (K:AV→Prop):Prop:=∃(l:List UseT) (sl:Int) (of:Int) (q:Int),args= [.d (.sl 4 (rowsU l)), .fn (.func 102) [] [.rptr [i64 sl,i64 of]]]∧(l.length≤9223372036854775807∧q=idxS (fun x:UseT=>(x.sl==sl&&x.of==of)) l)∧K (.d (i64 q))
theorem AUk9:∀args K,AWq9 args K→∃x,PCall prog 133 args x∧K x:=by
 rintro _ K ⟨l,sl,of,_,rfl,⟨hl,rfl⟩,hk⟩;exact ⟨_,BDd9 l sl of hl,hk⟩
def BPo9:List (Nat×(List AV→(AV→Prop)→Prop)):= [(133,AWq9)]
theorem BIj9:AAb9 prog BPo9:=Zai AUk9 Zal
theorem AZi9 (l:List UseT) (sl:Int) (of:Int):wpFn prog ⟨BPo9, [],wl,y,false⟩ 100 f98 [.d (.sl 4 (rowsU l)), .fn (.func 102) [] [.rptr [i64 sl,i64 of]]] b R=(∃(l0:List UseT) (sl1:Int) (of2:Int) (q3:Int), [Zab (Zaf 4 (rowsU l)),Zat (Fn.func 102) [] [Zag [i64 sl,i64 of]]]= [Zab (Zaf 4 (rowsU l0)),Zat (Fn.func 102) [] [Zag [i64 sl1,i64 of2]]]∧(Zaa l0≤9223372036854775807∧q3=idxS (fun (x4:UseT)=>UseT.sl x4==sl1&&UseT.of x4==of2) l0)∧R (.d (bo (decide (q3≥(0:Int))))) b):=by kernel_rfl
theorem BDj9 (l:List UseT) (sl:Int) (of:Int) (hl:l.length≤9223372036854775807):PCall prog 98 [.d (.sl 4 (rowsU l)), .fn (.func 102) [] [.rptr [i64 sl,i64 of]]] (.d (bo (l.any (fun x:UseT=>(x.sl==sl&&x.of==of))))):=by
 refine Zbe (n:=100) (u:=false) mixed BIj9 Zah func98 (by rfl) (by rfl) fun Ev bb=> ?_
 rw [AZi9]
 exact ⟨l,sl,of,_,rfl,⟨hl,rfl⟩,by rw [AFo9]⟩
def AWx9 (args:List AV) (K:AV→Prop):Prop:=∃(l:List UseT) (sl:Int) (of:Int) (q:Bool),args= [.d (.sl 4 (rowsU l)), .fn (.func 102) [] [.rptr [i64 sl,i64 of]]]∧(l.length≤9223372036854775807∧q=l.any (fun x:UseT=>(x.sl==sl&&x.of==of)))∧K (.d (bo q))
theorem AUr9:∀args K,AWx9 args K→∃x,PCall prog 98 args x∧K x:=by
 rintro _ K ⟨l,sl,of,_,rfl,⟨hl,rfl⟩,hk⟩;exact ⟨_,BDj9 l sl of hl,hk⟩
theorem BFj9 (x:GraT) (u:UseT):wpFn prog ⟨[], [],wl,y,false⟩ 100 f55 ([graA x]++ [.rptr [i64 u.sl,i64 u.of,i64 u.pe,i64 u.st]]) b R=(R (Zab (bo (GraT.sl x==UseT.sl u&&(GraT.of x==UseT.of u&&true)))) b):=by kernel_rfl
theorem BKb9 (x:GraT) (u:UseT):PCall prog 55 ([graA x]++ [.rptr [i64 u.sl,i64 u.of,i64 u.pe,i64 u.st]]) (.d (bo ((fun x:GraT=>x.sl==u.sl&&x.of==u.of) x))):=by
 refine Zbe (n:=100) (u:=false) mixed Zal Zah func55 (by rfl) (by rfl) fun Ev bb=> ?_
 rw [BFj9]
 simp
def BGu9 (args:List AV) (K:AV→Prop):Prop:=∃(x:GraT) (u:UseT) (q:Bool),args= [graA x]++ [.rptr [i64 u.sl,i64 u.of,i64 u.pe,i64 u.st]]∧(q=(fun x:GraT=>x.sl==u.sl&&x.of==u.of) x)∧K (.d (bo q))
theorem AZx9:∀args K,BGu9 args K→∃x,PCall prog 55 args x∧K x:=by
 rintro _ K ⟨x,u,_,rfl,rfl,hk⟩;exact ⟨_,BKb9 x u,hk⟩
def BIa9:List (Nat×(List AV→(AV→Prop)→Prop)):= [(55,BGu9)]
theorem BHz9:AAb9 prog BIa9:=Zai AZx9 Zal
noncomputable def ALo9:Code:=sub [1,0,1,2,3] (code f54)
def AFg9 (l:List GraT) (u:UseT) (q i:Int):List AV:= [.d (.sl 5 (rowsG l)), .fn (.func 55) [] [.rptr [i64 u.sl,i64 u.of,i64 u.pe,i64 u.st]], .bad, .bad, .d (i64 q), .bad, .bad, .d (i64 l.length), .d (i64 i)]++Zaq 10 .bad
theorem BNn9 (l:List GraT) (u:UseT) (i:Int):wpc prog ⟨BIa9, [],wl,y,false⟩ 100 ALo9 (AFg9 l u 0 i) [] b (maskK 0 [0,1,4,7,8] K)=(BIf (decide (i<((Zaa l:Nat):Int))) (BIf (true&&decide (0≤i)) (∃(x0:Int) (x1:Int) (x2:Int) (x3:Int) (x4:Int),(rowsG l)[Zav i]? =some (Qz48 x0 x1 x2 x3 x4)∧∃(x7:GraT) (u8:UseT) (q9:Bool), [Zao (Qz24 x0 x1 x2 x3 x4),Zag (Qz15 u)]= [Zao (Qz7 x7),Zag (Qz15 u8)]∧q9=(GraT.sl x7==UseT.sl u8&&GraT.of x7==UseT.of u8)∧BIf q9 (K .ret (Zab (Zaf 5 (rowsG l))::Zat (Fn.func 55) [] [Zag (Qz15 u)]::Zad::Zad::Zab (i64 i)::Zad::Zad::Zab (i64 ((Zaa l:Nat):Int))::Zab (i64 i)::bds 10 []) [] b) (K .normal (Zab (Zaf 5 (rowsG l))::Zat (Fn.func 55) [] [Zag (Qz15 u)]::Zad::Zad::Zab (i64 0)::Zad::Zad::Zab (i64 ((Zaa l:Nat):Int))::Zab (i64 (Zae .i64 (i+1)))::bds 10 []) [] b)) False) (K (Zbv 0) (Zab (Zaf 5 (rowsG l))::Zat (Fn.func 55) [] [Zag (Qz15 u)]::Zad::Zad::Zab (i64 0)::Zad::Zad::Zab (i64 ((Zaa l:Nat):Int))::Zab (i64 i)::bds 10 []) [] b)):=by kernel_rfl
theorem BQc9 {Ev:Env prog} {b:Ev.β} {Q:Exit→St Ev.β→Prop} (l:List GraT) (u:UseT) (hl:l.length≤9223372036854775807) (h1:l.findIdx? (fun x:GraT=>x.sl==u.sl&&x.of==u.of)=none→∀i:Int,Q (.exit 0) ⟨AFg9 l u 0 i, [],b⟩) (h2:∀j:Nat,l.findIdx? (fun x:GraT=>x.sl==u.sl&&x.of==u.of)=some j→Q .ret ⟨AFg9 l u j j, [],b⟩):
   WR Ev ALo9 (l.length+1) ⟨AFg9 l u 0 (0:Nat), [],b⟩ Q:=by
 refine WR.findL (X:=⟨BIa9, [],wlW Ev,Ev.Y,false⟩) (k:=100) [0,1,4,7,8] mixed (CX.Ok.of BHz9 Zah) l (fun x:GraT=>x.sl==u.sl&&x.of==u.of) (fun i=>AFg9 l u 0 (i:Nat)) (fun i=>AFg9 l u (i:Nat) (i:Nat)) [] 0 (fun i x hi hxi K k1 k2=> ?_) (fun K k1=> ?_) (fun h=>h1 h _) h2
 · refine Eq.mpr (BNn9 _ _ _ K l u i) ?_
   rw [ADc9 hxi]
   refine Zbg (by simp;omega) (Zbg (natI i) ⟨_,_,_,_,_,rfl,x,u,_,rfl,rfl,Zbh (fun g=>k1 g) fun g=> ?_⟩)
   rw [wrapN (by omega)];exact k2 g
 · refine Eq.mpr (BNn9 _ _ _ K l u _) ?_
   exact Zdl (by simp) k1
def ATb9 {β:Type}:WLT β:=fun cd tm hp b K=>∃(l:List GraT) (u:UseT) (q:Int),cd= .loop ALo9∧ABd9 [0,1,4,7,8] 0 tm=AFg9 l u 0 0∧hp= []∧(l.length≤9223372036854775807∧q=idxS (fun x:GraT=>x.sl==u.sl&&x.of==u.of) l)∧(∀i:Int,q= -1→K (.exit 0) (AFg9 l u 0 i) [] b)∧(∀i:Int,0≤q→K .ret (AFg9 l u q i) [] b)
theorem AXp9 {Ev:Env prog} (c:Code) (tm:List AV) (hp:List Blk) (b:Ev.β) (K:Exit→List AV→List Blk→Ev.β→Prop) (h:ATb9 c tm hp b K):W Ev c ⟨tm,hp,b⟩ (fun e s=>K e s.tm s.hp s.b):=by
 obtain ⟨l,u,q,rfl,htm,rfl,⟨hl,rfl⟩,hK1,hK2⟩:=h
 refine W.cast (htm▸AAe9 _ tm 0) (Zce _) ?_
 exact W.rounds (BQc9 (Q:=fun e s=>K e s.tm s.hp s.b) l u hl (fun h i=>hK1 i (AAy9 h)) fun j h=>by have:=hK2 j (by rw [AAg9 h];omega);rwa [AAg9 h] at this)
theorem AYv9 (l:List GraT) (u:UseT):wpFn prog ⟨[], [],ATb9,y,false⟩ 100 f54 [.d (.sl 5 (rowsG l)), .fn (.func 55) [] [.rptr [i64 u.sl,i64 u.of,i64 u.pe,i64 u.st]]] b R=(∃(l0:List GraT) (u1:UseT) (q2:Int),Zaz ALo9=Zaz ALo9∧(Zab (Zaf 5 (rowsG l))::Zat (Fn.func 55) [] [Zag (Qz15 u)]::Zad::Zad::Zab (i64 0)::Zad::Zad::Zab (i64 ((Zaa (rowsG l):Nat):Int))::Zab (i64 0)::bds 10 [])=(Zab (Zaf 5 (rowsG l0))::Zat (Fn.func 55) [] [Zag (Qz15 u1)]::Zad::Zad::Zab (i64 0)::Zad::Zad::Zab (i64 ((Zaa l0:Nat):Int))::Zab (i64 0)::bds 10 [])∧([]:List Blk)= []∧(Zaa l0≤9223372036854775807∧q2=idxS (fun (x3:GraT)=>GraT.sl x3==UseT.sl u1&&GraT.of x3==UseT.of u1) l0)∧(∀(i:Int),q2=(-1:Int)→R (.d (i64 (-1))) b)∧∀(i:Int),(0:Int)≤q2→R (.d (i64 q2)) b):=by kernel_rfl
theorem BDc9 (l:List GraT) (u:UseT) (hl:l.length≤9223372036854775807):PCall prog 54 [.d (.sl 5 (rowsG l)), .fn (.func 55) [] [.rptr [i64 u.sl,i64 u.of,i64 u.pe,i64 u.st]]] (.d (i64 (idxS (fun x:GraT=>x.sl==u.sl&&x.of==u.of) l))):=by
 refine Zdy (n:=100) (u:=false) (fun _=>ATb9) mixed Zal Zah (fun Ev=>AXp9) func54 (by rfl) (by rfl) fun Ev bb=> ?_
 rw [AYv9,AAh9]
 exact ⟨l,u,_,rfl,rfl,rfl,⟨hl,rfl⟩,fun i h=>by rw [h],fun i h=>rfl⟩
def AWp9 (args:List AV) (K:AV→Prop):Prop:=∃(l:List GraT) (u:UseT) (q:Int),args= [.d (.sl 5 (rowsG l)), .fn (.func 55) [] [.rptr [i64 u.sl,i64 u.of,i64 u.pe,i64 u.st]]]∧(l.length≤9223372036854775807∧q=idxS (fun x:GraT=>x.sl==u.sl&&x.of==u.of) l)∧K (.d (i64 q))
theorem AUj9:∀args K,AWp9 args K→∃x,PCall prog 54 args x∧K x:=by
 rintro _ K ⟨l,u,_,rfl,⟨hl,rfl⟩,hk⟩;exact ⟨_,BDc9 l u hl,hk⟩
def busyT (t:TabT) (s:Int):Bool:=t.us.any (fun x=>x.sl==s)||t.gs.any (fun x=>x.sl==s)
def TCl:List (Nat×(List AV→(AV→Prop)→Prop)):= [(98,AWx9)]
theorem CFc9:AAb9 prog TCl:=Zai AUr9 Zal
def TFg:List (Nat×(List AV→(AV→Prop)→Prop)):= [(87,BOq9)]
theorem CFa9:AAb9 prog TFg:=Zai BGn9 Zal
theorem BFh9 (x:NearT) (sl:Int) (of:Int) (but:Int):wpFn prog ⟨TCl, [],wl,y,false⟩ 100 f101 ([nearA x]++ [.rptr [i64 but], .rptr [i64 sl,i64 of]]) b R=(BIf (NearT.fm x !=but) (∃(l0:List UseT) (sl1:Int) (of2:Int) (q3:Bool), [Zab (Zaf 4 (rowsU (NearT.us x))),Zat (Fn.func 102) [] [Zag [i64 sl,i64 of]]]= [Zab (Zaf 4 (rowsU l0)),Zat (Fn.func 102) [] [Zag [i64 sl1,i64 of2]]]∧(Zaa l0≤9223372036854775807∧q3=Zed l0 fun (x4:UseT)=>UseT.sl x4==sl1&&UseT.of x4==of2)∧R (.d (bo q3)) b) (R (.d (bo false)) b)):=by kernel_rfl
theorem BJz9 (x:NearT) (sl:Int) (of:Int) (but:Int) (hx:AGk9 x):PCall prog 101 ([nearA x]++ [.rptr [i64 but], .rptr [i64 sl,i64 of]]) (.d (bo ((fun x:NearT=> !(x.fm==but)&&x.us.any (fun y=>(y.sl==sl&&y.of==of))) x))):=by
 refine Zbe (n:=100) (u:=false) mixed CFc9 Zah func101 (by rfl) (by rfl) fun Ev bb=> ?_
 rw [BFh9]
 refine Zbh (fun h=>⟨x.us,sl,of,_,rfl,⟨hx.1,rfl⟩, ?_⟩) fun h=> ?_
 · have h':(!(x.fm==but))=true:=h
   simp only [h',Bool.true_and]<;>rfl
 · have h':(!(x.fm==but))=false:=h
   simp only [h',Zdk]
def BGs9 (args:List AV) (K:AV→Prop):Prop:=∃(x:NearT) (sl:Int) (of:Int) (but:Int) (q:Bool),args= [nearA x]++ [.rptr [i64 but], .rptr [i64 sl,i64 of]]∧(AGk9 x∧q=(fun x:NearT=> !(x.fm==but)&&x.us.any (fun y=>(y.sl==sl&&y.of==of))) x)∧K (.d (bo q))
theorem AZv9:∀args K,BGs9 args K→∃x,PCall prog 101 args x∧K x:=by
 rintro _ K ⟨x,sl,of,but,_,rfl,⟨hx,rfl⟩,hk⟩;exact ⟨_,BJz9 x sl of but hx,hk⟩
def BHw9:List (Nat×(List AV→(AV→Prop)→Prop)):= [(101,BGs9)]
theorem BHv9:AAb9 prog BHw9:=Zai AZv9 Zal
noncomputable def ALm9:Code:=sub [1,0,1,2,3] (code f82)
def AFe9 (l:List NearT) (sl:Int) (of:Int) (but:Int) (q i:Int):List AV:= [.d (.sl 31 (rowsN l)), .fn (.func 101) [] [.rptr [i64 but], .rptr [i64 sl,i64 of]], .bad, .bad, .d (i64 q), .bad, .bad, .d (i64 l.length), .d (i64 i)]++Zaq 10 .bad
abbrev Qz43 (v0:Int) (v1:Int) (v2:Int):List AV:= [Zag [i64 v0],Zag [i64 v1,i64 v2]]
theorem BNl9 (l:List NearT) (sl:Int) (of:Int) (but:Int) (i:Int):wpc prog ⟨BHw9, [],wl,y,false⟩ 100 ALm9 (AFe9 l sl of but 0 i) [] b (maskK 0 [0,1,4,7,8] K)=(BIf (decide (i<((Zaa l:Nat):Int))) (BIf (true&&decide (0≤i)) (∃(x0:Int) (x1:Int) (x2:Int) (x3:Int) (x4:Int) (x5:Int) (x6:Int) (x7:Int) (x8:Int) (x9:Int) (x10:Int) (x11:Int) (xs12:List (List Dv)) (xs13:List (List Dv)) (xs14:List (List Dv)) (xs15:List (List Dv)) (b16:Bool) (xs17:List (List Dv)) (xs18:List (List Dv)) (xs19:List (List Dv)) (x20:Int) (x21:Int) (x22:Int) (x23:Int) (x24:Int) (x25:Int) (x26:Int) (x27:Int) (xs28:List (List Dv)) (xs29:List (List Dv)) (b30:Bool),(rowsN l)[Zav i]? =some [i64 x0,i64 x1,i64 x2,i64 x3,i64 x4,i64 x5,i64 x6,i64 x7,i64 x8,i64 x9,i64 x10,i64 x11,Zaf 4 xs12,Zaf 5 xs13,Zaf 3 xs14,Zaf 4 xs15,bo b16,Zaf 8 xs17,Zaf 8 xs18,Zaf 1 xs19,i64 x20,i64 x21,u64 x22,i64 x23,i64 x24,i64 x25,i64 x26,i64 x27,Zaf 1 xs28,Zaf 1 xs29,bo b30]∧∃(x33:NearT) (sl34:Int) (of35:Int) (but36:Int) (q37:Bool), [Zao [Zab (i64 x0),Zab (i64 x1),Zab (i64 x2),Zab (i64 x3),Zab (i64 x4),Zab (i64 x5),Zab (i64 x6),Zab (i64 x7),Zab (i64 x8),Zab (i64 x9),Zab (i64 x10),Zab (i64 x11),Zab (Zaf 4 xs12),Zab (Zaf 5 xs13),Zab (Zaf 3 xs14),Zab (Zaf 4 xs15),Zab (bo b16),Zab (Zaf 8 xs17),Zab (Zaf 8 xs18),Zab (Zaf 1 xs19),Zab (i64 x20),Zab (i64 x21),Zab (u64 x22),Zab (i64 x23),Zab (i64 x24),Zab (i64 x25),Zab (i64 x26),Zab (i64 x27),Zab (Zaf 1 xs28),Zab (Zaf 1 xs29),Zab (bo b30)],Zag [i64 but],Zag [i64 sl,i64 of]]= [Zao (Qz1 x33),Zag [i64 but36],Zag [i64 sl34,i64 of35]]∧((Zaa (NearT.us x33)≤9223372036854775807∧Zaa (NearT.gs x33)≤9223372036854775807∧Zaa (NearT.ak x33)≤9223372036854775807)∧q37=(!NearT.fm x33==but36&&Zed (NearT.us x33) fun (y38:UseT)=>UseT.sl y38==sl34&&UseT.of y38==of35))∧BIf q37 (K .ret (Zab (Zaf 31 (rowsN l))::Zat (Fn.func 101) [] (Qz43 but sl of)::Zad::Zad::Zab (i64 i)::Zad::Zad::Zab (i64 ((Zaa l:Nat):Int))::Zab (i64 i)::bds 10 []) [] b) (K .normal (Zab (Zaf 31 (rowsN l))::Zat (Fn.func 101) [] (Qz43 but sl of)::Zad::Zad::Zab (i64 0)::Zad::Zad::Zab (i64 ((Zaa l:Nat):Int))::Zab (i64 (Zae .i64 (i+1)))::bds 10 []) [] b)) False) (K (Zbv 0) (Zab (Zaf 31 (rowsN l))::Zat (Fn.func 101) [] (Qz43 but sl of)::Zad::Zad::Zab (i64 0)::Zad::Zad::Zab (i64 ((Zaa l:Nat):Int))::Zab (i64 i)::bds 10 []) [] b)):=by kernel_rfl
theorem BQa9 {Ev:Env prog} {b:Ev.β} {Q:Exit→St Ev.β→Prop} (l:List NearT) (sl:Int) (of:Int) (but:Int) (hl:l.length≤9223372036854775807) (hx:∀x∈l,AGk9 x) (h1:l.findIdx? (fun x:NearT=> !(x.fm==but)&&x.us.any (fun y=>(y.sl==sl&&y.of==of)))=none→∀i:Int,Q (.exit 0) ⟨AFe9 l sl of but 0 i, [],b⟩) (h2:∀j:Nat,l.findIdx? (fun x:NearT=> !(x.fm==but)&&x.us.any (fun y=>(y.sl==sl&&y.of==of)))=some j→Q .ret ⟨AFe9 l sl of but j j, [],b⟩):
   WR Ev ALm9 (l.length+1) ⟨AFe9 l sl of but 0 (0:Nat), [],b⟩ Q:=by
 refine WR.findL (X:=⟨BHw9, [],wlW Ev,Ev.Y,false⟩) (k:=100) [0,1,4,7,8] mixed (CX.Ok.of BHv9 Zah) l (fun x:NearT=> !(x.fm==but)&&x.us.any (fun y=>(y.sl==sl&&y.of==of))) (fun i=>AFe9 l sl of but 0 (i:Nat)) (fun i=>AFe9 l sl of but (i:Nat) (i:Nat)) [] 0 (fun i x hi hxi K k1 k2=> ?_) (fun K k1=> ?_) (fun h=>h1 h _) h2
 · refine Eq.mpr (BNl9 _ _ _ K l sl of but i) ?_
   rw [AEm9 hxi]
   refine Zbg (by simp;omega) (Zbg (natI i) ⟨_,_,_,_,_,_,_,_,_,_,_,_,_,_,_,_,_,_,_,_,_,_,_,_,_,_,_,_,_,_,_,rfl,x,sl,of,but,_,rfl,⟨hx x (List.mem_of_getElem? hxi),rfl⟩,Zbh (fun g=>k1 g) fun g=> ?_⟩)
   rw [wrapN (by omega)];exact k2 g
 · refine Eq.mpr (BNl9 _ _ _ K l sl of but _) ?_
   exact Zdl (by simp) k1
def ASz9 {β:Type}:WLT β:=fun cd tm hp b K=>∃(l:List NearT) (sl:Int) (of:Int) (but:Int) (q:Int),cd= .loop ALm9∧ABd9 [0,1,4,7,8] 0 tm=AFe9 l sl of but 0 0∧hp= []∧((∀x∈l,AGk9 x)∧l.length≤9223372036854775807∧q=idxS (fun x:NearT=> !(x.fm==but)&&x.us.any (fun y=>(y.sl==sl&&y.of==of))) l)∧(∀i:Int,q= -1→K (.exit 0) (AFe9 l sl of but 0 i) [] b)∧(∀i:Int,0≤q→K .ret (AFe9 l sl of but q i) [] b)
theorem AXn9 {Ev:Env prog} (c:Code) (tm:List AV) (hp:List Blk) (b:Ev.β) (K:Exit→List AV→List Blk→Ev.β→Prop) (h:ASz9 c tm hp b K):W Ev c ⟨tm,hp,b⟩ (fun e s=>K e s.tm s.hp s.b):=by
 obtain ⟨l,sl,of,but,q,rfl,htm,rfl,⟨hx,hl,rfl⟩,hK1,hK2⟩:=h
 refine W.cast (htm▸AAe9 _ tm 0) (Zce _) ?_
 exact W.rounds (BQa9 (Q:=fun e s=>K e s.tm s.hp s.b) l sl of but hl hx (fun h i=>hK1 i (AAy9 h)) fun j h=>by have:=hK2 j (by rw [AAg9 h];omega);rwa [AAg9 h] at this)
theorem AYt9 (l:List NearT) (sl:Int) (of:Int) (but:Int):wpFn prog ⟨[], [],ASz9,y,false⟩ 100 f82 [.d (.sl 31 (rowsN l)), .fn (.func 101) [] [.rptr [i64 but], .rptr [i64 sl,i64 of]]] b R=(∃(l0:List NearT) (sl1:Int) (of2:Int) (but3:Int) (q4:Int),Zaz ALm9=Zaz ALm9∧(Zab (Zaf 31 (rowsN l))::Zat (Fn.func 101) [] (Qz43 but sl of)::Zad::Zad::Zab (i64 0)::Zad::Zad::Zab (i64 ((Zaa (rowsN l):Nat):Int))::Zab (i64 0)::bds 10 [])=(Zab (Zaf 31 (rowsN l0))::Zat (Fn.func 101) [] (Qz43 but3 sl1 of2)::Zad::Zad::Zab (i64 0)::Zad::Zad::Zab (i64 ((Zaa l0:Nat):Int))::Zab (i64 0)::bds 10 [])∧([]:List Blk)= []∧((∀(x:NearT),x∈l0→Zaa (NearT.us x)≤9223372036854775807∧Zaa (NearT.gs x)≤9223372036854775807∧Zaa (NearT.ak x)≤9223372036854775807)∧Zaa l0≤9223372036854775807∧q4=idxS (fun (x5:NearT)=> !NearT.fm x5==but3&&Zed (NearT.us x5) fun (y6:UseT)=>UseT.sl y6==sl1&&UseT.of y6==of2) l0)∧(∀(i:Int),q4=(-1:Int)→R (.d (i64 (-1))) b)∧∀(i:Int),(0:Int)≤q4→R (.d (i64 q4)) b):=by kernel_rfl
theorem BDa9 (l:List NearT) (sl:Int) (of:Int) (but:Int) (hl:l.length≤9223372036854775807) (hx:∀x∈l,AGk9 x):PCall prog 82 [.d (.sl 31 (rowsN l)), .fn (.func 101) [] [.rptr [i64 but], .rptr [i64 sl,i64 of]]] (.d (i64 (idxS (fun x:NearT=> !(x.fm==but)&&x.us.any (fun y=>(y.sl==sl&&y.of==of))) l))):=by
 refine Zdy (n:=100) (u:=false) (fun _=>ASz9) mixed Zal Zah (fun Ev=>AXn9) func82 (by rfl) (by rfl) fun Ev bb=> ?_
 rw [AYt9,AFk9]
 exact ⟨l,sl,of,but,_,rfl,rfl,rfl,⟨hx,hl,rfl⟩,fun i h=>by rw [h],fun i h=>rfl⟩
def AWn9 (args:List AV) (K:AV→Prop):Prop:=∃(l:List NearT) (sl:Int) (of:Int) (but:Int) (q:Int),args= [.d (.sl 31 (rowsN l)), .fn (.func 101) [] [.rptr [i64 but], .rptr [i64 sl,i64 of]]]∧((∀x∈l,AGk9 x)∧l.length≤9223372036854775807∧q=idxS (fun x:NearT=> !(x.fm==but)&&x.us.any (fun y=>(y.sl==sl&&y.of==of))) l)∧K (.d (i64 q))
theorem AUh9:∀args K,AWn9 args K→∃x,PCall prog 82 args x∧K x:=by
 rintro _ K ⟨l,sl,of,but,_,rfl,⟨hx,hl,rfl⟩,hk⟩;exact ⟨_,BDa9 l sl of but hl hx,hk⟩
def BPm9:List (Nat×(List AV→(AV→Prop)→Prop)):= [(82,AWn9)]
theorem BIh9:AAb9 prog BPm9:=Zai AUh9 Zal
theorem AZg9 (l:List NearT) (sl:Int) (of:Int) (but:Int):wpFn prog ⟨BPm9, [],wl,y,false⟩ 100 f85 [.d (.sl 31 (rowsN l)), .fn (.func 101) [] [.rptr [i64 but], .rptr [i64 sl,i64 of]]] b R=(∃(l0:List NearT) (sl1:Int) (of2:Int) (but3:Int) (q4:Int), [Zab (Zaf 31 (rowsN l)),Zat (Fn.func 101) [] (Qz43 but sl of)]= [Zab (Zaf 31 (rowsN l0)),Zat (Fn.func 101) [] (Qz43 but3 sl1 of2)]∧((∀(x:NearT),x∈l0→Zaa (NearT.us x)≤9223372036854775807∧Zaa (NearT.gs x)≤9223372036854775807∧Zaa (NearT.ak x)≤9223372036854775807)∧Zaa l0≤9223372036854775807∧q4=idxS (fun (x5:NearT)=> !NearT.fm x5==but3&&Zed (NearT.us x5) fun (y6:UseT)=>UseT.sl y6==sl1&&UseT.of y6==of2) l0)∧R (.d (bo (decide (q4≥(0:Int))))) b):=by kernel_rfl
theorem BDh9 (l:List NearT) (sl:Int) (of:Int) (but:Int) (hl:l.length≤9223372036854775807) (hx:∀x∈l,AGk9 x):PCall prog 85 [.d (.sl 31 (rowsN l)), .fn (.func 101) [] [.rptr [i64 but], .rptr [i64 sl,i64 of]]] (.d (bo (l.any (fun x:NearT=> !(x.fm==but)&&x.us.any (fun y=>(y.sl==sl&&y.of==of)))))):=by
 refine Zbe (n:=100) (u:=false) mixed BIh9 Zah func85 (by rfl) (by rfl) fun Ev bb=> ?_
 rw [AZg9]
 exact ⟨l,sl,of,but,_,rfl,⟨hx,hl,rfl⟩,by rw [AFo9]⟩
def AWv9 (args:List AV) (K:AV→Prop):Prop:=∃(l:List NearT) (sl:Int) (of:Int) (but:Int) (q:Bool),args= [.d (.sl 31 (rowsN l)), .fn (.func 101) [] [.rptr [i64 but], .rptr [i64 sl,i64 of]]]∧((∀x∈l,AGk9 x)∧l.length≤9223372036854775807∧q=l.any (fun x:NearT=> !(x.fm==but)&&x.us.any (fun y=>(y.sl==sl&&y.of==of))))∧K (.d (bo q))
theorem AUp9:∀args K,AWv9 args K→∃x,PCall prog 85 args x∧K x:=by
 rintro _ K ⟨l,sl,of,but,_,rfl,⟨hx,hl,rfl⟩,hk⟩;exact ⟨_,BDh9 l sl of but hl hx,hk⟩
theorem BLt9 (x:NearT) (sl:Int) (of:Int) (s:SideT):wpFn prog ⟨TFg, [],wl,y,false⟩ 100 f86 ([nearA x]++ [.rptr [i64 sl,i64 of], .rptr [.pt (sideD s)]]) b R=(∃(l0:List GraT) (sl1:Int) (of2:Int) (s3:SideT) (q4:Bool), [Zab (Zaf 5 (rowsG (NearT.gs x))),Zat (Fn.func 88) [] (Qz22 sl of s)]= [Zab (Zaf 5 (rowsG l0)),Zat (Fn.func 88) [] (Qz22 sl1 of2 s3)]∧(Zaa l0≤9223372036854775807∧q4=Zed l0 fun (x5:GraT)=>GraT.sl x5==sl1&&GraT.of x5==of2&& !GraT.pe x5==SideT.me s3)∧R (.d (bo q4)) b):=by kernel_rfl
theorem BSf9 (x:NearT) (sl:Int) (of:Int) (s:SideT) (hx:AGk9 x):PCall prog 86 ([nearA x]++ [.rptr [i64 sl,i64 of], .rptr [.pt (sideD s)]]) (.d (bo ((fun x:NearT=>x.gs.any (fun y=>(y.sl==sl&&y.of==of)&& !(y.pe==s.me))) x))):=by
 refine Zbe (n:=100) (u:=false) mixed CFa9 Zah func86 (by rfl) (by rfl) fun Ev bb=> ?_
 rw [BLt9]
 exact ⟨x.gs,sl,of,s,_,rfl,⟨hx.2.1,rfl⟩,rfl⟩
def BPb9 (args:List AV) (K:AV→Prop):Prop:=∃(x:NearT) (sl:Int) (of:Int) (s:SideT) (q:Bool),args= [nearA x]++ [.rptr [i64 sl,i64 of], .rptr [.pt (sideD s)]]∧(AGk9 x∧q=(fun x:NearT=>x.gs.any (fun y=>(y.sl==sl&&y.of==of)&& !(y.pe==s.me))) x)∧K (.d (bo q))
theorem BHf9:∀args K,BPb9 args K→∃x,PCall prog 86 args x∧K x:=by
 rintro _ K ⟨x,sl,of,s,_,rfl,⟨hx,rfl⟩,hk⟩;exact ⟨_,BSf9 x sl of s hx,hk⟩
def BVv9:List (Nat×(List AV→(AV→Prop)→Prop)):= [(86,BPb9)]
theorem BNd9:AAb9 prog BVv9:=Zai BHf9 Zal
noncomputable def ARk9:Code:=sub [1,0,1,2,3] (code f82)
def AHu9 (l:List NearT) (sl:Int) (of:Int) (s:SideT) (q i:Int):List AV:= [.d (.sl 31 (rowsN l)), .fn (.func 86) [] [.rptr [i64 sl,i64 of], .rptr [.pt (sideD s)]], .bad, .bad, .d (i64 q), .bad, .bad, .d (i64 l.length), .d (i64 i)]++Zaq 10 .bad
theorem BYq9 (l:List NearT) (sl:Int) (of:Int) (s:SideT) (i:Int):wpc prog ⟨BVv9, [],wl,y,false⟩ 100 ARk9 (AHu9 l sl of s 0 i) [] b (maskK 0 [0,1,4,7,8] K)=(BIf (decide (i<((Zaa l:Nat):Int))) (BIf (true&&decide (0≤i)) (∃(x0:Int) (x1:Int) (x2:Int) (x3:Int) (x4:Int) (x5:Int) (x6:Int) (x7:Int) (x8:Int) (x9:Int) (x10:Int) (x11:Int) (xs12:List (List Dv)) (xs13:List (List Dv)) (xs14:List (List Dv)) (xs15:List (List Dv)) (b16:Bool) (xs17:List (List Dv)) (xs18:List (List Dv)) (xs19:List (List Dv)) (x20:Int) (x21:Int) (x22:Int) (x23:Int) (x24:Int) (x25:Int) (x26:Int) (x27:Int) (xs28:List (List Dv)) (xs29:List (List Dv)) (b30:Bool),(rowsN l)[Zav i]? =some [i64 x0,i64 x1,i64 x2,i64 x3,i64 x4,i64 x5,i64 x6,i64 x7,i64 x8,i64 x9,i64 x10,i64 x11,Zaf 4 xs12,Zaf 5 xs13,Zaf 3 xs14,Zaf 4 xs15,bo b16,Zaf 8 xs17,Zaf 8 xs18,Zaf 1 xs19,i64 x20,i64 x21,u64 x22,i64 x23,i64 x24,i64 x25,i64 x26,i64 x27,Zaf 1 xs28,Zaf 1 xs29,bo b30]∧∃(x33:NearT) (sl34:Int) (of35:Int) (s36:SideT) (q37:Bool), [Zao [Zab (i64 x0),Zab (i64 x1),Zab (i64 x2),Zab (i64 x3),Zab (i64 x4),Zab (i64 x5),Zab (i64 x6),Zab (i64 x7),Zab (i64 x8),Zab (i64 x9),Zab (i64 x10),Zab (i64 x11),Zab (Zaf 4 xs12),Zab (Zaf 5 xs13),Zab (Zaf 3 xs14),Zab (Zaf 4 xs15),Zab (bo b16),Zab (Zaf 8 xs17),Zab (Zaf 8 xs18),Zab (Zaf 1 xs19),Zab (i64 x20),Zab (i64 x21),Zab (u64 x22),Zab (i64 x23),Zab (i64 x24),Zab (i64 x25),Zab (i64 x26),Zab (i64 x27),Zab (Zaf 1 xs28),Zab (Zaf 1 xs29),Zab (bo b30)],Zag [i64 sl,i64 of],Zag [Dv.pt (Qz2 s)]]= [Zao (Qz1 x33),Zag [i64 sl34,i64 of35],Zag [Dv.pt (Qz2 s36)]]∧((Zaa (NearT.us x33)≤9223372036854775807∧Zaa (NearT.gs x33)≤9223372036854775807∧Zaa (NearT.ak x33)≤9223372036854775807)∧q37=Zed (NearT.gs x33) fun (y38:GraT)=>GraT.sl y38==sl34&&GraT.of y38==of35&& !GraT.pe y38==SideT.me s36)∧BIf q37 (K .ret (Zab (Zaf 31 (rowsN l))::Zat (Fn.func 86) [] (Qz22 sl of s)::Zad::Zad::Zab (i64 i)::Zad::Zad::Zab (i64 ((Zaa l:Nat):Int))::Zab (i64 i)::bds 10 []) [] b) (K .normal (Zab (Zaf 31 (rowsN l))::Zat (Fn.func 86) [] (Qz22 sl of s)::Zad::Zad::Zab (i64 0)::Zad::Zad::Zab (i64 ((Zaa l:Nat):Int))::Zab (i64 (Zae .i64 (i+1)))::bds 10 []) [] b)) False) (K (Zbv 0) (Zab (Zaf 31 (rowsN l))::Zat (Fn.func 86) [] (Qz22 sl of s)::Zad::Zad::Zab (i64 0)::Zad::Zad::Zab (i64 ((Zaa l:Nat):Int))::Zab (i64 i)::bds 10 []) [] b)):=by kernel_rfl
theorem BWl9 {Ev:Env prog} {b:Ev.β} {Q:Exit→St Ev.β→Prop} (l:List NearT) (sl:Int) (of:Int) (s:SideT) (hl:l.length≤9223372036854775807) (hx:∀x∈l,AGk9 x) (h1:l.findIdx? (fun x:NearT=>x.gs.any (fun y=>(y.sl==sl&&y.of==of)&& !(y.pe==s.me)))=none→∀i:Int,Q (.exit 0) ⟨AHu9 l sl of s 0 i, [],b⟩) (h2:∀j:Nat,l.findIdx? (fun x:NearT=>x.gs.any (fun y=>(y.sl==sl&&y.of==of)&& !(y.pe==s.me)))=some j→Q .ret ⟨AHu9 l sl of s j j, [],b⟩):
   WR Ev ARk9 (l.length+1) ⟨AHu9 l sl of s 0 (0:Nat), [],b⟩ Q:=by
 refine WR.findL (X:=⟨BVv9, [],wlW Ev,Ev.Y,false⟩) (k:=100) [0,1,4,7,8] mixed (CX.Ok.of BNd9 Zah) l (fun x:NearT=>x.gs.any (fun y=>(y.sl==sl&&y.of==of)&& !(y.pe==s.me))) (fun i=>AHu9 l sl of s 0 (i:Nat)) (fun i=>AHu9 l sl of s (i:Nat) (i:Nat)) [] 0 (fun i x hi hxi K k1 k2=> ?_) (fun K k1=> ?_) (fun h=>h1 h _) h2
 · refine Eq.mpr (BYq9 _ _ _ K l sl of s i) ?_
   rw [AEm9 hxi]
   refine Zbg (by simp;omega) (Zbg (natI i) ⟨_,_,_,_,_,_,_,_,_,_,_,_,_,_,_,_,_,_,_,_,_,_,_,_,_,_,_,_,_,_,_,rfl,x,sl,of,s,_,rfl,⟨hx x (List.mem_of_getElem? hxi),rfl⟩,Zbh (fun g=>k1 g) fun g=> ?_⟩)
   rw [wrapN (by omega)];exact k2 g
 · refine Eq.mpr (BYq9 _ _ _ K l sl of s _) ?_
   exact Zdl (by simp) k1
def BBq9 {β:Type}:WLT β:=fun cd tm hp b K=>∃(l:List NearT) (sl:Int) (of:Int) (s:SideT) (q:Int),cd= .loop ARk9∧ABd9 [0,1,4,7,8] 0 tm=AHu9 l sl of s 0 0∧hp= []∧((∀x∈l,AGk9 x)∧l.length≤9223372036854775807∧q=idxS (fun x:NearT=>x.gs.any (fun y=>(y.sl==sl&&y.of==of)&& !(y.pe==s.me))) l)∧(∀i:Int,q= -1→K (.exit 0) (AHu9 l sl of s 0 i) [] b)∧(∀i:Int,0≤q→K .ret (AHu9 l sl of s q i) [] b)
theorem BBp9 {Ev:Env prog} (c:Code) (tm:List AV) (hp:List Blk) (b:Ev.β) (K:Exit→List AV→List Blk→Ev.β→Prop) (h:BBq9 c tm hp b K):W Ev c ⟨tm,hp,b⟩ (fun e s=>K e s.tm s.hp s.b):=by
 obtain ⟨l,sl,of,s,q,rfl,htm,rfl,⟨hx,hl,rfl⟩,hK1,hK2⟩:=h
 refine W.cast (htm▸AAe9 _ tm 0) (Zce _) ?_
 exact W.rounds (BWl9 (Q:=fun e s=>K e s.tm s.hp s.b) l sl of s hl hx (fun h i=>hK1 i (AAy9 h)) fun j h=>by have:=hK2 j (by rw [AAg9 h];omega);rwa [AAg9 h] at this)
theorem BEc9 (l:List NearT) (sl:Int) (of:Int) (s:SideT):wpFn prog ⟨[], [],BBq9,y,false⟩ 100 f82 [.d (.sl 31 (rowsN l)), .fn (.func 86) [] [.rptr [i64 sl,i64 of], .rptr [.pt (sideD s)]]] b R=(∃(l0:List NearT) (sl1:Int) (of2:Int) (s3:SideT) (q4:Int),Zaz ARk9=Zaz ARk9∧(Zab (Zaf 31 (rowsN l))::Zat (Fn.func 86) [] (Qz22 sl of s)::Zad::Zad::Zab (i64 0)::Zad::Zad::Zab (i64 ((Zaa (rowsN l):Nat):Int))::Zab (i64 0)::bds 10 [])=(Zab (Zaf 31 (rowsN l0))::Zat (Fn.func 86) [] (Qz22 sl1 of2 s3)::Zad::Zad::Zab (i64 0)::Zad::Zad::Zab (i64 ((Zaa l0:Nat):Int))::Zab (i64 0)::bds 10 [])∧([]:List Blk)= []∧((∀(x:NearT),x∈l0→Zaa (NearT.us x)≤9223372036854775807∧Zaa (NearT.gs x)≤9223372036854775807∧Zaa (NearT.ak x)≤9223372036854775807)∧Zaa l0≤9223372036854775807∧q4=idxS (fun (x5:NearT)=>Zed (NearT.gs x5) fun (y6:GraT)=>GraT.sl y6==sl1&&GraT.of y6==of2&& !GraT.pe y6==SideT.me s3) l0)∧(∀(i:Int),q4=(-1:Int)→R (.d (i64 (-1))) b)∧∀(i:Int),(0:Int)≤q4→R (.d (i64 q4)) b):=by kernel_rfl
theorem BJv9 (l:List NearT) (sl:Int) (of:Int) (s:SideT) (hl:l.length≤9223372036854775807) (hx:∀x∈l,AGk9 x):PCall prog 82 [.d (.sl 31 (rowsN l)), .fn (.func 86) [] [.rptr [i64 sl,i64 of], .rptr [.pt (sideD s)]]] (.d (i64 (idxS (fun x:NearT=>x.gs.any (fun y=>(y.sl==sl&&y.of==of)&& !(y.pe==s.me))) l))):=by
 refine Zdy (n:=100) (u:=false) (fun _=>BBq9) mixed Zal Zah (fun Ev=>BBp9) func82 (by rfl) (by rfl) fun Ev bb=> ?_
 rw [BEc9,AFk9]
 exact ⟨l,sl,of,s,_,rfl,rfl,rfl,⟨hx,hl,rfl⟩,fun i h=>by rw [h],fun i h=>rfl⟩
def BGg9 (args:List AV) (K:AV→Prop):Prop:=∃(l:List NearT) (sl:Int) (of:Int) (s:SideT) (q:Int),args= [.d (.sl 31 (rowsN l)), .fn (.func 86) [] [.rptr [i64 sl,i64 of], .rptr [.pt (sideD s)]]]∧((∀x∈l,AGk9 x)∧l.length≤9223372036854775807∧q=idxS (fun x:NearT=>x.gs.any (fun y=>(y.sl==sl&&y.of==of)&& !(y.pe==s.me))) l)∧K (.d (i64 q))
theorem AZs9:∀args K,BGg9 args K→∃x,PCall prog 82 args x∧K x:=by
 rintro _ K ⟨l,sl,of,s,_,rfl,⟨hx,hl,rfl⟩,hk⟩;exact ⟨_,BJv9 l sl of s hl hx,hk⟩
def CCh9:List (Nat×(List AV→(AV→Prop)→Prop)):= [(82,BGg9)]
theorem BNg9:AAb9 prog CCh9:=Zai AZs9 Zal
theorem BFf9 (l:List NearT) (sl:Int) (of:Int) (s:SideT):wpFn prog ⟨CCh9, [],wl,y,false⟩ 100 f85 [.d (.sl 31 (rowsN l)), .fn (.func 86) [] [.rptr [i64 sl,i64 of], .rptr [.pt (sideD s)]]] b R=(∃(l0:List NearT) (sl1:Int) (of2:Int) (s3:SideT) (q4:Int), [Zab (Zaf 31 (rowsN l)),Zat (Fn.func 86) [] (Qz22 sl of s)]= [Zab (Zaf 31 (rowsN l0)),Zat (Fn.func 86) [] (Qz22 sl1 of2 s3)]∧((∀(x:NearT),x∈l0→Zaa (NearT.us x)≤9223372036854775807∧Zaa (NearT.gs x)≤9223372036854775807∧Zaa (NearT.ak x)≤9223372036854775807)∧Zaa l0≤9223372036854775807∧q4=idxS (fun (x5:NearT)=>Zed (NearT.gs x5) fun (y6:GraT)=>GraT.sl y6==sl1&&GraT.of y6==of2&& !GraT.pe y6==SideT.me s3) l0)∧R (.d (bo (decide (q4≥(0:Int))))) b):=by kernel_rfl
theorem BJy9 (l:List NearT) (sl:Int) (of:Int) (s:SideT) (hl:l.length≤9223372036854775807) (hx:∀x∈l,AGk9 x):PCall prog 85 [.d (.sl 31 (rowsN l)), .fn (.func 86) [] [.rptr [i64 sl,i64 of], .rptr [.pt (sideD s)]]] (.d (bo (l.any (fun x:NearT=>x.gs.any (fun y=>(y.sl==sl&&y.of==of)&& !(y.pe==s.me)))))):=by
 refine Zbe (n:=100) (u:=false) mixed BNg9 Zah func85 (by rfl) (by rfl) fun Ev bb=> ?_
 rw [BFf9]
 exact ⟨l,sl,of,s,_,rfl,⟨hx,hl,rfl⟩,by rw [AFo9]⟩
def BGo9 (args:List AV) (K:AV→Prop):Prop:=∃(l:List NearT) (sl:Int) (of:Int) (s:SideT) (q:Bool),args= [.d (.sl 31 (rowsN l)), .fn (.func 86) [] [.rptr [i64 sl,i64 of], .rptr [.pt (sideD s)]]]∧((∀x∈l,AGk9 x)∧l.length≤9223372036854775807∧q=l.any (fun x:NearT=>x.gs.any (fun y=>(y.sl==sl&&y.of==of)&& !(y.pe==s.me))))∧K (.d (bo q))
theorem AZu9:∀args K,BGo9 args K→∃x,PCall prog 85 args x∧K x:=by
 rintro _ K ⟨l,sl,of,s,_,rfl,⟨hx,hl,rfl⟩,hk⟩;exact ⟨_,BJy9 l sl of s hl hx,hk⟩
def TBz:List (Nat×(List AV→(AV→Prop)→Prop)):= [(98,AWy9),(87,AWz9)]
theorem CFd9:AAb9 prog TBz:=Zai AUs9 (Zai AUt9 Zal)
theorem CBl9 (t:TabT) (s:Int):wpFn prog ⟨TBz, [],wl,y,false⟩ 100 f84 [tabA t, .d (i64 s)] b R=(∃(l0:List UseT) (s1:Int) (q2:Bool), [Zab (Zaf 4 (rowsU (TabT.us t))),Zat (Fn.func 119) [] [Zag [i64 s]]]= [Zab (Zaf 4 (rowsU l0)),Zat (Fn.func 119) [] [Zag [i64 s1]]]∧(Zaa l0≤9223372036854775807∧q2=Zed l0 fun (x3:UseT)=>UseT.sl x3==s1)∧BIf q2 (R (.d (bo true)) b) (∃(l4:List GraT) (s5:Int) (q6:Bool), [Zab (Zaf 5 (rowsG (TabT.gs t))),Zat (Fn.func 120) [] [Zag [i64 s]]]= [Zab (Zaf 5 (rowsG l4)),Zat (Fn.func 120) [] [Zag [i64 s5]]]∧(Zaa l4≤9223372036854775807∧q6=Zed l4 fun (x7:GraT)=>GraT.sl x7==s5)∧R (.d (bo q6)) b)):=by kernel_rfl
theorem AXu9 (s:SideT) (n:NearT):wpFn prog ⟨[], [],wl,y,false⟩ 100 f49 [.rptr (sideD s),nearA n] b R=(R (Zab (bo (decide (NearT.fr n≥Zae Zay (SideT.fr s - (1:Int)))))) b):=by kernel_rfl
theorem BNr9 (t:TabT) (s:Int) (ht:TabOk t):PCall prog 84 [tabA t, .d (i64 s)] (.d (bo (busyT t s))):=by
 obtain ⟨h1,h2,_⟩:=ht
 refine Zbe (n:=100) (u:=false) mixed CFd9 Zah func84 (by rfl) (by rfl) fun Ev bb=> ?_
 rw [CBl9]
 refine ⟨t.us,s,_,rfl,⟨by omega,rfl⟩,Zbh (fun h=> ?_) fun h=>⟨t.gs,s,_,rfl,⟨by omega,rfl⟩, ?_⟩⟩
 · rw [busyT,h];rfl
 · rw [busyT,h];rfl
def BUv9 (args:List AV) (K:AV→Prop):Prop:=∃(t:TabT) (s:Int) (q:Bool),args= [tabA t, .d (i64 s)]∧(TabOk t∧q=busyT t s)∧K (.d (bo q))
theorem AXa9:∀args K,BUv9 args K→∃x,PCall prog 84 args x∧K x:=by
 rintro _ K ⟨t,s,_,rfl,⟨ht,rfl⟩,hk⟩;exact ⟨_,BNr9 t s ht,hk⟩
def AJn9 (s:SideT) (n:NearT):Bool:=decide (n.fr≥Zae Zay (s.fr - 1))
theorem BCv9 (s:SideT) (n:NearT):PCall prog 49 [.rptr (sideD s),nearA n] (.d (bo (AJn9 s n))):=by
 refine Zbe (n:=100) (u:=false) mixed Zal Zah func49 (by rfl) (by rfl) fun Ev bb=> ?_
 rw [AXu9];rfl
def APg9 (args:List AV) (K:AV→Prop):Prop:=∃(s:SideT) (n:NearT) (q:Bool),args= [.rptr (sideD s),nearA n]∧q=AJn9 s n∧K (.d (bo q))
theorem AMd9:∀args K,APg9 args K→∃x,PCall prog 49 args x∧K x:=by
 rintro _ K ⟨s,n,_,rfl,rfl,hk⟩;exact ⟨_,BCv9 s n,hk⟩
def BUu9 (args:List AV) (K:AV→Prop):Prop:=match args with
 | [.agg [x,y, .d (.s (.slice none 0 0))],s]=>∃(us:List UseT) (gs:List GraT) (sl:Int) (q:Bool), [x,y,s]= [.d (.sl 4 (rowsU us)), .d (.sl 5 (rowsG gs)), .d (i64 sl)]∧(us.length<10000∧gs.length<10000∧q=busyT ⟨us,gs, []⟩ sl)∧K (.d (bo q))
 |_=>BUv9 args K
theorem BMm9:∀args K,BUu9 args K→∃x,PCall prog 84 args x∧K x:=by
 intro args K h
 unfold BUu9 at h
 split at h
 · obtain ⟨us,gs,sl,_,he,⟨h1,h2,rfl⟩,hk⟩:=h
   cases he
   have hle:LeV (.agg [.d (.sl 4 (rowsU us)), .d (.sl 5 (rowsG gs)), .d (.s (.slice none 0 0))]) (tabA ⟨us,gs, []⟩):=by
     refine .agg rfl fun i a b h1 h2=> ?_
     match i with
     |0=>simp at h1 h2;subst h1 h2;exact .rfl
     |1=>simp at h1 h2;subst h1 h2;exact .rfl
     |2=>simp at h1 h2;subst h1 h2;exact .nil rfl
     |i+3=>simp at h1
   exact ⟨_,PCall.leArgsV (.cons hle (.cons .rfl .nil)) (BNr9 ⟨us,gs, []⟩ sl ⟨h1,h2,by simp⟩),hk⟩
 · exact AXa9 _ _ h
def TUz:List (Nat×(List AV→(AV→Prop)→Prop)):= [(85,AWv9)]
theorem CEj9:AAb9 prog TUz:=Zai AUp9 Zal
def TIp:List (Nat×(List AV→(AV→Prop)→Prop)):= [(84,BUu9),(85,BGo9)]
theorem CEt9:AAb9 prog TIp:=Zai BMm9 (Zai AZu9 Zal)
def askB (a:AskT):Blk:=⟨[.d (i64 a.sl), .d (i64 a.of), .d (i64 a.pe)],false,false,0⟩
noncomputable def lpIx:Code:=sub [1,0,1,2,3] (code f134)
def tmIx (l:List AskT) (q i:Int):List AV:= [.d (.sl 3 (rowsA l)), .bad, .bad, .ptr 0 0, .d (i64 q), .bad, .bad, .d (i64 l.length), .d (i64 i)]++Zaq 10 .bad
theorem BKn9 (s:SideT) (sl of but:Int):wpFn prog ⟨TUz, [],wl,y,false⟩ 100 f51 [.rptr (sideD s),cellA sl of, .d (i64 but)] b R=(∃(l0:List NearT) (sl1:Int) (of2:Int) (but3:Int) (q4:Bool), [Zab (Zaf 31 (rowsN (SideT.ns s))),Zat (Fn.func 101) [] (Qz43 but sl of)]= [Zab (Zaf 31 (rowsN l0)),Zat (Fn.func 101) [] (Qz43 but3 sl1 of2)]∧((∀(x:NearT),x∈l0→Zaa (NearT.us x)≤9223372036854775807∧Zaa (NearT.gs x)≤9223372036854775807∧Zaa (NearT.ak x)≤9223372036854775807)∧Zaa l0≤9223372036854775807∧q4=Zed l0 fun (x5:NearT)=> !NearT.fm x5==but3&&Zed (NearT.us x5) fun (y6:UseT)=>UseT.sl y6==sl1&&UseT.of y6==of2)∧R (.d (bo q4)) b):=by kernel_rfl
theorem BKo9 (s:SideT) (t:TabT) (n:NearT) (sl of:Int):wpFn prog ⟨TIp, [],wl,y,false⟩ 100 f39 [.rptr (sideD s),tabA t,nearA n,cellA sl of] b R=(∃(t0:TabT) (s1:Int) (q2:Bool), [Zao (Qz3 t),Zab (i64 sl)]= [Zao (Qz3 t0),Zab (i64 s1)]∧((Zaa (TabT.us t0)<10000∧Zaa (TabT.gs t0)<10000∧Zaa (TabT.ak t0)<10000)∧q2=busyT t0 s1)∧BIf q2 (R (.d (bo false)) b) (∃(us3:List UseT) (gs4:List GraT) (sl5:Int) (q6:Bool), [Zab (Zaf 4 (rowsU (NearT.us n))),Zab (Zaf 5 (rowsG (NearT.gs n))),Zab (i64 sl)]= [Zab (Zaf 4 (rowsU us3)),Zab (Zaf 5 (rowsG gs4)),Zab (i64 sl5)]∧(Zaa us3<10000∧Zaa gs4<10000∧q6=busyT (TabT.mk us3 gs4 []) sl5)∧BIf q6 (R (.d (bo false)) b) (∃(l7:List NearT) (sl8:Int) (of9:Int) (s10:SideT) (q11:Bool), [Zab (Zaf 31 (rowsN (SideT.ns s))),Zat (Fn.func 86) [] (Qz22 sl of s)]= [Zab (Zaf 31 (rowsN l7)),Zat (Fn.func 86) [] (Qz22 sl8 of9 s10)]∧((∀(x:NearT),x∈l7→Zaa (NearT.us x)≤9223372036854775807∧Zaa (NearT.gs x)≤9223372036854775807∧Zaa (NearT.ak x)≤9223372036854775807)∧Zaa l7≤9223372036854775807∧q11=Zed l7 fun (x12:NearT)=>Zed (NearT.gs x12) fun (y13:GraT)=>GraT.sl y13==sl8&&GraT.of y13==of9&& !GraT.pe y13==SideT.me s10)∧R (.d (bo !q11)) b))):=by kernel_rfl
theorem rIx (l:List AskT) (a:AskT) (i:Int):wpc prog ⟨[], [],wl,y,false⟩ 100 lpIx (tmIx l 0 i) [askB a] b (maskK 1 [0,3,4,7,8] K)=(BIf (decide (i<((Zaa l:Nat):Int))) (BIf (true&&decide (0≤i)) (∃(x0:Int) (x1:Int) (x2:Int),(rowsA l)[Zav i]? =some [i64 x0,i64 x1,i64 x2]∧BIf (AskT.sl a==x0&&(AskT.of a==x1&&true)&&(AskT.pe a==x2&&true)) (K .ret (Zab (Zaf 3 (rowsA l))::Zad::Zad::Zak 0 0::Zab (i64 i)::Zad::Zad::Zab (i64 ((Zaa l:Nat):Int))::Zab (i64 i)::bds 10 []) [Blk.mk (Qz13 a) false false 0] b) (K .normal (Zab (Zaf 3 (rowsA l))::Zad::Zad::Zak 0 0::Zab (i64 0)::Zad::Zad::Zab (i64 ((Zaa l:Nat):Int))::Zab (i64 (Zae .i64 (i+1)))::bds 10 []) [Blk.mk (Qz13 a) false false 0] b)) False) (K (Zbv 0) (Zab (Zaf 3 (rowsA l))::Zad::Zad::Zak 0 0::Zab (i64 0)::Zad::Zad::Zab (i64 ((Zaa l:Nat):Int))::Zab (i64 i)::bds 10 []) [Blk.mk (Qz13 a) false false 0] b)):=by kernel_rfl
def usedS (ns:List NearT) (sl of but:Int):Bool:=ns.any fun x=> !(x.fm==but)&&x.us.any (fun y=>(y.sl==sl&&y.of==of))
def AIz9 (s:SideT):Prop:=s.ns.length≤9223372036854775807∧(∀x∈s.ns,AGk9 x)∧layOk s.lay=true
theorem BRn9 (s:SideT) (sl of but:Int) (hs:AIz9 s):PCall prog 51 [.rptr (sideD s),cellA sl of, .d (i64 but)] (.d (bo (usedS s.ns sl of but))):=by
 refine Zbe (n:=100) (u:=false) mixed CEj9 Zah func51 (by rfl) (by rfl) fun Ev bb=> ?_
 rw [BKn9]
 exact ⟨s.ns,sl,of,but,_,rfl,⟨hs.2.1,hs.1,rfl⟩,rfl⟩
def BOj9 (args:List AV) (K:AV→Prop):Prop:=∃(s:SideT) (sl of but:Int) (q:Bool),args= [.rptr (sideD s),cellA sl of, .d (i64 but)]∧(AIz9 s∧q=usedS s.ns sl of but)∧K (.d (bo q))
theorem BFv9:∀args K,BOj9 args K→∃x,PCall prog 51 args x∧K x:=by
 rintro _ K ⟨s,sl,of,but,_,rfl,⟨hs,rfl⟩,hk⟩;exact ⟨_,BRn9 s sl of but hs,hk⟩
def AOz9 (ns:List NearT) (sl of me:Int):Bool:=ns.any fun x=>x.gs.any fun y=>(y.sl==sl&&y.of==of)&& !(y.pe==me)
def possS (s:SideT) (t:TabT) (n:NearT) (sl of:Int):Bool:=if busyT t sl=true then false else if busyT ⟨n.us,n.gs, []⟩ sl=true then false else !AOz9 s.ns sl of s.me
theorem BRo9 (s:SideT) (t:TabT) (n:NearT) (sl of:Int) (hs:AIz9 s) (ht:TabOk t) (hn:n.us.length<10000∧n.gs.length<10000):PCall prog 39 [.rptr (sideD s),tabA t,nearA n,cellA sl of] (.d (bo (possS s t n sl of))):=by
 refine Zbe (n:=100) (u:=false) mixed CEt9 Zah func39 (by rfl) (by rfl) fun Ev bb=> ?_
 rw [BKo9]
 refine ⟨t,sl,_,rfl,⟨ht,rfl⟩,Zbh (fun h1=> ?_) fun h1=>⟨n.us,n.gs,sl,_,rfl,⟨hn.1,hn.2,rfl⟩,Zbh (fun h2=> ?_) fun h2=>⟨s.ns,sl,of,s,_,rfl,⟨hs.2.1,hs.1,rfl⟩, ?_⟩⟩⟩
 · rw [possS,if_pos h1]
 · rw [possS,if_neg (by rw [h1];decide),if_pos h2]
 · rw [possS,if_neg (by rw [h1];decide),if_neg (by rw [h2];decide)];rfl
def BOk9 (args:List AV) (K:AV→Prop):Prop:=∃(s:SideT) (t:TabT) (n:NearT) (sl of:Int) (q:Bool),args= [.rptr (sideD s),tabA t,nearA n,cellA sl of]∧(AIz9 s∧TabOk t∧(n.us.length<10000∧n.gs.length<10000)∧q=possS s t n sl of)∧K (.d (bo q))
theorem BFw9:∀args K,BOk9 args K→∃x,PCall prog 39 args x∧K x:=by
 rintro _ K ⟨s,t,n,sl,of,_,rfl,⟨hs,ht,hn,rfl⟩,hk⟩;exact ⟨_,BRo9 s t n sl of hs ht hn,hk⟩
def eqAsk (a x:AskT):Bool:=a.sl==x.sl&&(a.of==x.of&&a.pe==x.pe)
theorem wrIx {Ev:Env prog} {b:Ev.β} {Q:Exit→St Ev.β→Prop} (l:List AskT) (a:AskT) (hl:l.length≤9223372036854775807) (h1:l.findIdx? (eqAsk a)=none→∀i:Int,Q (.exit 0) ⟨tmIx l 0 i, [askB a],b⟩) (h2:∀j:Nat,l.findIdx? (eqAsk a)=some j→Q .ret ⟨tmIx l j j, [askB a],b⟩):
   WR Ev lpIx (l.length+1) ⟨tmIx l 0 (0:Nat), [askB a],b⟩ Q:=by
 refine WR.findL (X:=⟨[], [],wlW Ev,Ev.Y,false⟩) (k:=100) [0,3,4,7,8] mixed (CX.Ok.of Zal Zah) l (eqAsk a) (fun i=>tmIx l 0 (i:Nat)) (fun i=>tmIx l (i:Nat) (i:Nat)) [askB a] 0 (fun i x hi hxi K k1 k2=> ?_) (fun K k1=> ?_) (fun h=>h1 h _) h2
 · refine Eq.mpr (rIx _ _ _ K l a i) ?_
   rw [ACr9 hxi]
   have e:(a.sl==x.sl&&(a.of==x.of&&true)&&(a.pe==x.pe&&true))=eqAsk a x:=by simp [eqAsk,Bool.and_assoc]
   refine Zbg (by simp;omega) (Zbg (natI i) ⟨_,_,_,rfl, ?_⟩)
   rw [e]
   refine Zbh (fun g=>k1 g) fun g=> ?_
   rw [wrapN (by omega)];exact k2 g
 · refine Eq.mpr (rIx _ _ _ K l a _) ?_
   exact Zdl (by simp) k1
def wlIx {β:Type}:WLT β:=fun cd tm hp b K=>∃(l:List AskT) (a:AskT) (q:Int),cd= .loop lpIx∧ABd9 [0,3,4,7,8] 0 tm=tmIx l 0 0∧hp= [askB a]∧(l.length≤9223372036854775807∧q=idxS (eqAsk a) l)∧(∀i:Int,q= -1→K (.exit 0) (tmIx l 0 i) [askB a] b)∧(∀i:Int,0≤q→K .ret (tmIx l q i) [askB a] b)
theorem BWw9 {Ev:Env prog} (c:Code) (tm:List AV) (hp:List Blk) (b:Ev.β) (K:Exit→List AV→List Blk→Ev.β→Prop) (h:wlIx c tm hp b K):W Ev c ⟨tm,hp,b⟩ (fun e s=>K e s.tm s.hp s.b):=by
 obtain ⟨l,a,q,rfl,htm,rfl,⟨hl,rfl⟩,hK1,hK2⟩:=h
 refine W.cast (htm▸AAe9 _ tm 0) (Zce _) ?_
 exact W.rounds (wrIx (Q:=fun e s=>K e s.tm s.hp s.b) l a hl (fun h i=>hK1 i (AAy9 h)) fun j h=>by have:=hK2 j (by rw [AAg9 h];omega);rwa [AAg9 h] at this)
theorem BSz9 (l:List AskT) (a:AskT):wpFn prog ⟨[], [],wlIx,y,false⟩ 100 f134 [.d (.sl 3 (rowsA l)),askA a] b R=(∃(l0:List AskT) (a1:AskT) (q2:Int),Zaz lpIx=Zaz lpIx∧(Zab (Zaf 3 (rowsA l))::Zad::Zad::Zak 0 0::Zab (i64 0)::Zad::Zad::Zab (i64 ((Zaa (rowsA l):Nat):Int))::Zab (i64 0)::bds 10 [])=(Zab (Zaf 3 (rowsA l0))::Zad::Zad::Zak 0 0::Zab (i64 0)::Zad::Zad::Zab (i64 ((Zaa l0:Nat):Int))::Zab (i64 0)::bds 10 [])∧ [Blk.mk (Qz13 a) false false 0]= [Blk.mk (Qz13 a1) false false 0]∧(Zaa l0≤9223372036854775807∧q2=idxS (eqAsk a1) l0)∧(∀(i:Int),q2=(-1:Int)→R (.d (i64 (-1))) b)∧∀(i:Int),(0:Int)≤q2→R (.d (i64 q2)) b):=by kernel_rfl
theorem BZe9 (l:List AskT) (a:AskT) (hl:l.length≤9223372036854775807):PCall prog 134 [.d (.sl 3 (rowsA l)),askA a] (.d (i64 (idxS (eqAsk a) l))):=by
 refine Zdy (n:=100) (u:=false) (fun _=>wlIx) mixed Zal Zah (fun Ev=>BWw9) func134 (by rfl) (by rfl) fun Ev bb=> ?_
 rw [BSz9,AAx9]
 exact ⟨l,a,_,rfl,rfl,rfl,⟨hl,rfl⟩,fun i h=>by rw [h],fun i h=>rfl⟩
def CBf9 (args:List AV) (K:AV→Prop):Prop:=∃(l:List AskT) (a:AskT) (q:Int),args= [.d (.sl 3 (rowsA l)),askA a]∧(l.length≤9223372036854775807∧q=idxS (eqAsk a) l)∧K (.d (i64 q))
theorem BMg9:∀args K,CBf9 args K→∃x,PCall prog 134 args x∧K x:=by
 rintro _ K ⟨l,a,_,rfl,⟨hl,rfl⟩,hk⟩;exact ⟨_,BZe9 l a hl,hk⟩
def TIdx:List (Nat×(List AV→(AV→Prop)→Prop)):= [(134,CBf9)]
theorem CCe9:AAb9 prog TIdx:=Zai BMg9 Zal
theorem AZe9 (l:List AskT) (a:AskT):wpFn prog ⟨TIdx, [],wl,y,false⟩ 100 f100 [.d (.sl 3 (rowsA l)),askA a] b R=(∃(l0:List AskT) (a1:AskT) (q2:Int), [Zab (Zaf 3 (rowsA l)),Zao (Qz13 a)]= [Zab (Zaf 3 (rowsA l0)),Zao (Qz13 a1)]∧(Zaa l0≤9223372036854775807∧q2=idxS (eqAsk a1) l0)∧R (.d (bo (decide (q2≥(0:Int))))) b):=by kernel_rfl
theorem BDg9 (l:List AskT) (a:AskT) (hl:l.length≤9223372036854775807):PCall prog 100 [.d (.sl 3 (rowsA l)),askA a] (.d (bo (l.any (eqAsk a)))):=by
 refine Zbe (n:=100) (u:=false) mixed CCe9 Zah func100 (by rfl) (by rfl) fun Ev bb=> ?_
 rw [AZe9]
 exact ⟨l,a,_,rfl,⟨hl,rfl⟩,by rw [AFo9]⟩
def AWu9 (args:List AV) (K:AV→Prop):Prop:=∃(l:List AskT) (a:AskT) (q:Bool),args= [.d (.sl 3 (rowsA l)),askA a]∧(l.length≤9223372036854775807∧q=l.any (eqAsk a))∧K (.d (bo q))
theorem AUo9:∀args K,AWu9 args K→∃x,PCall prog 100 args x∧K x:=by
 rintro _ K ⟨l,a,_,rfl,⟨hl,rfl⟩,hk⟩;exact ⟨_,BDg9 l a hl,hk⟩
def TTl:List (Nat×(List AV→(AV→Prop)→Prop)):= [(98,AWw9),(100,AWu9)]
theorem CEm9:AAb9 prog TTl:=Zai AUq9 (Zai AUo9 Zal)
theorem BQv9 (s:SideT) (n:NearT) (sl of:Int):wpFn prog ⟨TTl, [],wl,y,false⟩ 100 f50 [.rptr (sideD s),nearA n,cellA sl of] b R=(∃(l0:List UseT) (sl1:Int) (of2:Int) (s3:SideT) (q4:Bool), [Zab (Zaf 4 (rowsU (NearT.us n))),Zat (Fn.func 99) [] (Qz22 sl of s)]= [Zab (Zaf 4 (rowsU l0)),Zat (Fn.func 99) [] (Qz22 sl1 of2 s3)]∧(Zaa l0≤9223372036854775807∧q4=Zed l0 fun (x5:UseT)=>UseT.sl x5==sl1&&UseT.of x5==of2&&UseT.pe x5==SideT.me s3)∧BIf q4 (R (.d (bo true)) b) (∃(l6:List AskT) (a7:AskT) (q8:Bool), [Zab (Zaf 3 (rowsA (NearT.ak n))),Zao [Zab (i64 sl),Zab (i64 of),Zab (i64 (SideT.me s))]]= [Zab (Zaf 3 (rowsA l6)),Zao (Qz13 a7)]∧(Zaa l6≤9223372036854775807∧q8=Zed l6 (eqAsk a7))∧R (.d (bo q8)) b)):=by kernel_rfl
def AKo9 (s:SideT) (n:NearT) (sl of:Int):Bool:=(n.us.any fun x=>(x.sl==sl&&x.of==of)&&x.pe==s.me)||n.ak.any (eqAsk ⟨sl,of,s.me⟩)
theorem BZb9 (s:SideT) (n:NearT) (sl of:Int) (h1:n.us.length≤9223372036854775807) (h2:n.ak.length≤9223372036854775807):PCall prog 50 [.rptr (sideD s),nearA n,cellA sl of] (.d (bo (AKo9 s n sl of))):=by
 refine Zbe (n:=100) (u:=false) mixed CEm9 Zah func50 (by rfl) (by rfl) fun Ev bb=> ?_
 rw [BQv9]
 refine ⟨n.us,sl,of,s,_,rfl,⟨h1,rfl⟩,Zbh (fun h=> ?_) fun h=> ?_⟩
 · rw [show AKo9 s n sl of=true by simp [AKo9,h]]
 · refine ⟨n.ak,⟨sl,of,s.me⟩,_,rfl,⟨h2,rfl⟩, ?_⟩
   rw [show AKo9 s n sl of=n.ak.any (eqAsk ⟨sl,of,s.me⟩) by simp [AKo9,h]]
def CBa9 (args:List AV) (K:AV→Prop):Prop:=∃(s:SideT) (n:NearT) (sl of:Int) (q:Bool),args= [.rptr (sideD s),nearA n,cellA sl of]∧((n.us.length≤9223372036854775807∧n.ak.length≤9223372036854775807)∧q=AKo9 s n sl of)∧K (.d (bo q))
theorem BMb9:∀args K,CBa9 args K→∃x,PCall prog 50 args x∧K x:=by
 rintro _ K ⟨s,n,sl,of,_,rfl,⟨⟨h1,h2⟩,rfl⟩,hk⟩;exact ⟨_,BZb9 s n sl of h1 h2,hk⟩
end Go.Proofs.YthcbbmnjikhihaaGreat.Am
