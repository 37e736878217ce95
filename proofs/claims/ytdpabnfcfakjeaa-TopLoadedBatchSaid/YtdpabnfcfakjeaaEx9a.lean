/-
 The executor's composite values and built-in functions; all operations that leave memory alone, together.
-/
import Derived.Test.YtdpabnfcfakjeaaEx7a
namespace Go.Ex
open Go Go.RowKit
open Nat (beq)
noncomputable section
def tV:Sv->Option (List Sc)
 | .one c=>some [c]
 | .agg l=>some l
 | _=>none
theorem bK.one {z:Nat->Nat->Option Value} : ∀ {d:FD} {v:Value},bK z d v->v.cells = #[v]/\v.oneCell'=true
 | .bool _,_,h=>by cases h;exact ⟨rfl,rfl⟩
 | .int _ _,_,h=>by cases h;exact ⟨rfl,rfl⟩
 | .str _,_,h=>by cases h;exact ⟨rfl,rfl⟩
 | .list _ _ _,_,h=>by obtain ⟨a,c,rfl,_⟩:=h;exact ⟨rfl,rfl⟩
theorem Sc.den_cells {η:Env} {E:Emb} {c:Sc} {v:Value} (h:c.den η E=some v):v.cells = #[v]/\v.oneCell'=true:=by
 cases c with
 | ptr a=>cases a with
  | none=>cases h;exact ⟨rfl,rfl⟩
  | some a=>
   simp only [Sc.den,Option.map_eq_some_iff] at h;obtain ⟨x,_,rfl⟩:=h;exact ⟨rfl,rfl⟩
 | slice a n c=>
  cases a with
  | none=>cases c<;>simp only [Sc.den] at h<;>first | (cases h;exact ⟨rfl,rfl⟩) | cases h
  | some a=>
   obtain ⟨b,o⟩:=a;obtain ⟨B,K,m,_,rfl,_⟩:=fH (η:=η) (E:=E) (b:=b) (o:=o) (n:=n) (c:=c) (va:=v) h;exact ⟨rfl,rfl⟩
 | map r=>cases r with
  | none=>cases h;exact ⟨rfl,rfl⟩
  | some b=>
   simp only [Sc.den,Option.map_eq_some_iff] at h;obtain ⟨x,_,rfl⟩:=h;exact ⟨rfl,rfl⟩
 | fn f caps=>
  simp only [Sc.den,Option.map_eq_some_iff] at h;obtain ⟨x,_,rfl⟩:=h;exact ⟨rfl,rfl⟩
 | asl b n c=>
  simp only [Sc.den,Option.map_eq_some_iff] at h;obtain ⟨x,_,rfl⟩:=h;exact ⟨rfl,rfl⟩
 | aptr b o=>
  simp only [Sc.den,Option.map_eq_some_iff] at h;obtain ⟨x,_,rfl⟩:=h;exact ⟨rfl,rfl⟩
 | fz r d=>exact bK.one (aP.1 h).2
 | fptr r cs n f i j=>
  obtain ⟨B,o,c,_,_,_,rfl⟩:=dN.1 h;exact ⟨rfl,rfl⟩
 | own b n=>
  simp only [Sc.den] at h;split at h
  ·split at h
   ·cases h;exact ⟨rfl,rfl⟩
   ·cases h
  ·cases h
 | rptr b sz i j=>
  simp only [Sc.den,Option.map_eq_some_iff] at h;obtain ⟨x,_,rfl⟩:=h;exact ⟨rfl,rfl⟩
 | mown b q i n=>
  simp only [Sc.den] at h;split at h
  ·split at h
   ·cases h;exact ⟨rfl,rfl⟩
   ·cases h
  ·cases h
 | mptr b q i j=>
  simp only [Sc.den,Option.map_eq_some_iff] at h;obtain ⟨x,_,rfl⟩:=h;exact ⟨rfl,rfl⟩
 | _=>cases h;exact ⟨rfl,rfl⟩
theorem tW {η:Env} {E:Emb} {x:Sv} {l:List Sc} {va:Value} (h:tV x=some l) (hx:x.den η E=some va):aQ η E l=some va.cells.toList:=by
 cases x with
 | one c=>
  cases h
  simp only [Sv.den] at hx;rw [(Sc.den_cells hx).1];simp [aQ,hx]
 | agg l'=>cases h;obtain ⟨vs,h1,rfl⟩:=gV hx;simpa [Value.cells] using h1
 | tup l'=>cases h
 | undef=>cases h
def eQ {α:Type}:List α->Nat->List α->List α
 | l,_,[]=>l
 | l,o,c::cs=>eQ (l.set o c) (o+1) cs
theorem jN {α:Type} : ∀ (cs l:List α) (o:Nat),(eQ l o cs).length=l.length
 | [],l,o=>rfl
 | c::cs,l,o=>by simp [eQ,jN cs]
theorem NC {η:Env} {E:Emb} : ∀ {l:List Sc} {vs:List Value} {o:Nat} {c:Sc} {v:Value},aQ η E l=some vs->c.den η E=some v->aQ η E (l.set o c)=some (vs.set o v)
 | [],vs,o,c,v,h,_=>by cases h;rfl
 | d::l,vs,0,c,v,h,hc=>by
  obtain ⟨u,us,_,h2,rfl⟩:=aR h;simp [aQ,hc,h2]
 | d::l,vs,o+1,c,v,h,hc=>by
  obtain ⟨u,us,h1,h2,rfl⟩:=aR h;simp [aQ,h1,NC h2 hc]
theorem mE {η:Env} {E:Emb} : ∀ (cs:List Sc) {l:List Sc} {vs us:List Value} {o:Nat},aQ η E l=some vs->aQ η E cs=some us->aQ η E (eQ l o cs)=some (eQ vs o us)
 | [],l,vs,us,o,h,hc=>by cases hc;exact h
 | c::cs,l,vs,us,o,h,hc=>by
  obtain ⟨u,us',h1,h2,rfl⟩:=aR hc;exact mE cs (NC h h1) h2
theorem vN : ∀ (us:List Value) (k off:Nat) (vs:List Value),
  (us.zipIdx k).foldl (fun cs (x:Value × Nat)=>cs.setIfInBounds (off+x.2) x.1) vs.toArray=(eQ vs (off+k) us).toArray
 | [],k,off,vs=>rfl
 | u::us,k,off,vs=>by
  simp only [List.zipIdx_cons,List.foldl_cons,eQ];rw [List.setIfInBounds_toArray,vN us (k+1) off (vs.set (off+k) u)];rfl
def AH (H:Nat->Option (Nat × Nat)):List Sc->List (Nat × Sv)->Option (List Sc)
 | cells,[]=>some cells
 | cells,(i,v)::rest=>match H i,tV v with
  | some (off,size),some cs=>bif beq cs.length size&&Nat.ble (off+size) cells.length then AH H (eQ cells off cs) rest else none
  | _,_=>none
def p7 (η:Env)(E:Emb):List (Nat × Sv)->List (Nat × Value)->Prop
 | [],[]=>True
 | (i,s)::l,(j,v)::m=>i=j/\s.den η E=some v/\p7 η E l m
 | _,_=>False
theorem r9 {η:Env} {E:Emb} {H:Nat->Option (Nat × Nat)} : ∀ (ps:List (Nat × Sv)) (qs:List (Nat × Value)) (cells out:List Sc) (vs:List Value),AH H cells ps=some out->p7 η E ps qs->aQ η E cells=some vs->
  ∃ us,aQ η E out=some us/\Instr.fill H vs.toArray qs=some us.toArray
 | [],[],cells,out,vs,h,_,hv=>by cases h;exact ⟨vs,hv,rfl⟩
 | [],_::_,_,_,_,_,hr,_=>hr.elim
 | (i,s)::ps,[],_,_,_,_,hr,_=>hr.elim
 | (i,s)::ps,(j,v)::qs,cells,out,vs,h,hr,hv=>by
  obtain ⟨rfl,hs,hr'⟩:=hr;simp only [AH] at h;split at h
  ·rename_i off size cs hp hcs
   cases hc:(beq cs.length size&&Nat.ble (off+size) cells.length) with
   | false=>rw [hc] at h;cases h
   | true=>
    rw [hc] at h;obtain ⟨c1,c2⟩:=bR hc
    have c1:=Nat.eq_of_beq_eq_true c1
    have c2:=Nat.le_of_ble_eq_true c2
    have hcd:=tW hcs hs
    have hlen:=bC hcd
    have hlen2:=bC hv
    have hset:=mE cs (o:=off) hv hcd
    obtain ⟨us,h1,h2⟩:=r9 ps qs _ out _ h hr' hset;refine ⟨us,h1,?_⟩;rw [Instr.fill];simp only [hp]
    have hsz:v.cells.size=size:=by rw [←Array.length_toList,hlen,c1]
    have hno : ¬ (v.cells.size≠size∨off+v.cells.size>vs.toArray.size):=by
     simp only [hsz,ne_eq,not_true_eq_false,false_or,List.size_toArray,hlen2];omega
    have hf:Array.foldl (fun cs (x:Value × Nat)=>cs.setIfInBounds (off+x.2) x.1) vs.toArray v.cells.zipIdx=(eQ vs off v.cells.toList).toArray:=by
     rw [←Array.foldl_toList,Array.toList_zipIdx];exact vN _ 0 off vs
    simp only [Bool.or_eq_true,decide_eq_true_eq,if_neg hno];rw [hf];exact h2
  ·cases h
def BI (C:Cx):List Field->Option (List (Nat × Nat))
 | []=>some []
 | f::fs=>match C.tt.get f.type,BI C fs with
  | some ti,some r=>some ((f.offset,ti.size)::r)
  | _,_=>none
theorem DH {C:Cx} {P:Program} {η:Env} (hC:C.Ok P η) : ∀ {fs:List Field} {r},BI C fs=some r->fs.mapM (fun f=>(P.info? f.type).map fun i=>(f.offset,i.size))=some r
 | [],r,h=>by cases h;rfl
 | f::fs,r,h=>by
  simp only [BI] at h;split at h
  ·rename_i ti r' hti hr
   cases h
   obtain ⟨i,z,h1,h2,_⟩:=(hC.tt f.type ti hti).inf;simp [List.mapM_cons,h1,h2,DH hC hr]
  ·cases h
def QS (C:Cx)(t:TypeId) (G:List (Nat × Sv)):Option Sv:=
 match C.tt.get t with
 | some ti=>match ti.d with
  | .struct fs=>match BI C fs.toList with
   | some pl=>(AH (nth pl) ti.zero G).map .agg
   | none=>none
  | .array _ e=>match C.tt.get e with
   | some ei=>(AH (fun i=>some (i*ei.size,ei.size)) ti.zero G).map .agg
   | none=>none
  | _=>none
 | none=>none
theorem QT {C:Cx} {P:Program} {η:Env} {E:Emb} (hC:C.Ok P η) {t:TypeId} {G:List (Nat × Sv)} {qs:Array (Nat × Value)} {sv:Sv} (h:QS C t G=some sv) (hr:p7 η E G qs.toList):
  ∃ v,sv.den η E=some v /\ ∀ w,(Instr.build t qs).run P w = .ok v w:=by
 unfold QS at h;split at h
 ·rename_i ti hti
  have hT:=hC.tt t ti hti
  have hu:=hT.und
  obtain ⟨i,z,h1,h2,h3,h4,h5,_⟩:=hT.inf;split at h
  ·rename_i fs hd;rw [hd] at hu;split at h
   ·rename_i pl hpl;simp only [Option.map_eq_some_iff] at h;obtain ⟨out,ho,rfl⟩:=h;obtain ⟨us,g1,g2⟩:=r9 G qs.toList ti.zero out _ ho hr (h5 η E);refine ⟨.agg us.toArray,by simp [Sv.den,g1],fun w=>run_build w t qs us.toArray ?_⟩
    have hpl':=DH hC hpl
    have e:(fun x=>(pl.toArray[x]? : Option (Nat × Nat)))=nth pl:=funext fun x=>by rw [cD];simp
    simp only [Program.built,h1,hu,h4,hpl',e]
    simpa using g2
   ·cases h
  ·rename_i n e hd;rw [hd] at hu;split at h
   ·rename_i ei hei;simp only [Option.map_eq_some_iff] at h;obtain ⟨out,ho,rfl⟩:=h;obtain ⟨us,g1,g2⟩:=r9 G qs.toList ti.zero out _ ho hr (h5 η E);refine ⟨.agg us.toArray,by simp [Sv.den,g1],fun w=>run_build w t qs us.toArray ?_⟩
    obtain ⟨i',z',k1,k2,_⟩:=(hC.tt e ei hei).inf;simp only [Program.built,h1,hu,h4,k1,k2]
    simpa using g2
   ·cases h
  ·cases h
 ·cases h
def DI (x:Sv)(i:Nat):Option Sv:=
 match x with
 | .tup l=>match nth l i with
  | some (true,l)=>some (.agg l)
  | some (false,[c])=>some (.one c)
  | _=>none
 | _=>none
theorem oP {η:Env} {E:Emb} : ∀ {l:List (Bool × List Sc)} {vs:List Value} {i:Nat} {p},aN η E l=some vs->l[i]? = some p -> ∃ v,bL η E p=some v/\vs[i]? = some v
 | [],vs,i,p,_,hp=>by simp at hp
 | q::l,vs,i,p,h,hp=>by
  simp only [aN] at h
  cases h1:bL η E q with
  | none=>simp [h1] at h
  | some v=>
   cases h2:aN η E l with
   | none=>simp [h1,h2] at h
   | some us=>
    simp [h1,h2] at h;subst h
    cases i with
    | zero=>simp at hp;subst hp;exact ⟨v,h1,rfl⟩
    | succ i=>simp at hp;simpa using oP h2 hp
theorem vO {P:Program} {η:Env} {E:Emb} {x sv:Sv} {i:Nat} {va:Value} (h:DI x i=some sv) (hx:x.den η E=some va) : ∃ v,sv.den η E=some v /\ ∀ w,(Instr.extract va i).run P w = .ok v w:=by
 unfold DI at h;split at h
 ·rename_i l;simp only [Sv.den,Option.map_eq_some_iff] at hx;obtain ⟨vs,hvs,rfl⟩:=hx;split at h
  ·rename_i l' hn
   cases h
   rw [cD] at hn;obtain ⟨v,h1,h2⟩:=oP hvs hn;exact ⟨v,h1,fun w=>by simp [Instr.extract,h2]⟩
  ·rename_i c hn
   cases h
   rw [cD] at hn;obtain ⟨v,h1,h2⟩:=oP hvs hn;exact ⟨v,h1,fun w=>by simp [Instr.extract,h2]⟩
  ·cases h
 ·cases h
def QU (x y:Ix):Option (Int × Int):=
 match x,y with
 | .tm a,.tm b=>some (a,b)
 | .tm a,.lit b=>some (a,b)
 | .lit a,.tm b=>some (a,b)
 | _,_=>none
theorem ND {x y:Ix} {a b:Int} (h:QU x y=some (a,b)):jB x=some a/\jB y=some b:=by
 unfold QU at h;split at h<;>first | (cases h;exact ⟨rfl,rfl⟩) | cases h
def aas (C:Cx)(gt:Bool)(k:IntKind)(x y:Ix)(pc:PC):aB (Sv × PC):=
 match QU x y with
 | some (a,b) => .leaf (.one (.int k (.tm (match gt with | true=>if a<b then b else a | false=>if b<a then b else a))),pc)
 | none=>match x,y,gt,k with
 | .poly p,.poly q,true,.i64=>match MY p q with
  | [] => .leaf (.one (.int .i64 (.abs p)),pc)
  | _ => .fail
 | x,y,true,k=>(ltX C.D k x y pc).bind fun r=>dP C.D r.2 r.1 fun b pc => .leaf (.one (.int k (bif b then y else x)),pc)
 | x,y,false,k=>(ltX C.D k y x pc).bind fun r=>dP C.D r.2 r.1 fun b pc => .leaf (.one (.int k (bif b then y else x)),pc)
def DJ (C:Cx)(hp:T Blk)(b:Builtin)(ts:List TypeId)(args:List Sv)(pc:PC):aB (Sv × PC):=
 match b,args with
 | .real,[.one (.cpx k a _)] => .leaf (.one (.flt k a),pc)
 | .imag,[.one (.cpx k _ b)] => .leaf (.one (.flt k b),pc)
 | .complex,[.one (.flt k a),.one (.flt k' b)]=>bif decide (k=k') then .leaf (.one (.cpx k a b),pc) else .fail
 | .max,[.one (.int k x),.one (.int k' y)]=>bif decide (k=k') then aas C true k x y pc else .fail
 | .min,[.one (.int k x),.one (.int k' y)]=>bif decide (k=k') then aas C false k x y pc else .fail
 | .len,[x]=>match ts with
  | [t]=>match C.tt.get t with
   | some ti=>match ti.d,x with
    | .string,.one (.ostr l) => .leaf (.one (.int .i64 (.tm (.ofNat l.length))),pc)
    | .slice _,.one (.fz _ (.list _ n _)) => .leaf (.one (.int .i64 (.tm (.ofNat n))),pc)
    | .slice _,.one (.own _ n) => .leaf (.one (.int .i64 (.tm (.ofNat n))),pc)
    | .string,.one (.str l) => .leaf (.one (.int .i64 (.lit (.ofNat l.length))),pc)
    | .array n _,_ => .leaf (.one (.int .i64 (.lit (.ofNat n))),pc)
    | .slice _,.one (.slice none n (.known _)) => .leaf (.one (.int .i64 (.lit (.ofNat n))),pc)
    | .slice _,.one (.slice (some _) n _) => .leaf (.one (.int .i64 (.lit (.ofNat n))),pc)
    | .slice _,.one (.asl _ (.lit (.ofNat n)) _) => .leaf (.one (.int .i64 (.lit (.ofNat n))),pc)
    | .slice _,.one (.asl _ (.poly p) _)=>match C.D.dec pc (.pos (G9 p)) with
     | some false=>bif C.D.fits pc p then .leaf (.one (.int .i64 (.poly p)),pc) else .fail
     | _ => .fail
    | .map _ _,.one (.map none) => .leaf (.one (.int .i64 (.lit 0)),pc)
    | _,_ => .fail
   | none => .fail
  | _ => .fail
 | _,_ => .fail
theorem aI {η:Env} {E:Emb} {c:Sv} {l:List Sv} {r:List Value} (h:aD η E (c::l)=some r) : ∃ v vs,c.den η E=some v/\aD η E l=some vs/\r=v::vs:=by
 simp only [aD] at h
 cases h1:c.den η E with
 | none=>simp [h1] at h
 | some v=>
  cases h2:aD η E l with
  | none=>simp [h1,h2] at h
  | some vs=>simp [h1,h2] at h;exact ⟨v,vs,rfl,rfl,h.symm⟩
theorem iD {η:Env} {E:Emb} {r:List Value} (h:aD η E []=some r):r=[]:=by cases h;rfl
theorem NE {C:Cx} {P:Program} {η:Env} {E:Emb} (hC:C.Ok P η) {gt:Bool} {k:IntKind} {x y:Ix} {pc pc':PC} {sv:Sv} (F:pc.holds η) (h:(aas C gt k x y pc).at_ η=some (sv,pc')):
  pc'.holds η/\sv.den η E=some (.int k (if gt then (if y.den η>x.den η then y.den η else x.den η) else (if y.den η<x.den η then y.den η else x.den η))):=by
 unfold aas at h;split at h
 ·rename_i a b hab;obtain ⟨ha,hb⟩:=ND hab;simp only [aB.at_,Option.some.injEq,Prod.mk.injEq] at h;obtain ⟨rfl,rfl⟩:=h;refine ⟨F,?_⟩;rw [cS ha,cS hb]
  cases gt<;>rfl
 split at h
 ·rename_i p q _;split at h
  ·rename_i hpq;simp only [aB.at_,Option.some.injEq,Prod.mk.injEq] at h;obtain ⟨rfl,rfl⟩:=h;refine ⟨F,?_⟩
   have e:=rY η.i p q
   rw [hpq] at e;simp only [evP] at e
   have e':evP η.i q = -(evP η.i p):=by omega
   simp [Sv.den,Sc.den,Ix.den,e']
  ·cases h
 ·obtain ⟨⟨b,pc1⟩,h1,h2⟩:=aB.at_bind h;obtain ⟨h3,h4⟩:=r8 hC.D F h1;obtain ⟨pc2,hp2,h5⟩:=bN hC.D h4 h2;simp only [aB.at_,Option.some.injEq,Prod.mk.injEq] at h5;obtain ⟨rfl,rfl⟩:=h5;refine ⟨hp2,?_⟩;rw [h3]
  by_cases hc:x.den η<y.den η<;>simp [Sv.den,Sc.den,hc]
 ·obtain ⟨⟨b,pc1⟩,h1,h2⟩:=aB.at_bind h;obtain ⟨h3,h4⟩:=r8 hC.D F h1;obtain ⟨pc2,hp2,h5⟩:=bN hC.D h4 h2;simp only [aB.at_,Option.some.injEq,Prod.mk.injEq] at h5;obtain ⟨rfl,rfl⟩:=h5;refine ⟨hp2,?_⟩;rw [h3]
  by_cases hc:y.den η<x.den η<;>simp [Sv.den,Sc.den,hc]
theorem iQ {η:Env} {E:Emb} {b n:Nat} {va:Value} (h:(Sv.one (.own b n)).den η E=some va) : ∃ B K,E b=some (B,K)/\va = .slice (some ⟨B,0,none⟩) n K/\n<=K:=by
 simp only [Sv.den,Sc.den] at h;split at h
 ·rename_i x hE;split at h
  ·rename_i hle
   cases h
   exact ⟨x.1,x.2,hE,rfl,hle⟩
  ·cases h
 ·cases h
theorem JZ {η:Env} {E:Emb} {b n B K:Nat} (h:E b=some (B,K)) (hn:n<=K):(Sv.one (.own b n)).den η E=some (.slice (some ⟨B,0,none⟩) n K):=by
 simp [Sv.den,Sc.den,h,hn]
theorem vP {η:Env} {E:Emb} {b sz i j:Nat} {va:Value} (h:(Sv.one (.rptr b sz i j)).den η E=some va) : ∃ B K,E b=some (B,K)/\va = .pointer (some ⟨B,i*sz+j,none⟩):=by
 simp only [Sv.den,Sc.den,Option.map_eq_some_iff] at h;obtain ⟨⟨B,K⟩,h1,rfl⟩:=h;exact ⟨B,K,h1,rfl⟩
theorem TD {η:Env} {E:Emb} {b sz i j B K:Nat} (h:E b=some (B,K)):(Sv.one (.rptr b sz i j)).den η E=some (.pointer (some ⟨B,i*sz+j,none⟩)):=by
 simp [Sv.den,Sc.den,h]
theorem J0 {C:Cx} {P:Program} {η:Env} {E:Emb} (hC:C.Ok P η) {hp:T Blk} {nx lo base:Nat} {w:World} (hH:aF η E hp nx lo base w) {b:Builtin} {ts:Array TypeId} {args:List Sv} {vs:List Value} {pc pc':PC} {sv:Sv}
  (F:pc.holds η) (h:(DJ C hp b ts.toList args pc).at_ η=some (sv,pc')) (ha:aD η E args=some vs) (ty:TypeId) (cs:Array Bool):
  pc'.holds η /\ ∃ v,sv.den η E=some v/\(builtin b ts ty cs vs.toArray).run P w = .ok (.value v) w:=by
 unfold DJ at h;split at h
 ·obtain ⟨v,us,h1,h2,rfl⟩:=aI ha
  cases iD h2;cases h1
  simp only [aB.at_,Option.some.injEq,Prod.mk.injEq] at h;obtain ⟨rfl,rfl⟩:=h;exact ⟨F,_,rfl,rfl⟩
 ·obtain ⟨v,us,h1,h2,rfl⟩:=aI ha
  cases iD h2;cases h1
  simp only [aB.at_,Option.some.injEq,Prod.mk.injEq] at h;obtain ⟨rfl,rfl⟩:=h;exact ⟨F,_,rfl,rfl⟩
 ·rename_i k a k' b';obtain ⟨v,us,h1,h2,rfl⟩:=aI ha;obtain ⟨u,us',h3,h4,rfl⟩:=aI h2
  cases iD h4;cases h1;cases h3
  by_cases hk:k=k'
  ·subst hk;simp only [decide_true,cond_true,aB.at_,Option.some.injEq,Prod.mk.injEq] at h;obtain ⟨rfl,rfl⟩:=h;refine ⟨F,_,rfl,?_⟩;obtain ⟨msg,e⟩ : ∃ msg,Builtin.complex_ ts ty #[.float k (a.den η),.float k (b'.den η)]=(if k=k then pure (.complex k (a.den η) (b'.den η)) else stuck msg:Sem Value):=⟨_,rfl⟩
   simp only [builtin,e,if_true];rfl
  ·simp [hk,aB.at_] at h
 ·rename_i k x k' y;obtain ⟨v,us,h1,h2,rfl⟩:=aI ha;obtain ⟨u,us',h3,h4,rfl⟩:=aI h2
  cases iD h4;cases h1;cases h3
  by_cases hk:k=k'
  ·subst hk;simp only [decide_true,cond_true] at h;obtain ⟨g1,g2⟩:=NE (E:=E) hC F h;exact ⟨g1,_,g2,by simp [builtin,Builtin.max_,Builtin.max2]⟩
  ·simp [hk,aB.at_] at h
 ·rename_i k x k' y;obtain ⟨v,us,h1,h2,rfl⟩:=aI ha;obtain ⟨u,us',h3,h4,rfl⟩:=aI h2
  cases iD h4;cases h1;cases h3
  by_cases hk:k=k'
  ·subst hk;simp only [decide_true,cond_true] at h;obtain ⟨g1,g2⟩:=NE (E:=E) hC F h;exact ⟨g1,_,g2,by simp [builtin,Builtin.min_,Builtin.min2]⟩
  ·simp [hk,aB.at_] at h
 ·rename_i x;obtain ⟨v,us,h1,h2,rfl⟩:=aI ha
  cases iD h2
  split at h
  ·rename_i t hts
   have et:ts = #[t]:=by cases ts;simp at hts;simp [hts]
   subst et;split at h
   ·rename_i ti hti
    have hu:=(hC.tt t ti hti).und
    split at h
    ·rename_i l hd;rw [hd] at hu
     cases h1
     simp only [aB.at_,Option.some.injEq,Prod.mk.injEq] at h;obtain ⟨rfl,rfl⟩:=h;exact ⟨F,_,rfl,by
      have es:(⟨l.toArray⟩:ByteArray).size=l.length:=List.size_toArray ..
      simp [builtin,Builtin.len_,run_underlying hu,goInt,es,Ix.den]⟩
    ·rename_i e r cs n f hd;rw [hd] at hu;obtain ⟨_,a,c,rfl,_⟩:=aP.1 h1;simp only [aB.at_,Option.some.injEq,Prod.mk.injEq] at h;obtain ⟨rfl,rfl⟩:=h;exact ⟨F,_,rfl,by simp [builtin,Builtin.len_,run_underlying hu,goInt,Ix.den]⟩
    ·rename_i e b' n hd;rw [hd] at hu;obtain ⟨B,K,_,rfl,_⟩:=iQ h1;simp only [aB.at_,Option.some.injEq,Prod.mk.injEq] at h;obtain ⟨rfl,rfl⟩:=h;exact ⟨F,_,rfl,by simp [builtin,Builtin.len_,run_underlying hu,goInt,Ix.den]⟩
    ·rename_i l hd;rw [hd] at hu
     cases h1
     simp only [aB.at_,Option.some.injEq,Prod.mk.injEq] at h;obtain ⟨rfl,rfl⟩:=h;exact ⟨F,_,rfl,by
      have es:(⟨l.toArray⟩:ByteArray).size=l.length:=List.size_toArray ..
      simp [builtin,Builtin.len_,run_underlying hu,goInt,es,Ix.den]⟩
    ·rename_i hd;rw [hd] at hu;simp only [aB.at_,Option.some.injEq,Prod.mk.injEq] at h;obtain ⟨rfl,rfl⟩:=h;exact ⟨F,_,rfl,by cases v<;>simp [builtin,Builtin.len_,run_underlying hu,goInt,Ix.den]⟩
    ·rename_i hd;rw [hd] at hu
     cases h1
     simp only [aB.at_,Option.some.injEq,Prod.mk.injEq] at h;obtain ⟨rfl,rfl⟩:=h;exact ⟨F,_,rfl,by simp [builtin,Builtin.len_,run_underlying hu,goInt,Ix.den]⟩
    ·rename_i a n c hd;rw [hd] at hu;obtain ⟨b',o⟩:=a;obtain ⟨B,K,m,_,rfl,_⟩:=fH h1;simp only [aB.at_,Option.some.injEq,Prod.mk.injEq] at h;obtain ⟨rfl,rfl⟩:=h;exact ⟨F,_,rfl,by simp [builtin,Builtin.len_,run_underlying hu,goInt,Ix.den]⟩
    ·rename_i b' n c hd;rw [hd] at hu;obtain ⟨B,K,_,rfl⟩:=JX h1;simp only [aB.at_,Option.some.injEq,Prod.mk.injEq] at h;obtain ⟨rfl,rfl⟩:=h;exact ⟨F,_,rfl,by simp [builtin,Builtin.len_,run_underlying hu,goInt,Ix.den]⟩
    ·rename_i b' q c hd;rw [hd] at hu;obtain ⟨B,K,_,rfl⟩:=JX h1;split at h
     ·rename_i hdec
      cases hf:C.D.fits pc q with
      | false=>rw [hf] at h;cases h
      | true=>
       rw [hf] at h;simp only [cond_true,aB.at_,Option.some.injEq,Prod.mk.injEq] at h;obtain ⟨rfl,rfl⟩:=h
       have h1:=hC.D.dec pc _ _ hdec F
       have h2:=hC.D.fits pc q hf F
       simp only [fK.den,lI] at h1
       have h1:=of_decide_eq_false h1
       have e:((Ix.poly q).den η).toNat=(Ix.poly q).den η:=by
        simp only [Ix.den,h2];omega
       exact ⟨F,_,rfl,by simp [builtin,Builtin.len_,run_underlying hu,goInt];omega⟩
     ·cases h
    ·rename_i hd;rw [hd] at hu
     cases h1
     simp only [aB.at_,Option.some.injEq,Prod.mk.injEq] at h;obtain ⟨rfl,rfl⟩:=h;exact ⟨F,_,rfl,by simp [builtin,Builtin.len_,run_underlying hu,goInt,Ix.den]⟩
    ·cases h
   ·cases h
  ·cases h
 ·cases h
end
end Go.Ex
namespace Go.Ex
open Go Go.RowKit
open Nat (beq)
noncomputable section
def dD (r:Ref)(s:Sh)(d:FD):Sc:=
 match s with
 | .bool => .bool (tb d.b)
 | .int k => .int k (.tm d.i)
 | .str => .ostr d.s
 | .list cs => .fz r (.list cs d.ln d.fn)
theorem nK {η:Env} {E:Emb} {r:Ref} {s:Sh} {d:FD} {v:Value} (hs:s.ex d=d) (hr:bK E.z d v) (hv:r.val E=some v):(dD r s d).den η E=some v:=by
 cases s with
 | bool=>
  rw [←hs] at hr;simp only [Sh.ex,bK] at hr;subst hr;simp [dD,Sc.den,d7]
 | int k=>
  rw [←hs] at hr;simp only [Sh.ex,bK] at hr;subst hr;simp [dD,Sc.den,Ix.den]
 | str=>
  rw [←hs] at hr;simp only [Sh.ex,bK] at hr;subst hr;simp [dD,Sc.den]
 | list cs=>
  rw [←hs] at hr;exact aP.2 ⟨hv,hr⟩
def vQ (r:Ref)(cs:List Sh)(f:Nat->Nat->FD)(i:Nat):Nat->Nat->List Sc
 | 0,_=>[]
 | m+1,j=>dD (.elem r (i*cs.length+j)) (jW cs j) (f i j)::vQ r cs f i m (j+1)
theorem p8 {η:Env} {E:Emb} {r:Ref} {cs:List Sh} {n:Nat} {f:Nat->Nat->FD} {i B o c:Nat} (hr:r.val E=some (.slice (some ⟨B,o,none⟩) n c)) (hd:bK E.z (.list cs n f) (.slice (some ⟨B,o,none⟩) n c)) (hi:i<n):
  ∀ (m j:Nat),j+m<=cs.length -> ∃ vs,aQ η E (vQ r cs f i m j)=some vs/\vs.length=m /\ ∀ k v,vs[k]? = some v->E.z B (o+(i*cs.length+(j+k)))=some v
 | 0,j,_=>⟨[],rfl,rfl,fun k v h=>by simp at h⟩
 | m+1,j,hm=>by
  obtain ⟨vs,h1,h2,h3⟩:=p8 (η:=η) hr hd hi m (j+1) (by omega)
  obtain ⟨a,c',e,_,_,h4⟩:=hd
  cases e
  rcases h4 with h4 | ⟨B',o',ea,h4⟩
  ·omega
  cases ea
  obtain ⟨k1,u,k2,k3⟩:=h4 i hi j (by omega)
  have hval:(Ref.elem r (i*cs.length+j)).val E=some u:=by simp only [Ref.val,hr];exact k2
  refine ⟨u::vs,by simp [vQ,aQ,nK k1 k3 hval,h1],by simp [h2],fun k v hk => ?_⟩
  cases k with
  | zero=>simp at hk;subst hk;exact k2
  | succ k=>
   simp at hk
   have:=h3 k v hk
   rw [show j+1+k=j+(k+1) by omega] at this
   exact this
def DK (C:Cx)(hp:T Blk)(t:TypeId)(x:Sv):Option (Option Bool × Sv):=
 match x with
 | .one (.fptr r cs _ f i j)=>match C.tt.get t with
  | some ti=>bif ti.agg then (bif Nat.ble (j+ti.size) cs.length then some (none,.agg (vQ r cs f i ti.size j)) else none)
    else bif Nat.blt j cs.length then some (none,.one (dD (.elem r (i*cs.length+j)) (jW cs j) (f i j))) else none
  | none=>none
 | .one (.rptr b sz i j)=>match C.tt.get t,hp.get b with
  | some ti,some (.row _ cs n f)=>bif !ti.agg&&beq sz cs.length&&Nat.blt j cs.length then (match jW cs j with
    | .list _=>none
    | s=>some (some (Nat.blt i n),.one (dD (.root 0 0) s (f i j)))) else none
  | some ti,some (.mat q _ _ _ x m _)=>bif !ti.agg&&beq sz 1&&beq j 0 then some (some (Nat.blt i x),.one (.mown b q i m)) else none
  | _,_=>none
 | .one (.mptr b q i j)=>match C.tt.get t,hp.get b with
  | some ti,some (.mat q' _ s _ x m f)=>bif !ti.agg&&beq q q'&&eY s then some (some (Nat.blt i x&&Nat.blt j m),.one (dD (.root 0 0) s (f i j))) else none
  | _,_=>none
 | _=>none
theorem A4 {P:Program} {w:World} {B o:Nat} {vs:List Value} (h : ∀ k v,vs[k]? = some v->w.cell? ⟨B,o+k,none⟩=some v):(loadCells ⟨B,o,none⟩ vs.length).run P w = .ok vs.toArray w:=
 run_loadCells_list (P:=P) w ⟨B,o,none⟩ vs (fun j v hj=>by rw [bM];exact h j v hj)
theorem J1 {C:Cx} {P:Program} {η:Env} {E:Emb} (hC:C.Ok P η) {hp:T Blk} {nx lo base:Nat} {w:World} (hH:aF η E hp nx lo base w) {t:TypeId} {x sv:Sv} {ob:Option Bool} {va:Value}
  (h:DK C hp t x=some (ob,sv)) (hb : ∀ b,ob=some b->b=true) (hx:x.den η E=some va) : ∃ v,sv.den η E=some v/\(Instr.loadAt t va).run P w = .ok v w:=by
 unfold DK at h;split at h
 ·rename_i r cs n f i j;obtain ⟨B,o,c,h1,h2,h3,rfl⟩:=dN.1 hx;split at h
  ·rename_i ti hti
   have hT:=hC.tt t ti hti
   cases ha:ti.agg with
   | true=>
    rw [ha] at h;simp only [cond_true] at h
    cases hle:Nat.ble (j+ti.size) cs.length with
    | false=>rw [hle] at h;cases h
    | true=>
     rw [hle] at h;cases h;obtain ⟨vs,g1,g2,g3⟩:=p8 (η:=η) h1 h2 h3 ti.size j (Nat.le_of_ble_eq_true hle);refine ⟨.agg vs.toArray,by simp [Sv.den,g1],?_⟩
     simp only [Instr.loadAt,Instr.sureAddr,loadVar,Sem.run_bind,Sem.run_pure,Result.andThen_ok,hT.run_agg,ha,if_true,hT.run_size]
     have:=A4 (P:=P) (w:=w) (B:=B) (o:=o+(i*cs.length+j)) (vs:=vs) (fun k v hk=>by
      have:=hH.zw _ _ _ (g3 k v hk)
      rw [show o+(i*cs.length+j)+k=o+(i*cs.length+(j+k)) by omega];exact this)
     rw [g2] at this;rw [this];rfl
   | false=>
    rw [ha] at h;simp only [cond_false] at h
    cases hlt:Nat.blt j cs.length with
    | false=>rw [hlt] at h;cases h
    | true=>
     rw [hlt] at h;cases h;obtain ⟨vs,g1,g2,g3⟩:=p8 (η:=η) h1 h2 h3 1 j (Nat.le_of_ble_eq_true hlt);simp only [vQ] at g1;obtain ⟨v,us,e1,e2,rfl⟩:=aR g1;refine ⟨v,e1,?_⟩
     have:=hH.zw _ _ _ (g3 0 v rfl)
     simp only [Instr.loadAt,Instr.sureAddr,loadVar,Sem.run_bind,Sem.run_pure,Result.andThen_ok,hT.run_agg,ha,Bool.false_eq_true,if_false,run_load];rw [show o+(i*cs.length+j)=o+(i*cs.length+(j+0)) by omega,this]
  ·cases h
 ·rename_i b sz i j;obtain ⟨B,K,hE,rfl⟩:=vP hx;split at h
  ·rename_i ti e cs n f hti hbk
   have hT:=hC.tt t ti hti
   cases hc:(!ti.agg&&beq sz cs.length&&Nat.blt j cs.length) with
   | false=>rw [hc] at h;cases h
   | true=>
    rw [hc] at h;simp only [Bool.and_eq_true] at hc;obtain ⟨⟨ha,hsz⟩,hj⟩:=hc
    have ha:ti.agg=false:=by simpa using ha
    have hsz:=Nat.eq_of_beq_eq_true hsz
    have hj:=Nat.le_of_ble_eq_true hj
    subst hsz;obtain ⟨B',K',hE',c,h1,h2,h3,h4,h5,h6⟩:=hH.cell b _ hbk;rw [hE] at hE';cases hE'
    have fin : ∀ s,jW cs j=s->(∀ l,s ≠ .list l)->some (some (Nat.blt i n),Sv.one (dD (.root 0 0) s (f i j)))=some (ob,sv) -> ∃ v,sv.den η E=some v/\(Instr.loadAt t (.pointer (some ⟨B,i*cs.length+j,none⟩))).run P w = .ok v w:=by
     intro s hs hl h
     cases h
     have hi:=Nat.le_of_ble_eq_true (hb _ rfl)
     obtain ⟨k1,u,k2,k3⟩:=h6 i hi j hj;rw [hs] at k1
     have hd:(dD (.root 0 0) s (f i j)).den η E=some u:=by
      rw [←k1] at k3
      cases s with
      | bool=>simp only [Sh.ex,bK] at k3;subst k3;simp [dD,Sc.den,d7]
      | int k=>simp only [Sh.ex,bK] at k3;subst k3;simp [dD,Sc.den,Ix.den]
      | str=>simp only [Sh.ex,bK] at k3;subst k3;simp [dD,Sc.den]
      | list l=>exact absurd rfl (hl l)
     refine ⟨u,hd,?_⟩;simp only [Instr.loadAt,Instr.sureAddr,loadVar,Sem.run_bind,Sem.run_pure,Result.andThen_ok,hT.run_agg,ha,Bool.false_eq_true,if_false,run_load];rw [cell_of_row w B (i*cs.length+j) c e (0,0) h1,k2]
    simp only [cond_true] at h;split at h
    ·cases h
    ·rename_i hne;exact fin _ rfl (fun l hl=>hne l hl) h
  ·rename_i ti q e s n x m f hti hbk
   have hT:=hC.tt t ti hti
   cases hc:(!ti.agg&&beq sz 1&&beq j 0) with
   | false=>rw [hc] at h;cases h
   | true=>
    rw [hc] at h;simp only [Bool.and_eq_true] at hc;obtain ⟨⟨ha,hsz⟩,hj⟩:=hc
    have ha:ti.agg=false:=by simpa using ha
    have hsz:=Nat.eq_of_beq_eq_true hsz
    have hj:=Nat.eq_of_beq_eq_true hj
    subst hsz;subst hj
    cases h
    have hi:i<x:=Nat.le_of_ble_eq_true (hb _ rfl)
    obtain ⟨B0,K0,c,k1,k2,k3,k4,k5⟩:=hH.mt.row b q e s n x m f hbk;rw [hE] at k1;cases k1;obtain ⟨B',L,l1,l2,c',e',l3,l4,l5,l6,l7⟩:=k4 i hi;refine ⟨.slice (some ⟨B',0,none⟩) m L,?_,?_⟩
    ·show (match E.m q i with
      | some B=>if m<=B.2 then some (Value.slice (some ⟨B.1,0,none⟩) m B.2) else none
      | none=>none)=_
     rw [l1];simp only;rw [if_pos l5]
    ·simp only [Instr.loadAt,Instr.sureAddr,loadVar,Sem.run_bind,Sem.run_pure,Result.andThen_ok,hT.run_agg,ha,Bool.false_eq_true,if_false,run_load];rw [cell_of_row w B (i*1+0) c e (0,0) k2,Nat.mul_one,Nat.add_zero,l2]
  ·cases h
 ·rename_i b q i j
  have hx:(E.m q i).map (fun B=>Value.pointer (some ⟨B.1,j,none⟩))=some va:=hx
  split at h
  ·rename_i ti q' e s n x m f hti hbk
   have hT:=hC.tt t ti hti
   cases hc:(!ti.agg&&beq q q'&&eY s) with
   | false=>rw [hc] at h;cases h
   | true=>
    rw [hc] at h;simp only [Bool.and_eq_true] at hc;obtain ⟨⟨ha,hq⟩,hp'⟩:=hc
    have ha:ti.agg=false:=by simpa using ha
    have hq:=Nat.eq_of_beq_eq_true hq
    subst hq
    cases h
    have hin:=hb _ rfl
    simp only [Bool.and_eq_true] at hin
    have hi:i<x:=Nat.le_of_ble_eq_true hin.1
    have hj:j<m:=Nat.le_of_ble_eq_true hin.2
    obtain ⟨B0,K0,c,k1,k2,k3,k4,k5⟩:=hH.mt.row b q e s n x m f hbk;obtain ⟨B',L,l1,l2,c',e',l3,l4,l5,l6,l7⟩:=k4 i hi;rw [l1] at hx
    cases hx
    obtain ⟨r1,u,r2,r3⟩:=l7 j hj;refine ⟨u,?_,?_⟩
    ·rw [←r1] at r3
     cases s with
     | bool=>simp only [Sh.ex,bK] at r3;subst r3;simp [dD,Sv.den,Sc.den,d7]
     | int k=>simp only [Sh.ex,bK] at r3;subst r3;simp [dD,Sv.den,Sc.den,Ix.den]
     | str=>simp only [Sh.ex,bK] at r3;subst r3;simp [dD,Sv.den,Sc.den]
     | list l=>cases hp'
    ·simp only [Instr.loadAt,Instr.sureAddr,loadVar,Sem.run_bind,Sem.run_pure,Result.andThen_ok,hT.run_agg,ha,Bool.false_eq_true,if_false,run_load];rw [cell_of_row w B' j c' e' (0,0) l3,r2]
  ·cases h
 ·cases h
def x7 (C:Cx)(t:TypeId)(x:Sv)(f:Nat):Option Sv:=
 match C.tt.get t,x with
 | some ti,.one (.fptr r cs n g i j)=>match ti.d with
  | .struct fs=>match nth fs.toList f with
   | some fl=>match C.tt.get fl.type with
    | some fi=>bif beq fi.size 0 then none else some (.one (.fptr r cs n g i (j+fl.offset)))
    | none=>none
   | none=>none
  | _=>none
 | some ti,.one (.rptr b sz i j)=>match ti.d with
  | .struct fs=>match nth fs.toList f with
   | some fl=>match C.tt.get fl.type with
    | some fi=>bif beq fi.size 0 then none else some (.one (.rptr b sz i (j+fl.offset)))
    | none=>none
   | none=>none
  | _=>none
 | _,_=>none
theorem s0 {C:Cx} {P:Program} {η:Env} {E:Emb} (hC:C.Ok P η) {t:TypeId} {x sv:Sv} {f:Nat} {va:Value} (h:x7 C t x f=some sv) (hx:x.den η E=some va):
  ∃ v,sv.den η E=some v /\ ∀ w,(Instr.fieldAt t va f).run P w = .ok v w:=by
 unfold x7 at h;split at h
 ·rename_i ti r cs n g i j hti
  have hT:=(hC.tt t ti hti).und
  split at h
  ·rename_i fs hd;rw [hd] at hT;split at h
   ·rename_i fl hf;split at h
    ·rename_i fi hfi
     cases hz:beq fi.size 0 with
     | true=>rw [hz] at h;cases h
     | false=>
      rw [hz] at h;cases h;obtain ⟨B,o,c,h1,h2,h3,rfl⟩:=dN.1 hx;refine ⟨_,dN.2 ⟨B,o,c,h1,h2,h3,rfl⟩,fun w => ?_⟩
      rw [cD,Array.getElem?_toList] at hf
      have hz:=Nat.ne_of_beq_eq_false hz
      simp [Instr.fieldAt,run_underlying hT,hf,Instr.sureAddr,fieldPlace,(hC.tt fl.type fi hfi).run_size,hz,bM,Nat.add_assoc]
    ·cases h
   ·cases h
  ·cases h
 ·rename_i ti b sz i j hti
  have hT:=(hC.tt t ti hti).und
  split at h
  ·rename_i fs hd;rw [hd] at hT;split at h
   ·rename_i fl hf;split at h
    ·rename_i fi hfi
     cases hz:beq fi.size 0 with
     | true=>rw [hz] at h;cases h
     | false=>
      rw [hz] at h;cases h;obtain ⟨B,K,hE,rfl⟩:=vP hx;refine ⟨_,TD hE,fun w => ?_⟩
      rw [cD,Array.getElem?_toList] at hf
      have hz:=Nat.ne_of_beq_eq_false hz
      simp [Instr.fieldAt,run_underlying hT,hf,Instr.sureAddr,fieldPlace,(hC.tt fl.type fi hfi).run_size,hz,bM,Nat.add_assoc]
    ·cases h
   ·cases h
  ·cases h
 ·cases h
def ixN (x:Sv):Option Int:=
 match x with
 | .one (.int _ i)=>jB i
 | _=>none
theorem mF {η:Env} {E:Emb} {x:Sv} {n:Int} {va:Value} (h:ixN x=some n) (hx:x.den η E=some va) : ∃ k,va = .int k n:=by
 unfold ixN at h;split at h
 ·rename_i k i
  cases hx
  exact ⟨k,by rw [cS h]⟩
 ·cases h
def NF (i:Int)(n:Nat):Bool:=decide (0<=i)&&decide (i<(n:Int))
def QV (C:Cx)(t:TypeId)(x ix:Sv):Option (Option Bool × Sv):=
 match C.tt.get t,x,ixN ix with
 | some ti,.one (.fz r (.list cs n f)),some i=>match ti.d with
  | .slice e=>match C.tt.get e with
   | some ei=>bif beq ei.size cs.length then some (some (NF i n),.one (.fptr r cs n f i.toNat 0)) else none
   | none=>none
  | _=>none
 | some ti,.one (.own b n),some i=>match ti.d with
  | .slice e=>match C.tt.get e with
   | some ei=>some (some (NF i n),.one (.rptr b ei.size i.toNat 0))
   | none=>none
  | _=>none
 | some ti,.one (.mown b q r n),some i=>match ti.d with
  | .slice e=>match C.tt.get e with
   | some ei=>bif beq ei.size 1 then some (some (NF i n),.one (.mptr b q r i.toNat)) else none
   | none=>none
  | _=>none
 | _,_,_=>none
theorem QW {C:Cx} {P:Program} {η:Env} {E:Emb} (hC:C.Ok P η) {t:TypeId} {x ix sv:Sv} {ob:Option Bool} {va vi:Value} (h:QV C t x ix=some (ob,sv)) (hb : ∀ b,ob=some b->b=true) (hx:x.den η E=some va) (hi:ix.den η E=some vi):
  ∃ v,sv.den η E=some v /\ ∀ w,(Instr.indexAt t va vi).run P w = .ok v w:=by
 unfold QV at h;split at h
 ·rename_i ti r cs n f i hti hix
  have hT:=(hC.tt t ti hti).und
  obtain ⟨k,rfl⟩:=mF hix hi;split at h
  ·rename_i e hd;rw [hd] at hT;split at h
   ·rename_i ei hei
    cases hsz:beq ei.size cs.length with
    | false=>rw [hsz] at h;cases h
    | true=>
     rw [hsz] at h;cases h
     have hsz:=Nat.eq_of_beq_eq_true hsz
     have hin:=hb _ rfl
     simp only [NF,Bool.and_eq_true,decide_eq_true_eq] at hin;obtain ⟨h1,h2⟩:=aP.1 hx
     have h2':=h2
     obtain ⟨a,c,rfl,g2,g3,g4⟩:=h2
     rcases g4 with g4 | ⟨B,o,rfl,g4⟩
     ·omega
     refine ⟨.pointer (some ⟨B,o+(i.toNat*cs.length+0),none⟩),dN.2 ⟨B,o,c,h1,h2',by omega,rfl⟩,fun w => ?_⟩
     simp [Instr.indexAt,asIntOf,run_underlying hT,hin,(hC.tt e ei hei).run_size,bM,hsz]
   ·cases h
  ·cases h
 ·rename_i ti b n i hti hix
  have hT:=(hC.tt t ti hti).und
  obtain ⟨k,rfl⟩:=mF hix hi;split at h
  ·rename_i e hd;rw [hd] at hT;split at h
   ·rename_i ei hei
    cases h
    have hin:=hb _ rfl
    simp only [NF,Bool.and_eq_true,decide_eq_true_eq] at hin;obtain ⟨B,K,hE,rfl,hn⟩:=iQ hx;refine ⟨_,TD hE,fun w => ?_⟩
    simp [Instr.indexAt,asIntOf,run_underlying hT,hin,(hC.tt e ei hei).run_size,bM]
   ·cases h
  ·cases h
 ·rename_i ti b q r n i hti hix
  have hT:=(hC.tt t ti hti).und
  obtain ⟨k,rfl⟩:=mF hix hi;split at h
  ·rename_i e hd;rw [hd] at hT;split at h
   ·rename_i ei hei
    cases hsz:beq ei.size 1 with
    | false=>rw [hsz] at h;cases h
    | true=>
     rw [hsz] at h;cases h
     have hsz:=Nat.eq_of_beq_eq_true hsz
     have hin:=hb _ rfl
     simp only [NF,Bool.and_eq_true,decide_eq_true_eq] at hin
     have hx:(match E.m q r with
      | some B=>if n<=B.2 then some (Value.slice (some ⟨B.1,0,none⟩) n B.2) else none
      | none=>none)=some va:=hx
     split at hx
     ·rename_i X hE;split at hx
      ·cases hx
       refine ⟨.pointer (some ⟨X.1,i.toNat,none⟩),?_,fun w => ?_⟩
       ·show (E.m q r).map _=_
        rw [hE];rfl
       ·simp [Instr.indexAt,asIntOf,run_underlying hT,hin,(hC.tt e ei hei).run_size,bM,hsz]
      ·cases hx
     ·cases hx
   ·cases h
  ·cases h
 ·cases h
def W8 (x:Sv):Option (List UInt8):=
 match x with
 | .one (.str l)=>some l
 | .one (.ostr l)=>some l
 | _=>none
theorem U7 {η:Env} {E:Emb} {x:Sv} {l:List UInt8} {va:Value} (h:W8 x=some l) (hx:x.den η E=some va):va = .string ⟨l.toArray⟩:=by
 unfold W8 at h;split at h<;>first | (cases h;cases hx;rfl) | cases h
def AI (x:Sv):Bool:=
 match x with
 | .one (.int _ (.tm _))=>true
 | .one (.ostr _)=>true
 | _=>false
def x8 (C:Cx)(t:TypeId)(x ix:Sv):Option (Option Bool × Sv):=
 bif AI x||AI ix then match C.tt.get t,W8 x,ixN ix with
 | some ti,some l,some i=>match ti.d with
  | .string=>some (some (NF i l.length),.one (.int .u8 (.tm (.ofNat (l.getD i.toNat 0).toNat))))
  | _=>none
 | _,_,_=>none
 else none
theorem HA {C:Cx} {P:Program} {η:Env} {E:Emb} (hC:C.Ok P η) {t:TypeId} {x ix sv:Sv} {ob:Option Bool} {va vi:Value} (h:x8 C t x ix=some (ob,sv)) (hb : ∀ b,ob=some b->b=true) (hx:x.den η E=some va) (hi:ix.den η E=some vi):
  ∃ v,sv.den η E=some v /\ ∀ w,(Instr.index t va vi).run P w = .ok v w:=by
 unfold x8 at h
 cases hc:(AI x||AI ix) with
 | false=>rw [hc] at h;cases h
 | true=>
  rw [hc] at h;simp only [cond_true] at h;split at h
  ·rename_i ti l i hti hl hix
   have hT:=(hC.tt t ti hti).und
   obtain ⟨k,rfl⟩:=mF hix hi
   have e:=U7 hl hx
   subst e;split at h
   ·rename_i hd;rw [hd] at hT
    cases h
    have hin:=hb _ rfl
    simp only [NF,Bool.and_eq_true,decide_eq_true_eq] at hin
    have hlt:i.toNat<l.length:=by omega
    refine ⟨_,rfl,fun w => ?_⟩
    have hg:(⟨l.toArray⟩:ByteArray)[i.toNat]? = some (l[i.toNat]'hlt):=by
     have:i.toNat<(⟨l.toArray⟩:ByteArray).size:=by simpa [ByteArray.size] using hlt
     have e:(⟨l.toArray⟩:ByteArray)[i.toNat]'this=l[i.toNat]'hlt:=rfl
     rw [getElem?_pos (⟨l.toArray⟩:ByteArray) i.toNat this,e]
    have e2:l.getD i.toNat 0=l[i.toNat]'hlt:=by simp [List.getD,List.getElem?_eq_getElem hlt]
    have h0 : ¬ i<0:=by omega
    simp [Instr.index,asIntOf,run_underlying hT,hg,Ix.den,hin]
    try omega
   ·cases h
  ·cases h
def U8 (x:Option Sv)(d:Int):Option Int:=
 match x with
 | none=>some d
 | some s=>ixN s
theorem p9 {P:Program} {η:Env} {E:Emb} (w:World) {isS:Bool} {len cap:Nat} {lo hi:Option Sv} {vl vh:Option Value} {l h:Int} (hl:U8 lo 0=some l) (hh:U8 hi len=some h)
  (rl:oO η E lo vl) (rh:oO η E hi vh) (h0:0<=l) (h1:l<=h) (h2:h<=(cap:Int)):(Instr.sliceBounds isS len cap vl vh none).run P w = .ok (l.toNat,h.toNat,cap) w:=by
 have hiRun:(match vh with
   | some v=>Instr.sliceBound v cap (if isS then .sliceAcap else .sliceAlen)
   | none=>pure len:Sem Nat).run P w = .ok h.toNat w:=by
  cases hi with
  | none=>
   cases vh with
   | none=>cases hh;simp
   | some v=>cases rh
  | some s=>
   cases vh with
   | none=>cases rh
   | some v=>
    obtain ⟨k,rfl⟩:=mF hh rh
    have hb:(0:Int)<=h/\h<=(cap:Int):=by omega
    simp [Instr.sliceBound,asIntOf,hb]
 have loRun:(match vl with
   | some v=>Instr.sliceBound v h.toNat .sliceB
   | none=>pure 0:Sem Nat).run P w = .ok l.toNat w:=by
  cases lo with
  | none=>
   cases vl with
   | none=>cases hl;rfl
   | some v=>cases rl
  | some s=>
   cases vl with
   | none=>cases rl
   | some v=>
    obtain ⟨k,rfl⟩:=mF hl rl
    have hb:(0:Int)<=l/\l<=((h.toNat:Nat):Int):=by omega
    simp only [Instr.sliceBound,asIntOf,Sem.run_bind,Sem.run_pure,Result.andThen_ok,if_pos hb]
 unfold Instr.sliceBounds
 cases vh<;>cases vl<;>simp_all
def mG (l h:Int)(n:Nat):Bool:=decide (0<=l)&&(decide (l<=h)&&decide (h<=(n:Int)))
def yA (C:Cx)(t:TypeId)(x:Sv)(lo hi:Option Sv):Option (Option Bool × Sv):=
 match C.tt.get t,x,U8 lo 0 with
 | some ti,.one (.fz r (.list cs n f)),some l=>match ti.d with
  | .slice e=>match C.tt.get e,U8 hi n with
   | some ei,some h=>bif beq ei.size cs.length then some (some (mG l h n),.one (.fz (.sub r cs.length l.toNat (h-l).toNat) (.list cs (h-l).toNat fun i j=>f (l.toNat+i) j))) else none
   | _,_=>none
  | _=>none
 | some ti,.one (.own b n),some l=>match ti.d with
  | .slice e=>match C.tt.get e,U8 hi n with
   | some _,some h=>bif decide (l=0) then some (some (mG l h n),.one (.own b h.toNat)) else none
   | _,_=>none
  | _=>none
 | some ti,.one (.ostr s),some l=>match ti.d with
  | .string=>match U8 hi s.length with
   | some h=>some (some (mG l h s.length),.one (.ostr ((s.drop l.toNat).take (h-l).toNat)))
   | none=>none
  | _=>none
 | _,_,_=>none
theorem HB {C:Cx} {P:Program} {η:Env} {E:Emb} (hC:C.Ok P η) {t:TypeId} {x sv:Sv} {lo hi:Option Sv} {ob:Option Bool} {va:Value} {vl vh:Option Value} (h:yA C t x lo hi=some (ob,sv)) (hb : ∀ b,ob=some b->b=true) (hx:x.den η E=some va)
  (rl:oO η E lo vl) (rh:oO η E hi vh) : ∃ v,sv.den η E=some v /\ ∀ w,(Instr.sliceAt t va vl vh none).run P w = .ok v w:=by
 unfold yA at h;split at h
 ·rename_i ti r cs n f l hti hl
  have hT:=(hC.tt t ti hti).und
  split at h
  ·rename_i e hd;rw [hd] at hT;split at h
   ·rename_i ei h' hei hh
    cases hsz:beq ei.size cs.length with
    | false=>rw [hsz] at h;cases h
    | true=>
     rw [hsz] at h;cases h
     have hsz:=Nat.eq_of_beq_eq_true hsz
     have hin:=hb _ rfl
     simp only [mG,Bool.and_eq_true,decide_eq_true_eq] at hin;obtain ⟨i1,i2,i3⟩:=hin;obtain ⟨h1,h2⟩:=aP.1 hx;obtain ⟨a,c,rfl,g2,g3,g4⟩:=h2;refine ⟨.slice (if c=l.toNat then a else a.map (·.add (l.toNat*cs.length))) (h'-l).toNat (c-l.toNat),?_,fun w => ?_⟩
     ·refine aP.2 ⟨by simp only [Ref.val,h1],_,_,rfl,by omega,by omega,?_⟩
      rcases Nat.eq_zero_or_pos (h'-l).toNat with h0 | h0
      ·exact .inl h0
      ·rcases g4 with g4 | ⟨B,o,rfl,g4⟩
       ·omega
       refine .inr ⟨B,o+l.toNat*cs.length,by rw [if_neg (by omega)];simp [bM],fun i hi j hj => ?_⟩
       obtain ⟨k1,u,k2,k3⟩:=g4 (l.toNat+i) (by omega) j hj
       refine ⟨k1,u,?_,k3⟩;rw [←k2];congr 1;rw [Nat.add_mul];omega
     ·have hbn:=p9 (P:=P) (η:=η) (E:=E) w (isS:=true) (len:=n) (cap:=c) hl hh rl rh i1 i2 (by omega)
      simp only [Instr.sliceAt,Sem.run_bind,run_underlying hT,Result.andThen_ok,Instr.slice,hbn,(hC.tt e ei hei).run_size,Sem.run_pure,hsz];rw [show h'.toNat-l.toNat=(h'-l).toNat by omega]
   ·cases h
  ·cases h
 ·rename_i ti b n l hti hl
  have hT:=(hC.tt t ti hti).und
  split at h
  ·rename_i e hd;rw [hd] at hT;split at h
   ·rename_i ei h' hei hh
    cases hl0:decide (l=0) with
    | false=>rw [hl0] at h;cases h
    | true=>
     rw [hl0] at h;cases h
     have hl0:=of_decide_eq_true hl0
     subst hl0
     have hin:=hb _ rfl
     simp only [mG,Bool.and_eq_true,decide_eq_true_eq] at hin;obtain ⟨i1,i2,i3⟩:=hin;obtain ⟨B,K,hE,rfl,hnK⟩:=iQ hx;refine ⟨.slice (some ⟨B,0,none⟩) h'.toNat K,JZ hE (by omega),fun w => ?_⟩
     have hbn:=p9 (P:=P) (η:=η) (E:=E) w (isS:=true) (len:=n) (cap:=K) hl hh rl rh i1 i2 (by omega)
     simp only [Instr.sliceAt,Sem.run_bind,run_underlying hT,Result.andThen_ok,Instr.slice,hbn,(hC.tt e ei hei).run_size,Sem.run_pure];simp [Addr.add]
   ·cases h
  ·cases h
 ·rename_i ti s l hti hl
  have hT:=(hC.tt t ti hti).und
  cases hx
  split at h
  ·rename_i hd;rw [hd] at hT;split at h
   ·rename_i h' hh
    cases h
    have hin:=hb _ rfl
    simp only [mG,Bool.and_eq_true,decide_eq_true_eq] at hin;obtain ⟨i1,i2,i3⟩:=hin;refine ⟨_,rfl,fun w => ?_⟩
    have es:(⟨s.toArray⟩:ByteArray).size=s.length:=by simp [ByteArray.size]
    rw [←es] at hh i3
    have hbn:=p9 (P:=P) (η:=η) (E:=E) w (isS:=false) hl hh rl rh i1 i2 i3
    simp only [Instr.sliceAt,Sem.run_bind,run_underlying hT,Result.andThen_ok,Instr.slice,Option.isSome_none,Bool.false_eq_true,if_false,Sem.run_pure,hbn]
    congr 2
    apply ByteArray.ext;simp [ByteArray.data_extract,List.extract_toArray,List.extract_eq_take_drop]
    congr 1;omega
   ·cases h
  ·cases h
 ·cases h
end
end Go.Ex
