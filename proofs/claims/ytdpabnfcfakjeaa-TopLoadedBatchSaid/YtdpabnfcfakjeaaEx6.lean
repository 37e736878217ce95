/-
 The executor's binary and unary operations, and conversions.
-/
import Derived.Test.YtdpabnfcfakjeaaEx3a
import Derived.Laws.Pointers
namespace Go.Ex
open Go Go.RowKit
noncomputable section
def BH:BinOp->Bool
 | .add | .sub | .mul | .quo | .rem=>true
 | _=>false
def acL (C:Cx)(pc:PC)(op:BinOp)(k:IntKind)(a b:Ix):Option Ix:=
 match iop op k a b with
 | some z=>some z
 | none=>match k with
  | .i64=>C.ih pc op a b
  | _=>none
theorem W2 {C:Cx} {P:Program} {η:Env} (hC:C.Ok P η) {op:BinOp} {k:IntKind} {x y z:Ix} {pc:PC} (g:pc.holds η) (w:World) (t:TypeId) (h:acL C pc op k x y=some z):
  (binOp op t (.int k (x.den η)) (.int k (y.den η))).run P w = .ok (.int k (z.den η)) w:=by
 unfold acL at h;split at h
 ·rename_i z' hz;cases h;exact aan w t hz
 ·split at h
  ·exact hC.ih pc op x y z h g t w
  ·cases h
def JV (C:Cx)(op:BinOp)(k:FloatKind)(x y:Fx)(pc:PC):Option Bx:=
 match x,y with
 | .lit a,.lit b=>match op with
  | .eql=>some (.lit (k.format.order a b==some .eq))
  | .neq=>some (.lit (k.format.order a b != some .eq))
  | .lss=>some (.lit (k.format.order a b==some .lt))
  | .leq=>some (.lit (k.format.order a b==some .lt||k.format.order a b==some .eq))
  | .gtr=>some (.lit (k.format.order a b==some .gt))
  | .geq=>some (.lit (k.format.order a b==some .gt||k.format.order a b==some .eq))
  | _=>none
 | x,y=>match k with
  | .f64=>C.fh pc op x y
  | .f32=>none
theorem M7 {C:Cx} {P:Program} {η:Env} (hC:C.Ok P η) {op:BinOp} {k:FloatKind} {x y:Fx} {b:Bx} {pc:PC} (g:pc.holds η) (w:World) (t:TypeId) (h:JV C op k x y pc=some b):
  (binOp op t (.float k (x.den η)) (.float k (y.den η))).run P w = .ok (.bool (b.den η)) w:=by
 unfold JV at h;split at h
 ·split at h<;>first | (cases h;simp [binOp,Op.floatCmp,Fx.den,Bx.den];done) | cases h
 ·split at h
  ·exact hC.fh pc op x y b h g t w
  ·cases h
def W4 (C:Cx)(op:BinOp)(k:FloatKind)(x y:Fx)(pc:PC):Option Fx:=
 match x,y with
 | .lit a,.lit b=>(floatBits op k a b).map .lit
 | x,y=>match k with
  | .f64=>C.fa pc op x y
  | .f32=>none
theorem U3 {C:Cx} {P:Program} {η:Env} (hC:C.Ok P η) {op:BinOp} {k:FloatKind} {x y z:Fx} {pc:PC} (g:pc.holds η) (w:World) (t:TypeId) (h:W4 C op k x y pc=some z):
  (binOp op t (.float k (x.den η)) (.float k (y.den η))).run P w = .ok (.float k (z.den η)) w:=by
 unfold W4 at h;split at h
 ·rename_i a b
  cases hb:floatBits op k a b with
  | none=>rw [hb] at h;cases h
  | some r=>rw [hb] at h;cases h;exact run_float_arith w op t k a b r hb
 ·split at h
  ·exact hC.fa pc op x y z h g t w
  ·cases h
def abk (C:Cx)(op:BinOp)(k:FloatKind)(a b c d:Fx)(pc:PC):Option (Fx × Fx):=
 match k with
 | .f64=>C.ch pc op a b c d
 | .f32=>none
def acM (op:BinOp)(a b:Ix):Option (Int × Int):=
 match op with
 | .quo | .rem=>match a,b with
  | .tm x,.tm y=>some (x,y)
  | .tm x,.lit y=>some (x,y)
  | .lit x,.tm y=>some (x,y)
  | _,_=>none
 | _=>none
theorem U4 {op:BinOp} {a b:Ix} {x y:Int} (h:acM op a b=some (x,y)):(op = .quo∨op = .rem)/\jB a=some x/\jB b=some y:=by
 unfold acM at h;split at h
 ·refine ⟨.inl rfl,?_⟩;split at h<;>first | (cases h;exact ⟨rfl,rfl⟩) | cases h
 ·refine ⟨.inr rfl,?_⟩;split at h<;>first | (cases h;exact ⟨rfl,rfl⟩) | cases h
 ·cases h
def mkA (a:Ix)(v:Int):Ix:=
 match a with
 | .lit _ => .lit v
 | _ => .tm v
theorem JW (η:Env)(a:Ix)(v:Int):(mkA a v).den η=v:=by cases a<;>rfl
def acN (a b:Ix)(v:Int):Ix:=
 match a with
 | .lit _=>mkA b v
 | _ => .tm v
theorem M8 (η:Env)(a b:Ix)(v:Int):(acN a b v).den η=v:=by cases a<;>first | rfl | exact JW η b v
def aei (k:IntKind)(x n:Int):Int:=x.fdiv (2^(min n.toNat k.bits))
def aej (k:IntKind)(x n:Int):Int:=k.wrap (x*2^(min n.toNat k.bits))
def aek (k:IntKind)(x y:Int):Int:=k.wrap (BitVec.ofInt k.bits x &&& BitVec.ofInt k.bits y).toNat
def orI (k:IntKind)(x y:Int):Int:=k.wrap (BitVec.ofInt k.bits x ||| BitVec.ofInt k.bits y).toNat
def shX (op:BinOp)(k:IntKind)(a b:Ix):Option Ix:=
 match op,b,jB a with
 | .shr,.lit (.ofNat n),some x=>some (mkA a (aei k x n))
 | .shl,.lit (.ofNat n),some x=>some (mkA a (aej k x n))
 | _,_,_=>none
def acO (op:BinOp)(k:IntKind)(a b:Ix):Option Ix:=
 match op,jB a,jB b with
 | .and,some x,some y=>some (acN a b (aek k x y))
 | .or,some x,some y=>some (acN a b (orI k x y))
 | _,_,_=>none
def acP (C:Cx)(op:BinOp)(t:TypeId)(x y:Sv)(pc:PC):aB (Sv × PC):=
 match x,y with
 | .one (.int k a),.one (.int k' b)=>match shX op k a b with
  | some z => .leaf (.one (.int k z),pc)
  | none=>bif decide (k=k') then
   match acM op a b with
   | some (x,y)=>chk (!decide (y=0)) (.leaf (.one (.int k (.tm (match op with | .quo=>k.wrap (x.tdiv y) | _=>x.tmod y))),pc))
   | none=>match acO op k a b with
    | some z => .leaf (.one (.int k z),pc)
    | none=>(bif BH op then gM (acL C pc op k a b) fun z => .leaf (.one (.int k z),pc) else JU C op k a b pc)
   else .fail
 | .one (.bool a),.one (.bool b)=>match C.tt.get t with
  | some ti=>match ti.d,op with
   | .bool,.eql=>dP C.D pc a fun s pc => .leaf (.one (.bool (bif s then b else b.not)),pc)
   | .bool,.neq=>dP C.D pc a fun s pc => .leaf (.one (.bool (bif s then b.not else b)),pc)
   | _,_ => .fail
  | none => .fail
 | .one (.flt k a),.one (.flt k' b)=>bif decide (k=k') then
   (bif BH op then gM (W4 C op k a b pc) fun z => .leaf (.one (.flt k z),pc) else gM (JV C op k a b pc) fun b => .leaf (.one (.bool b),pc)) else .fail
 | .one (.cpx k a b),.one (.cpx k' c d)=>bif decide (k=k') then
   (match op with
   | .eql=>gM (vM C k a c pc) fun e=>dP C.D pc e fun s pc=>match s with
    | true=>gM (vM C k b d pc) fun e => .leaf (.one (.bool e),pc)
    | false => .leaf (.one (.bool (.lit false)),pc)
   | .neq=>gM (vM C k a c pc) fun e=>dP C.D pc e fun s pc=>match s with
    | true=>gM (vM C k b d pc) fun e => .leaf (.one (.bool e.not),pc)
    | false => .leaf (.one (.bool (.lit true)),pc)
   | op=>gM (abk C op k a b c d pc) fun r => .leaf (.one (.cpx k r.1 r.2),pc)) else .fail
 | .one (.ostr a),.one (.str b)=>match op with
  | .eql => .leaf (.one (.bool (tb (aA a b))),pc)
  | .neq => .leaf (.one (.bool (tb (!(aA a b)))),pc)
  | .add=>chk (Nat.blt (a.length+b.length) 1000000) (.leaf (.one (.ostr (a++b)),pc))
  | _ => .fail
 | .one (.str a),.one (.ostr b)=>match op with
  | .eql => .leaf (.one (.bool (tb (aA a b))),pc)
  | .neq => .leaf (.one (.bool (tb (!(aA a b)))),pc)
  | .add=>chk (Nat.blt (a.length+b.length) 1000000) (.leaf (.one (.ostr (a++b)),pc))
  | _ => .fail
 | .one (.ostr a),.one (.ostr b)=>match op with
  | .eql => .leaf (.one (.bool (tb (aA a b))),pc)
  | .neq => .leaf (.one (.bool (tb (!(aA a b)))),pc)
  | .add=>chk (Nat.blt (a.length+b.length) 1000000) (.leaf (.one (.ostr (a++b)),pc))
  | _ => .fail
 | .one (.str a),.one (.str b)=>match op with
  | .eql => .leaf (.one (.bool (.lit (aA a b))),pc)
  | .neq => .leaf (.one (.bool (.lit (!(aA a b)))),pc)
  | .add=>bif Nat.blt (a.length+b.length) 1000000 then .leaf (.one (.str (a++b)),pc) else .fail
  | _ => .fail
 | .agg xs,.agg ys=>match C.tt.get t with
  | some ti=>match ti.eqs with
   | some ks=>bif jY ks xs ys then (match op with
    | .eql=>(eqL C ks xs ys pc).bind fun r => .leaf (.one (.bool (.lit r.1)),r.2)
    | .neq=>(eqL C ks xs ys pc).bind fun r => .leaf (.one (.bool (.lit (!r.1))),r.2)
    | _ => .fail) else .fail
   | none => .fail
  | none => .fail
 | _,_ => .fail
theorem bO {P:Program} {w:World} {op:BinOp} {t:TypeId} {xo yo:Operand} {a b v:Value} (hg:(eqGuard op t xo yo a b).run P w = .ok () w) (h:(binOp op t a b).run P w = .ok v w):
  (do eqGuard op t xo yo a b;binOp op t a b:Sem Value).run P w = .ok v w:=by
 rw [Sem.run_bind,hg];exact h
theorem mD {P:Program} (w:World) (k:FloatKind) (a b:Nat):(Op.Complex.cmp .eql k a b).run P w = .ok (Op.floatEq k a b) w:=by
 simp [Op.Complex.cmp,Op.floatCmp,asBool,Op.floatEq]
theorem aaq {η:Env} {P:Program} {op:BinOp} {k k':IntKind} {a b z:Ix} (t:TypeId) (h:shX op k a b=some z) (xo yo:Operand) (w:World):
  (do eqGuard op t xo yo (.int k (a.den η)) (.int k' (b.den η));binOp op t (.int k (a.den η)) (.int k' (b.den η)):Sem Value).run P w = .ok (.int k (z.den η)) w:=by
 have hg:=bQ (P:=P) w op t xo yo (.int k (a.den η)) (.int k' (b.den η)) (fun h=>by cases h.1) (fun _ _ h=>by cases h.1)
 refine bO hg ?_;unfold shX at h;split at h<;>first | (cases h;done) | skip
 ·rename_i n x hx
  cases h
  rw [JW,cS hx];simp [binOp,Op.shift,Ix.den,aei,show ¬ ((n:Int)<0) by omega]
 ·rename_i n x hx
  cases h
  rw [JW,cS hx];simp [binOp,Op.shift,Ix.den,aej,show ¬ ((n:Int)<0) by omega]
theorem W5 {η:Env} {P:Program} {op:BinOp} {k:IntKind} {a b z:Ix} (t:TypeId) (h:acO op k a b=some z) (w:World):(binOp op t (.int k (a.den η)) (.int k (b.den η))).run P w = .ok (.int k (z.den η)) w:=by
 unfold acO at h;split at h<;>first | (cases h;done) | skip
 ·rename_i x y hx hy
  cases h
  rw [M8,cS hx,cS hy];simp [binOp,Op.intBits,aek]
 ·rename_i x y hx hy
  cases h
  rw [M8,cS hx,cS hy];simp [binOp,Op.intBits,orI]
theorem W6 {C:Cx} {P:Program} {η:Env} {E:Emb} (hC:C.Ok P η) {op:BinOp} {t:TypeId} {x y sv:Sv} {pc pc':PC} (g:pc.holds η) (h:(acP C op t x y pc).at_ η=some (sv,pc'))
  {va vb:Value} (hx:x.den η E=some va) (hy:y.den η E=some vb) (xo yo:Operand):
  pc'.holds η /\ ∃ v,sv.den η E=some v /\ ∀ w,(do eqGuard op t xo yo va vb;binOp op t va vb:Sem Value).run P w = .ok v w:=by
 unfold acP at h;split at h
 ·
  rename_i k a k' b;simp only [Sv.den,Sc.den,Option.some.injEq] at hx hy;subst hx;subst hy;split at h
  ·rename_i z hz;simp only [aB.at_,Option.some.injEq,Prod.mk.injEq] at h;obtain ⟨rfl,rfl⟩:=h;exact ⟨g,_,rfl,fun w=>aaq t hz xo yo w⟩
  by_cases hk:k=k'
  ·subst hk;simp only [decide_true,cond_true] at h
   have hg : ∀ w,(eqGuard op t xo yo (.int k (a.den η)) (.int k (b.den η))).run P w = .ok () w:=fun w=>bQ w op t xo yo _ _ (fun h=>by cases h.1) (fun _ _ h=>by cases h.1)
   split at h
   ·rename_i x y hd;obtain ⟨hop,hx,hy⟩:=U4 hd;obtain ⟨hy0,h⟩:=eZ h
    ·have hy0:y≠0:=by simpa using hy0
     simp only [aB.at_,Option.some.injEq,Prod.mk.injEq] at h;obtain ⟨rfl,rfl⟩:=h;rw [cS hx,cS hy] at hg ⊢;refine ⟨g,_,rfl,fun w=>bO (hg w) ?_⟩
     rcases hop with rfl | rfl
     ·simp [binOp,Op.intDiv,Ix.den,hy0]
     ·simp [binOp,Op.intDiv,Ix.den,hy0]
   split at h
   ·rename_i z hz;simp only [aB.at_,Option.some.injEq,Prod.mk.injEq] at h;obtain ⟨rfl,rfl⟩:=h;exact ⟨g,_,rfl,fun w=>bO (hg w) (W5 t hz w)⟩
   cases ha:BH op with
   | true=>
    rw [ha] at h;obtain ⟨z,h1,h2⟩:=dG h;simp only [aB.at_,Option.some.injEq,Prod.mk.injEq] at h2;obtain ⟨rfl,rfl⟩:=h2;exact ⟨g,_,rfl,fun w=>bO (hg w) (W2 hC g w t h1)⟩
   | false=>
    rw [ha] at h;obtain ⟨h1,bx,rfl,h2⟩:=M6 hC g h;exact ⟨h1,_,rfl,fun w=>bO (hg w) (h2 w t)⟩
  ·simp [hk,aB.at_] at h
 ·
  rename_i a b;simp only [Sv.den,Sc.den,Option.some.injEq] at hx hy;subst hx;subst hy;split at h
  ·rename_i ti hti
   have hu:=(hC.tt t ti hti).und
   split at h
   ·rename_i hd;rw [hd] at hu;obtain ⟨pc1,hp1,h1⟩:=bN hC.D g h;simp only [aB.at_,Option.some.injEq,Prod.mk.injEq] at h1;obtain ⟨rfl,rfl⟩:=h1;refine ⟨hp1,_,rfl,fun w=>bO (bQ w _ t xo yo _ _ (fun h=>by cases h.1) (fun _ _ h=>by cases h.1)) ?_⟩
    rw [run_eql_bool w t _ _ hu]
    cases ha:a.den η<;>simp [Bx.den_not]
   ·rename_i hd;rw [hd] at hu;obtain ⟨pc1,hp1,h1⟩:=bN hC.D g h;simp only [aB.at_,Option.some.injEq,Prod.mk.injEq] at h1;obtain ⟨rfl,rfl⟩:=h1;refine ⟨hp1,_,rfl,fun w=>bO (bQ w _ t xo yo _ _ (fun h=>by cases h.1) (fun _ _ h=>by cases h.1)) ?_⟩
    rw [run_neq_bool w t _ _ hu]
    cases ha:a.den η<;>simp [Bx.den_not]
   ·cases h
  ·cases h
 ·
  rename_i k a k' b;simp only [Sv.den,Sc.den,Option.some.injEq] at hx hy;subst hx;subst hy
  by_cases hk:k=k'
  ·subst hk;simp only [decide_true,cond_true] at h
   have hg : ∀ w,(eqGuard op t xo yo (.float k (a.den η)) (.float k (b.den η))).run P w = .ok () w:=fun w=>bQ w op t xo yo _ _ (fun h=>by cases h.1) (fun _ _ h=>by cases h.1)
   cases ha:BH op with
   | true=>
    rw [ha] at h;obtain ⟨z,h1,h2⟩:=dG h;simp only [aB.at_,Option.some.injEq,Prod.mk.injEq] at h2;obtain ⟨rfl,rfl⟩:=h2;exact ⟨g,_,rfl,fun w=>bO (hg w) (U3 hC g w t h1)⟩
   | false=>
    rw [ha] at h;obtain ⟨z,h1,h2⟩:=dG h;simp only [aB.at_,Option.some.injEq,Prod.mk.injEq] at h2;obtain ⟨rfl,rfl⟩:=h2;exact ⟨g,_,rfl,fun w=>bO (hg w) (M7 hC g w t h1)⟩
  ·simp [hk,aB.at_] at h
 ·
  rename_i k a b k' c d;simp only [Sv.den,Sc.den,Option.some.injEq] at hx hy;subst hx;subst hy
  by_cases hk:k=k'
  ·subst hk;simp only [decide_true,cond_true] at h
   have hg : ∀ w,(eqGuard op t xo yo (.complex k (a.den η) (b.den η)) (.complex k (c.den η) (d.den η))).run P w = .ok () w:=fun w=>bQ w op t xo yo _ _ (fun h=>by cases h.1) (fun _ _ h=>by cases h.1)
   split at h
   ·obtain ⟨e,h1,h2⟩:=dG h;obtain ⟨pc1,hp1,h3⟩:=bN hC.D g h2;split at h3
    ·rename_i hs;obtain ⟨e2,h4,h5⟩:=dG h3;simp only [aB.at_,Option.some.injEq,Prod.mk.injEq] at h5;obtain ⟨rfl,rfl⟩:=h5;refine ⟨hp1,_,rfl,fun w=>bO (hg w) ?_⟩
     have e1:=f0 hC g w h1
     have e3:=f0 hC hp1 w h4
     rw [hs] at e1;simp [binOp,Op.complexOp,mD,←e1,←e3]
    ·rename_i hs;simp only [aB.at_,Option.some.injEq,Prod.mk.injEq] at h3;obtain ⟨rfl,rfl⟩:=h3;refine ⟨hp1,_,rfl,fun w=>bO (hg w) ?_⟩
     have e1:=f0 hC g w h1
     rw [hs] at e1;simp [binOp,Op.complexOp,mD,←e1,Bx.den]
   ·obtain ⟨e,h1,h2⟩:=dG h;obtain ⟨pc1,hp1,h3⟩:=bN hC.D g h2;split at h3
    ·rename_i hs;obtain ⟨e2,h4,h5⟩:=dG h3;simp only [aB.at_,Option.some.injEq,Prod.mk.injEq] at h5;obtain ⟨rfl,rfl⟩:=h5;refine ⟨hp1,_,rfl,fun w=>bO (hg w) ?_⟩
     have e1:=f0 hC g w h1
     have e3:=f0 hC hp1 w h4
     rw [hs] at e1;simp [binOp,Op.complexOp,mD,←e1,←e3,Bx.den_not]
    ·rename_i hs;simp only [aB.at_,Option.some.injEq,Prod.mk.injEq] at h3;obtain ⟨rfl,rfl⟩:=h3;refine ⟨hp1,_,rfl,fun w=>bO (hg w) ?_⟩
     have e1:=f0 hC g w h1
     rw [hs] at e1;simp [binOp,Op.complexOp,mD,←e1,Bx.den]
   ·obtain ⟨r,h1,h2⟩:=dG h;simp only [aB.at_,Option.some.injEq,Prod.mk.injEq] at h2;obtain ⟨rfl,rfl⟩:=h2;refine ⟨g,_,rfl,fun w=>bO (hg w) ?_⟩
    unfold abk at h1;split at h1
    ·exact hC.ch pc _ a b c d r h1 g t w
    ·cases h1
  ·simp [hk,aB.at_] at h
 ·
  rename_i a b;simp only [Sv.den,Sc.den,Option.some.injEq] at hx hy;subst hx;subst hy
  have hg : ∀ w,(eqGuard op t xo yo (.string ⟨a.toArray⟩) (.string ⟨b.toArray⟩)).run P w = .ok () w:=fun w=>bQ w op t xo yo _ _ (fun h=>by cases h.1) (fun _ _ h=>by cases h.1)
  split at h
  ·simp only [aB.at_,Option.some.injEq,Prod.mk.injEq] at h;obtain ⟨rfl,rfl⟩:=h;exact ⟨g,_,rfl,fun w=>bO (hg w) (by rw [d7];simp [binOp,Op.stringOp,bH])⟩
  ·simp only [aB.at_,Option.some.injEq,Prod.mk.injEq] at h;obtain ⟨rfl,rfl⟩:=h;exact ⟨g,_,rfl,fun w=>bO (hg w) (by rw [d7];simp [binOp,Op.stringOp,bH])⟩
  ·obtain ⟨hl,h⟩:=eZ h
   ·simp only [aB.at_,Option.some.injEq,Prod.mk.injEq] at h;obtain ⟨rfl,rfl⟩:=h
    have hlt:=Nat.le_of_ble_eq_true hl
    refine ⟨g,_,rfl,fun w=>bO (hg w) ?_⟩
    have hn : ¬ ((((⟨a.toArray⟩:ByteArray).size+(⟨b.toArray⟩:ByteArray).size:Nat):Int)>IntKind.i64.max):=by
     have e1:(⟨a.toArray⟩:ByteArray).size=a.length:=by simp [ByteArray.size]
     have e2:(⟨b.toArray⟩:ByteArray).size=b.length:=by simp [ByteArray.size]
     have e3:IntKind.i64.max=9223372036854775807:=by decide
     rw [e1,e2,e3];omega
    simp only [binOp,Op.stringOp,if_neg hn,Sem.run_pure]
    congr 2
  ·cases h
 ·
  rename_i a b;simp only [Sv.den,Sc.den,Option.some.injEq] at hx hy;subst hx;subst hy
  have hg : ∀ w,(eqGuard op t xo yo (.string ⟨a.toArray⟩) (.string ⟨b.toArray⟩)).run P w = .ok () w:=fun w=>bQ w op t xo yo _ _ (fun h=>by cases h.1) (fun _ _ h=>by cases h.1)
  split at h
  ·simp only [aB.at_,Option.some.injEq,Prod.mk.injEq] at h;obtain ⟨rfl,rfl⟩:=h;exact ⟨g,_,rfl,fun w=>bO (hg w) (by rw [d7];simp [binOp,Op.stringOp,bH])⟩
  ·simp only [aB.at_,Option.some.injEq,Prod.mk.injEq] at h;obtain ⟨rfl,rfl⟩:=h;exact ⟨g,_,rfl,fun w=>bO (hg w) (by rw [d7];simp [binOp,Op.stringOp,bH])⟩
  ·obtain ⟨hl,h⟩:=eZ h
   ·simp only [aB.at_,Option.some.injEq,Prod.mk.injEq] at h;obtain ⟨rfl,rfl⟩:=h
    have hlt:=Nat.le_of_ble_eq_true hl
    refine ⟨g,_,rfl,fun w=>bO (hg w) ?_⟩
    have hn : ¬ ((((⟨a.toArray⟩:ByteArray).size+(⟨b.toArray⟩:ByteArray).size:Nat):Int)>IntKind.i64.max):=by
     have e1:(⟨a.toArray⟩:ByteArray).size=a.length:=by simp [ByteArray.size]
     have e2:(⟨b.toArray⟩:ByteArray).size=b.length:=by simp [ByteArray.size]
     have e3:IntKind.i64.max=9223372036854775807:=by decide
     rw [e1,e2,e3];omega
    simp only [binOp,Op.stringOp,if_neg hn,Sem.run_pure]
    congr 2
  ·cases h
 ·
  rename_i a b;simp only [Sv.den,Sc.den,Option.some.injEq] at hx hy;subst hx;subst hy
  have hg : ∀ w,(eqGuard op t xo yo (.string ⟨a.toArray⟩) (.string ⟨b.toArray⟩)).run P w = .ok () w:=fun w=>bQ w op t xo yo _ _ (fun h=>by cases h.1) (fun _ _ h=>by cases h.1)
  split at h
  ·simp only [aB.at_,Option.some.injEq,Prod.mk.injEq] at h;obtain ⟨rfl,rfl⟩:=h;exact ⟨g,_,rfl,fun w=>bO (hg w) (by rw [d7];simp [binOp,Op.stringOp,bH])⟩
  ·simp only [aB.at_,Option.some.injEq,Prod.mk.injEq] at h;obtain ⟨rfl,rfl⟩:=h;exact ⟨g,_,rfl,fun w=>bO (hg w) (by rw [d7];simp [binOp,Op.stringOp,bH])⟩
  ·obtain ⟨hl,h⟩:=eZ h
   ·simp only [aB.at_,Option.some.injEq,Prod.mk.injEq] at h;obtain ⟨rfl,rfl⟩:=h
    have hlt:=Nat.le_of_ble_eq_true hl
    refine ⟨g,_,rfl,fun w=>bO (hg w) ?_⟩
    have hn : ¬ ((((⟨a.toArray⟩:ByteArray).size+(⟨b.toArray⟩:ByteArray).size:Nat):Int)>IntKind.i64.max):=by
     have e1:(⟨a.toArray⟩:ByteArray).size=a.length:=by simp [ByteArray.size]
     have e2:(⟨b.toArray⟩:ByteArray).size=b.length:=by simp [ByteArray.size]
     have e3:IntKind.i64.max=9223372036854775807:=by decide
     rw [e1,e2,e3];omega
    simp only [binOp,Op.stringOp,if_neg hn,Sem.run_pure]
    congr 2
  ·cases h
 ·
  rename_i a b;simp only [Sv.den,Sc.den,Option.some.injEq] at hx hy;subst hx;subst hy
  have hg : ∀ w,(eqGuard op t xo yo (.string ⟨a.toArray⟩) (.string ⟨b.toArray⟩)).run P w = .ok () w:=fun w=>bQ w op t xo yo _ _ (fun h=>by cases h.1) (fun _ _ h=>by cases h.1)
  split at h
  ·simp only [aB.at_,Option.some.injEq,Prod.mk.injEq] at h;obtain ⟨rfl,rfl⟩:=h;exact ⟨g,_,rfl,fun w=>bO (hg w) (by simp [binOp,Op.stringOp,Bx.den,bH])⟩
  ·simp only [aB.at_,Option.some.injEq,Prod.mk.injEq] at h;obtain ⟨rfl,rfl⟩:=h;exact ⟨g,_,rfl,fun w=>bO (hg w) (by simp [binOp,Op.stringOp,Bx.den,bH])⟩
  ·cases hl:Nat.blt (a.length+b.length) 1000000 with
   | false=>rw [hl] at h;cases h
   | true=>
    rw [hl] at h;simp only [cond_true,aB.at_,Option.some.injEq,Prod.mk.injEq] at h;obtain ⟨rfl,rfl⟩:=h
    have hlt:=Nat.le_of_ble_eq_true hl
    refine ⟨g,_,rfl,fun w=>bO (hg w) ?_⟩
    have hn : ¬ ((((⟨a.toArray⟩:ByteArray).size+(⟨b.toArray⟩:ByteArray).size:Nat):Int)>IntKind.i64.max):=by
     have e1:(⟨a.toArray⟩:ByteArray).size=a.length:=by simp [ByteArray.size]
     have e2:(⟨b.toArray⟩:ByteArray).size=b.length:=by simp [ByteArray.size]
     have e3:IntKind.i64.max=9223372036854775807:=by decide
     rw [e1,e2,e3];omega
    simp only [binOp,Op.stringOp,if_neg hn,Sem.run_pure]
    congr 2
  ·cases h
 ·
  rename_i xs ys;split at h
  ·rename_i ti hti;split at h
   ·rename_i ks hks;obtain ⟨hq1,hq2⟩:=(hC.tt t ti hti).eqs ks hks
    cases hk:jY ks xs ys with
    | false=>rw [hk] at h;cases h
    | true=>
     rw [hk] at h;simp only [cond_true] at h;simp only [Sv.den] at hx hy
     cases hvs:aQ η E xs with
     | none=>rw [hvs] at hx;cases hx
     | some vs=>
      cases hws:aQ η E ys with
      | none=>rw [hws] at hy;cases hy
      | some ws=>
       rw [hvs] at hx;rw [hws] at hy;simp only [Option.map_some,Option.some.injEq] at hx hy;subst hx;subst hy
       have hfit:=U2 ks xs ys vs ws hk hvs hws
       split at h
       ·obtain ⟨⟨r,pc1⟩,h1,h2⟩:=aB.at_bind h;simp only [aB.at_,Option.some.injEq,Prod.mk.injEq] at h2;obtain ⟨rfl,rfl⟩:=h2;refine ⟨(BG hC default ks xs ys vs ws pc pc1 r h1 g hvs hws).1,_,rfl,fun w=>bO (run_eqGuard_agg w _ t xo yo _ _ hq1) ?_⟩
        rw [run_eql_struct,hq2 vs ws w hfit,(BG hC w ks xs ys vs ws pc pc1 r h1 g hvs hws).2];rfl
       ·obtain ⟨⟨r,pc1⟩,h1,h2⟩:=aB.at_bind h;simp only [aB.at_,Option.some.injEq,Prod.mk.injEq] at h2;obtain ⟨rfl,rfl⟩:=h2;refine ⟨(BG hC default ks xs ys vs ws pc pc1 r h1 g hvs hws).1,_,rfl,fun w=>bO (run_eqGuard_agg w _ t xo yo _ _ hq1) ?_⟩
        rw [run_neq_struct,hq2 vs ws w hfit,(BG hC w ks xs ys vs ws pc pc1 r h1 g hvs hws).2];rfl
       ·cases h
   ·cases h
  ·cases h
 ·cases h
def unX (op:UnOp)(x:Sv):Option Sv:=
 match op,x with
 | .not,.one (.bool b)=>some (.one (.bool b.not))
 | .neg,.one (.int k (.lit n))=>some (.one (.int k (.lit (sZ k (0-n)))))
 | .neg,.one (.int k (.tm n))=>some (.one (.int k (.tm (k.wrap (0-n)))))
 | .neg,.one (.int .i64 (.poly p))=>some (.one (.int .i64 (mkI (G9 p))))
 | .neg,.one (.flt k (.lit b))=>some (.one (.flt k (.lit (Op.negFloat k b))))
 | .neg,.one (.flt .f64 (.ofI p))=>some (.one (.flt .f64 (.neg p)))
 | .neg,.one (.cpx k (.lit a) (.lit b))=>some (.one (.cpx k (.lit (Op.negFloat k a)) (.lit (Op.negFloat k b))))
 | _,_=>none
theorem aar {P:Program} {η:Env} {E:Emb} {op:UnOp} {x sv:Sv} {va:Value} (h:unX op x=some sv) (hx:x.den η E=some va):
  ∃ v,sv.den η E=some v /\ ∀ w,(Op.unary op va).run P w = .ok v w:=by
 unfold unX at h;split at h
 ·cases h;cases hx;exact ⟨_,rfl,fun w=>by simp [Op.unary,Bx.den_not]⟩
 ·cases h;cases hx;exact ⟨_,rfl,fun w=>by simp [Op.unary,Op.intArith,Ix.den,jX]⟩
 ·cases h;cases hx;exact ⟨_,rfl,fun w=>by simp [Op.unary,Op.intArith,Ix.den]⟩
 ·rename_i p
  cases h;cases hx
  refine ⟨_,rfl,fun w => ?_⟩
  rw [BE,lI];simp only [Op.unary,Op.intArith,Ix.den,Sem.run_pure]
  have e:IntKind.i64.wrap (0-wr (evP η.i p))=wr (-(evP η.i p)):=by
   rw [Int.zero_sub];exact acB (evP η.i p)
  rw [e]
 ·cases h;cases hx;exact ⟨_,rfl,fun w=>by simp [Op.unary,Fx.den]⟩
 ·cases h;cases hx;exact ⟨_,rfl,fun w=>by simp [Op.unary,Fx.den]⟩
 ·cases h;cases hx;exact ⟨_,rfl,fun w=>by simp [Op.unary,Fx.den]⟩
 ·cases h
def W7 (C:Cx)(s d:TypeId)(x:Sv)(pc:PC):Option Sv:=
 match C.tt.get s,C.tt.get d with
 | some si,some di=>match si.d,di.d,x with
  | .int _,.int k,.one (.int _ (.lit n))=>some (.one (.int k (.lit (sZ k n))))
  | .int _,.int k,.one (.int _ (.tm n))=>some (.one (.int k (.tm (k.wrap n))))
  | .int _,.int .i64,.one (.int .i64 (.poly p))=>some (.one (.int .i64 (.poly p)))
  | .int _,.float k,.one (.int _ (.lit n))=>some (.one (.flt k (.lit (k.nearest n))))
  | .int _,.float .f64,.one (.int .i64 (.poly p))=>some (.one (.flt .f64 (.ofI p)))
  | .float _,.int k,.one (.flt s (.lit b))=>match floatToIntVal s b k with
   | some n=>some (.one (.int k (.lit n)))
   | none=>none
  | .float _,.int .i64,.one (.flt .f64 f)=>match C.f2i pc f with
   | some z=>some (.one (.int .i64 z))
   | none=>none
  | .float _,.float .f64,.one (.flt .f64 f)=>some (.one (.flt .f64 f))
  | .string,.string,.one (.str l)=>some (.one (.str l))
  | .string,.string,.one (.ostr l)=>some (.one (.ostr l))
  | _,_,_=>none
 | _,_=>none
theorem U5 {C:Cx} {P:Program} {η:Env} {E:Emb} (hC:C.Ok P η) {s d:TypeId} {x sv:Sv} {pc:PC} {va:Value} (g:pc.holds η) (h:W7 C s d x pc=some sv) (hx:x.den η E=some va):
  ∃ v,sv.den η E=some v /\ ∀ w,(convert s d va).run P w = .ok v w:=by
 unfold W7 at h;split at h
 ·rename_i si di hs hd
  have us:=(hC.tt s si hs).und
  have ud:=(hC.tt d di hd).und
  split at h
  ·rename_i e1 e2;rw [e1] at us;rw [e2] at ud
   cases h;cases hx
   exact ⟨_,rfl,fun w=>by simp [convert,run_underlying us,run_underlying ud,Conv.intToInt,Ix.den,jX]⟩
  ·rename_i e1 e2;rw [e1] at us;rw [e2] at ud
   cases h;cases hx
   exact ⟨_,rfl,fun w=>by simp [convert,run_underlying us,run_underlying ud,Conv.intToInt,Ix.den]⟩
  ·rename_i e1 e2;rw [e1] at us;rw [e2] at ud
   cases h;cases hx
   refine ⟨_,rfl,fun w => ?_⟩
   simp only [convert,Sem.run_bind,run_underlying us,run_underlying ud,Result.andThen_ok,Conv.intToInt,Sem.run_pure,Ix.den];rw [show IntKind.i64.wrap (wr (evP η.i _))=wr (evP η.i _) from aeg _]
  ·rename_i e1 e2;rw [e1] at us;rw [e2] at ud
   cases h;cases hx
   exact ⟨_,rfl,fun w=>by simp [convert,run_underlying us,run_underlying ud,Conv.intToFloat,Ix.den,Fx.den]⟩
  ·rename_i e1 e2;rw [e1] at us;rw [e2] at ud
   cases h;cases hx
   exact ⟨_,rfl,fun w=>by simp [convert,run_underlying us,run_underlying ud,Conv.intToFloat,Ix.den,Fx.den]⟩
  ·rename_i e1 e2;rw [e1] at us;rw [e2] at ud;split at h
   ·rename_i n hn
    cases h;cases hx
    exact ⟨_,rfl,fun w=>run_convert_float_int w s d _ _ _ n (by rw [us];rfl) ud hn⟩
   ·cases h
  ·rename_i e1 e2;rw [e1] at us;rw [e2] at ud;split at h
   ·rename_i z hz
    cases h;cases hx
    exact ⟨_,rfl,fun w=>by simp only [convert,Sem.run_bind,run_underlying us,run_underlying ud,Result.andThen_ok];exact hC.f2i pc _ z hz g w⟩
   ·cases h
  ·rename_i e1 e2;rw [e1] at us;rw [e2] at ud
   cases h;cases hx
   exact ⟨_,rfl,fun w=>by simp [convert,run_underlying us,run_underlying ud,Conv.floatToFloat]⟩
  ·rename_i e1 e2;rw [e1] at us;rw [e2] at ud
   cases h;cases hx
   exact ⟨_,rfl,fun w=>by simp [convert,run_underlying us,run_underlying ud]⟩
  ·rename_i e1 e2;rw [e1] at us;rw [e2] at ud
   cases h;cases hx
   exact ⟨_,rfl,fun w=>by simp [convert,run_underlying us,run_underlying ud]⟩
  ·cases h
 ·cases h
end
end Go.Ex
