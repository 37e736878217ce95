/-
 The data of the symbolic executor: whole numbers as polynomials over variables, tests, values, blocks, trees of forks; what each denotes.
-/
import Derived.Calls
import Derived.Below
import Derived.IntWalk
import Derived.Laws.Cover2
import Derived.Laws.FloatArith
import Derived.RangeFuncOwn
import Derived.Laws.AppendOwn
import Derived.Laws.OwnMore
import Derived.Laws.Cells
namespace Go.Ex
open Go Go.RowKit
open Nat (beq)
abbrev Mon:=List Nat
abbrev dM:=List (Mon × Int)
structure Env where
 i:Nat->Int
 f:Nat->Nat
 u:Nat->List Int->Bool
def evM (η:Nat->Int):Mon->Int
 | []=>1
 | v::m=>η v*evM η m
def evP (η:Nat->Int):dM->Int
 | []=>0
 | (m,c)::p=>c*evM η m+evP η p
def UZ:Mon->Mon->Nat
 | [],[]=>1
 | [],_::_=>2
 | _::_,[]=>0
 | v::a,w::b=>bif Nat.blt v w then 0 else bif beq v w then UZ a b else 2
theorem S3 : ∀ (a b:Mon),UZ a b=1->a=b
 | [],[],_=>rfl
 | [],_::_,h=>by simp [UZ] at h
 | _::_,[],h=>by simp [UZ] at h
 | v::a,w::b,h=>by
  simp only [UZ] at h
  cases h1:Nat.blt v w with
  | true=>simp [h1] at h
  | false=>
   cases h2:beq v w with
   | false=>simp [h1,h2] at h
   | true=>
    simp [h1,h2] at h;rw [Nat.eq_of_beq_eq_true h2,S3 a b h]
def isZ:Int->Bool
 | .ofNat n=>beq n 0
 | .negSucc _=>false
theorem S4 {n:Int} (h:isZ n=true):n=0:=by
 cases n with
 | ofNat n=>simp only [isZ] at h;rw [Nat.eq_of_beq_eq_true h];rfl
 | negSucc n=>simp [isZ] at h
def G8:Nat->dM->dM->dM
 | 0,p,q=>p++q
 | _+1,[],q=>q
 | _+1,p,[]=>p
 | n+1,(m,c)::p,(k,d)::q=>
  match UZ m k with
  | 0=>(m,c)::G8 n p ((k,d)::q)
  | 1=>bif isZ (c+d) then G8 n p q else (m,c+d)::G8 n p q
  | _=>(k,d)::G8 n ((m,c)::p) q
theorem C3 (η:Nat->Int) : ∀ p q:dM,evP η (p++q)=evP η p+evP η q
 | [],q=>by simp [evP]
 | (m,c)::p,q=>by simp [evP,C3 η p q];omega
theorem pX (η:Nat->Int) : ∀ (n:Nat) (p q:dM),evP η (G8 n p q)=evP η p+evP η q
 | 0,p,q=>by simp [G8,C3]
 | _+1,[],q=>by simp [G8,evP]
 | _+1,(m,c)::p,[]=>by simp [G8,evP]
 | n+1,(m,c)::p,(k,d)::q=>by
  simp only [G8];split
  ·simp only [evP,pX η n];omega
  ·rename_i h
   have hm:=S3 m k h
   subst hm
   cases hz:isZ (c+d) with
   | true=>
    have:=S4 hz
    simp only [cond_true,evP,pX η n]
    have e:d = -c:=by omega
    subst e;rw [Int.neg_mul];omega
   | false=>
    simp only [cond_false,evP,pX η n,Int.add_mul];omega
  ·simp only [evP,pX η n];omega
def MY (p q:dM):dM:=G8 100000 p q
theorem rY (η:Nat->Int)(p q:dM):evP η (MY p q)=evP η p+evP η q:=pX η _ p q
def MZ:Nat->Mon->Mon->Mon
 | 0,a,b=>a++b
 | _+1,[],b=>b
 | _+1,a,[]=>a
 | n+1,v::a,w::b=>bif Nat.ble v w then v::MZ n a (w::b) else w::MZ n (v::a) b
theorem C4 (η:Nat->Int) : ∀ a b:Mon,evM η (a++b)=evM η a*evM η b
 | [],b=>by simp [evM]
 | v::a,b=>by simp [evM,C4 η a b,Int.mul_assoc]
theorem C5 (η:Nat->Int) : ∀ (n:Nat) (a b:Mon),evM η (MZ n a b)=evM η a*evM η b
 | 0,a,b=>by simp [MZ,C4]
 | _+1,[],b=>by simp [MZ,evM]
 | _+1,v::a,[]=>by simp [MZ,evM]
 | n+1,v::a,w::b=>by
  simp only [MZ]
  cases Nat.ble v w with
  | true=>simp only [cond_true,evM,C5 η n];simp only [Int.mul_assoc]
  | false=>
   simp only [cond_false,evM,C5 η n];simp only [Int.mul_assoc];rw [Int.mul_left_comm (η w) (η v),Int.mul_left_comm (η w) (evM η a)]
def M0 (m:Mon)(c:Int):dM->dM
 | []=>[]
 | (k,d)::q=>(MZ 1000 m k,c*d)::M0 m c q
theorem HS (η:Nat->Int)(m:Mon)(c:Int) : ∀ q,evP η (M0 m c q)=c*evM η m*evP η q
 | []=>by simp [M0,evP]
 | (k,d)::q=>by
  simp only [M0,evP,HS η m c q,C5,Int.mul_add]
  congr 1
  simp only [Int.mul_assoc,Int.mul_left_comm d]
def C6:dM->dM->dM
 | [],_=>[]
 | (m,c)::p,q=>MY (M0 m c q) (C6 p q)
theorem C7 (η:Nat->Int) : ∀ p q,evP η (C6 p q)=evP η p*evP η q
 | [],q=>by simp [C6,evP]
 | (m,c)::p,q=>by simp [C6,evP,rY,HS,C7 η p q,Int.add_mul]
def G9:dM->dM
 | []=>[]
 | (m,c)::p=>(m,-c)::G9 p
theorem lI (η:Nat->Int) : ∀ p,evP η (G9 p) = -evP η p
 | []=>by simp [G9,evP]
 | (m,c)::p=>by simp only [G9,evP,lI η p,Int.neg_mul];omega
def pY (p q:dM):dM:=MY p (G9 q)
theorem g8 (η:Nat->Int)(p q:dM):evP η (pY p q)=evP η p-evP η q:=by rw [pY,rY,lI];omega
def QD (n:Int):dM:=bif isZ n then [] else [([],n)]
theorem QE (η:Nat->Int)(n:Int):evP η (QD n)=n:=by
 unfold QD
 cases h:isZ n with
 | true=>simp [evP,S4 h]
 | false=>simp [evP,evM]
inductive Fx where
 | lit (bits:Nat)
 | var (i:Nat)
 | ofI (p:dM)
 | neg (p:dM)
 | absB (f:Fx)
 | flo (o:Nat) (f g:Fx)
inductive Sh where
 | bool
 | int (k:IntKind)
 | str
 | list (cs:List Sh)
inductive FD where
 | bool (b:Bool)
 | int (k:IntKind) (n:Int)
 | str (l:List UInt8)
 | list (cs:List Sh) (n:Nat) (f:Nat->Nat->FD)
def FD.b:FD->Bool
 | .bool b=>b
 | _=>false
def FD.i:FD->Int
 | .int _ n=>n
 | _=>0
def FD.s:FD->List UInt8
 | .str l=>l
 | _=>[]
def FD.ln:FD->Nat
 | .list _ n _=>n
 | _=>0
def FD.fn:FD->Nat->Nat->FD
 | .list _ _ f=>f
 | _=>fun _ _ => .bool false
def Sh.ex (d:FD):Sh->FD
 | .bool => .bool d.b
 | .int k => .int k d.i
 | .str => .str d.s
 | .list cs => .list cs d.ln d.fn
def jW:List Sh->Nat->Sh
 | [],_ => .bool
 | s::_,0=>s
 | _::l,j+1=>jW l j
def bK (z:Nat->Nat->Option Value):FD->Value->Prop
 | .bool b,v=>v = .bool b
 | .int k n,v=>v = .int k n
 | .str l,v=>v = .string ⟨l.toArray⟩
 | .list cs n f,v => ∃ a c,v = .slice a n c/\n<=c/\c<=maxLen/\(n=0 ∨ ∃ B o,a=some ⟨B,o,none⟩ /\ ∀ i,i<n -> ∀ j,j<cs.length->(jW cs j).ex (f i j)=f i j /\ ∃ u,z B (o+(i*cs.length+j))=some u/\bK z (f i j) u)
inductive Ref where
 | root (k j:Nat)
 | elem (r:Ref) (c:Nat)
 | sub (r:Ref) (sz lo n:Nat)
inductive Ix where
 | lit (n:Int)
 | tm (n:Int)
 | poly (p:dM)
 | abs (p:dM)
 | bits (f:Fx)
inductive fK where
 | pos (p:dM)
 | zer (p:dM)
 | ltw (p q:dM)
 | eqw (p:dM)
 | user (k:Nat) (l:List Int)
 | tm (b:Bool)
 | small (m:Int) (ps:List dM)
inductive Bx where
 | lit (b:Bool)
 | at_ (neg:Bool) (a:fK)
abbrev wr (n:Int):Int:=IntKind.i64.wrap n
def fop:Nat->BinOp
 | 0 => .add
 | 1 => .sub
 | _ => .mul
def Fx.den (η:Env):Fx->Nat
 | .lit b=>b
 | .var i=>η.f i
 | .ofI p=>FloatKind.f64.nearest (wr (evP η.i p))
 | .neg p=>Op.negFloat .f64 (FloatKind.f64.nearest (wr (evP η.i p)))
 | .absB f=>f.den η%9223372036854775808
 | .flo o f g=>(floatBits (fop o) .f64 (f.den η) (g.den η)).getD 0
def Ix.den (η:Env):Ix->Int
 | .lit n=>n
 | .tm n=>n
 | .poly p=>wr (evP η.i p)
 | .abs p=>if wr (-(evP η.i p))>wr (evP η.i p) then wr (-(evP η.i p)) else wr (evP η.i p)
 | .bits f=>(f.den η:Int)
def adB (η:Env)(m:Int):List dM->Bool
 | []=>true
 | p::l=>(decide (-m<=wr (evP η.i p))&&decide (wr (evP η.i p)<=m))&&adB η m l
def fK.den (η:Env):fK->Bool
 | .pos p=>decide (0<evP η.i p)
 | .zer p=>decide (evP η.i p=0)
 | .ltw p q=>decide (wr (evP η.i p)<wr (evP η.i q))
 | .eqw p=>decide (wr (evP η.i p)=0)
 | .user k l=>η.u k l
 | .tm b=>b
 | .small m ps=>adB η m ps
def Bx.den (η:Env):Bx->Bool
 | .lit b=>b
 | .at_ neg a=>a.den η ^^ neg
def Bx.not:Bx->Bx
 | .lit b => .lit (!b)
 | .at_ neg a => .at_ (!neg) a
theorem Bx.den_not (η:Env)(b:Bx):b.not.den η = !(b.den η):=by
 cases b with
 | lit b=>rfl
 | at_ neg a=>simp only [Bx.not,Bx.den];cases a.den η<;>cases neg<;>rfl
abbrev PC:=List (fK × Bool)
def PC.holds (η:Env)(pc:PC):Prop := ∀ x∈pc,x.1.den η=x.2
inductive Cap where
 | known (c:Nat)
 | rest (a:Nat)
inductive Sc where
 | bool (b:Bx)
 | int (k:IntKind) (x:Ix)
 | flt (k:FloatKind) (f:Fx)
 | cpx (k:FloatKind) (re im:Fx)
 | str (l:List UInt8)
 | ptr (a:Option (Nat × Nat))
 | slice (a:Option (Nat × Nat)) (len:Nat) (cap:Cap)
 | map (r:Option Nat)
 | fn (f:FuncId) (caps:List (Nat × Nat))
 | asl (b:Nat) (n:Ix) (c:Nat)
 | aptr (b o:Nat)
 | nilFn
 | nilIface
 | ostr (l:List UInt8)
 | fz (r:Ref) (d:FD)
 | fptr (r:Ref) (cs:List Sh) (n:Nat) (f:Nat->Nat->FD) (i j:Nat)
 | own (b n:Nat)
 | rptr (b sz i j:Nat)
 | mown (b q i n:Nat)
 | mptr (b q i j:Nat)
inductive Sv where
 | one (c:Sc)
 | agg (l:List Sc)
 | tup (l:List (Bool × List Sc))
 | undef
structure Fix where
 l:List Deferred
 z0:Nat->Nat->Option Value
structure Emb where
 b:Nat->Option (Nat × Nat)
 r:Nat->Nat->Option Value
 z:Nat->Nat->Option Value
 d:Nat->Option Obj
 dl:Fix
 m:Nat->Nat->Option (Nat × Nat)
instance:CoeFun Emb (fun _=>Nat->Option (Nat × Nat)):=⟨Emb.b⟩
structure Emb.le (E E':Emb):Prop where
 b : ∀ b x,E b=some x->E' b=some x
 r : ∀ k j v,E.r k j=some v->E'.r k j=some v
 z : ∀ B o v,E.z B o=some v->E'.z B o=some v
 m : ∀ q i x,E.m q i=some x->E'.m q i=some x
theorem Emb.le.refl (E:Emb):Emb.le E E:=⟨fun _ _ h=>h,fun _ _ _ h=>h,fun _ _ _ h=>h,fun _ _ _ h=>h⟩
theorem Emb.le.trans {E E' E'':Emb} (h:E.le E') (h':E'.le E''):E.le E'':=⟨fun b x hb=>h'.b b x (h.b b x hb),fun k j v hv=>h'.r k j v (h.r k j v hv),fun B o v hv=>h'.z B o v (h.z B o v hv),fun q i x hx=>h'.m q i x (h.m q i x hx)⟩
theorem bK.mono {z z':Nat->Nat->Option Value} (h : ∀ B o v,z B o=some v->z' B o=some v) : ∀ {d:FD} {v:Value},bK z d v->bK z' d v
 | .bool _,_,hr=>hr
 | .int _ _,_,hr=>hr
 | .str _,_,hr=>hr
 | .list cs n f,v,hr=>by
  obtain ⟨a,c,e1,e2,e3,e4⟩:=hr;refine ⟨a,c,e1,e2,e3,e4.imp id ?_⟩;rintro ⟨B,o,ea,hc⟩;refine ⟨B,o,ea,fun i hi j hj => ?_⟩
  obtain ⟨h1,u,h2,h3⟩:=hc i hi j hj;exact ⟨h1,u,h _ _ _ h2,bK.mono h h3⟩
def Ref.val (E:Emb):Ref->Option Value
 | .root k j=>E.r k j
 | .elem r c=>match r.val E with
  | some (.slice (some ⟨B,o,none⟩) _ _)=>E.z B (o+c)
  | _=>none
 | .sub r sz lo n=>match r.val E with
  | some (.slice a _ c)=>some (.slice (if c=lo then a else a.map (·.add (lo*sz))) n (c-lo))
  | _=>none
theorem Ref.val_mono {E E':Emb} (h:E.le E') : ∀ {r:Ref} {v:Value},r.val E=some v->r.val E'=some v
 | .root k j,v,hv=>h.r k j v hv
 | .elem r c,v,hv=>by
  simp only [Ref.val] at hv ⊢;split at hv
  ·rename_i B o _ _ hr;rw [Ref.val_mono h hr];exact h.z _ _ _ hv
  ·cases hv
 | .sub r sz lo n,v,hv=>by
  simp only [Ref.val] at hv ⊢;split at hv
  ·rename_i hr;rw [Ref.val_mono h hr];exact hv
  ·cases hv
open Classical in
noncomputable def sX (E:Emb)(r:Ref)(d:FD):Option Value:=
 match r.val E with
 | some v=>if bK E.z d v then some v else none
 | none=>none
theorem aP {E:Emb} {r:Ref} {d:FD} {v:Value}:sX E r d=some v↔r.val E=some v/\bK E.z d v:=by
 unfold sX
 cases hr:r.val E with
 | none=>simp
 | some u=>
  simp only;split
  ·constructor
   ·intro h;cases h;exact ⟨rfl,by assumption⟩
   ·rintro ⟨h,_⟩;exact h
  ·constructor
   ·intro h;cases h
   ·rintro ⟨h,h'⟩;cases h;contradiction
theorem QF {E E':Emb} (h:E.le E') {r:Ref} {d:FD} {v:Value} (hv:sX E r d=some v):sX E' r d=some v:=by
 obtain ⟨h1,h2⟩:=aP.1 hv;exact aP.2 ⟨Ref.val_mono h h1,h2.mono h.z⟩
open Classical in
noncomputable def rZ (E:Emb)(r:Ref)(cs:List Sh)(n:Nat)(f:Nat->Nat->FD)(i j:Nat):Option Value:=
 match r.val E with
 | some (.slice (some ⟨B,o,none⟩) n' c)=>if bK E.z (.list cs n f) (.slice (some ⟨B,o,none⟩) n' c)/\i<n then some (.pointer (some ⟨B,o+(i*cs.length+j),none⟩)) else none
 | _=>none
theorem dN {E:Emb} {r:Ref} {cs:List Sh} {n:Nat} {f:Nat->Nat->FD} {i j:Nat} {v:Value}:rZ E r cs n f i j=some v↔
  ∃ B o c,r.val E=some (.slice (some ⟨B,o,none⟩) n c)/\bK E.z (.list cs n f) (.slice (some ⟨B,o,none⟩) n c)/\i<n/\v = .pointer (some ⟨B,o+(i*cs.length+j),none⟩):=by
 unfold rZ;constructor
 ·intro h;split at h
  ·rename_i B o n' c hr;split at h
   ·rename_i hh
    cases h
    have:n'=n:=by
     obtain ⟨a,c',e,_⟩:=hh.1
     cases e;rfl
    subst this;exact ⟨B,o,c,hr,hh.1,hh.2,rfl⟩
   ·cases h
  ·cases h
 ·rintro ⟨B,o,c,hr,h1,h2,rfl⟩;rw [hr];simp only;rw [if_pos ⟨h1,h2⟩]
theorem JP {E E':Emb} (h:E.le E') {r:Ref} {cs:List Sh} {n:Nat} {f:Nat->Nat->FD} {i j:Nat} {v:Value} (hv:rZ E r cs n f i j=some v):rZ E' r cs n f i j=some v:=by
 obtain ⟨B,o,c,h1,h2,h3,h4⟩:=dN.1 hv;exact dN.2 ⟨B,o,c,Ref.val_mono h h1,h2.mono h.z,h3,h4⟩
def bV (E:Emb)(a:Nat × Nat):Option Addr:=(E a.1).map fun B=>⟨B.1,a.2,none⟩
def b7 (E:Emb):List (Nat × Nat)->Option (List Value)
 | []=>some []
 | a::l=>match bV E a,b7 E l with
  | some x,some r=>some (.pointer (some x)::r)
  | _,_=>none
noncomputable def Sc.den (η:Env)(E:Emb):Sc->Option Value
 | .bool b=>some (.bool (b.den η))
 | .int k x=>some (.int k (x.den η))
 | .flt k f=>some (.float k (f.den η))
 | .cpx k f g=>some (.complex k (f.den η) (g.den η))
 | .str l=>some (.string ⟨l.toArray⟩)
 | .ptr none=>some (.pointer none)
 | .ptr (some a)=>(bV E a).map fun x => .pointer (some x)
 | .slice none n (.known c)=>some (.slice none n c)
 | .slice none _ (.rest _)=>none
 | .slice (some a) n (.known c)=>(bV E a).map fun x => .slice (some x) n c
 | .slice (some a) n (.rest k)=>match E a.1 with
  | some B=>if n+k<=B.2 then some (.slice (some ⟨B.1,a.2,none⟩) n (B.2-k)) else none
  | none=>none
 | .map none=>some (.map none)
 | .map (some b)=>(E b).map fun B => .map (some B.1)
 | .fn f caps=>(b7 E caps).map fun l => .func (.func f) #[] l.toArray
 | .asl b n c=>(E b).map fun B => .slice (some ⟨B.1,B.2,none⟩) (n.den η).toNat (η.i c).toNat
 | .aptr b o=>(E b).map fun B => .pointer (some ⟨B.1,B.2+o,none⟩)
 | .nilFn=>some .nilFunc
 | .nilIface=>some .nilIface
 | .ostr l=>some (.string ⟨l.toArray⟩)
 | .fz r d=>sX E r d
 | .fptr r cs n f i j=>rZ E r cs n f i j
 | .own b n=>match E b with
  | some B=>if n<=B.2 then some (.slice (some ⟨B.1,0,none⟩) n B.2) else none
  | none=>none
 | .rptr b sz i j=>(E b).map fun B => .pointer (some ⟨B.1,i*sz+j,none⟩)
 | .mown _ q i n=>match E.m q i with
  | some B=>if n<=B.2 then some (.slice (some ⟨B.1,0,none⟩) n B.2) else none
  | none=>none
 | .mptr _ q i j=>(E.m q i).map fun B => .pointer (some ⟨B.1,j,none⟩)
noncomputable def aQ (η:Env)(E:Emb):List Sc->Option (List Value)
 | []=>some []
 | c::l=>match c.den η E,aQ η E l with
  | some v,some r=>some (v::r)
  | _,_=>none
noncomputable def bL (η:Env)(E:Emb):Bool × List Sc->Option Value
 | (true,l)=>(aQ η E l).map fun r => .agg r.toArray
 | (false,[c])=>c.den η E
 | (false,_)=>none
noncomputable def aN (η:Env)(E:Emb):List (Bool × List Sc)->Option (List Value)
 | []=>some []
 | c::l=>match bL η E c,aN η E l with
  | some v,some r=>some (v::r)
  | _,_=>none
noncomputable def Sv.den (η:Env)(E:Emb):Sv->Option Value
 | .one c=>c.den η E
 | .agg l=>(aQ η E l).map fun r => .agg r.toArray
 | .tup l=>(aN η E l).map fun r => .tuple r.toArray
 | .undef=>some Go.undef
theorem oN {E E':Emb} (h:E.le E') {a:Nat × Nat} {x:Addr} (ha:bV E a=some x):bV E' a=some x:=by
 unfold bV at *
 cases he:E a.1 with
 | none=>rw [he] at ha;cases ha
 | some B=>rw [he] at ha;rw [h.b _ _ he];exact ha
theorem vL {E E':Emb} (h:E.le E') : ∀ {l:List (Nat × Nat)} {r},b7 E l=some r->b7 E' l=some r
 | [],r,hr=>hr
 | a::l,r,hr=>by
  simp only [b7] at hr ⊢
  cases h1:bV E a with
  | none=>simp [h1] at hr
  | some x=>
   cases h2:b7 E l with
   | none=>simp [h1,h2] at hr
   | some y=>rw [oN h h1,vL h h2];simpa [h1,h2] using hr
theorem Sc.den_mono {η:Env} {E E':Emb} (h:E.le E') {c:Sc} {v:Value} (hc:c.den η E=some v):c.den η E'=some v:=by
 cases c with
 | ptr a=>cases a with
  | none=>exact hc
  | some a=>
   simp only [Sc.den] at hc ⊢
   cases ha:bV E a with
   | none=>rw [ha] at hc;cases hc
   | some x=>rw [ha] at hc;rw [oN h ha];exact hc
 | slice a n c=>
  cases a with
  | none=>cases c<;>exact hc
  | some a=>
   cases c with
   | known c=>
    simp only [Sc.den] at hc ⊢
    cases ha:bV E a with
    | none=>rw [ha] at hc;cases hc
    | some x=>rw [ha] at hc;rw [oN h ha];exact hc
   | rest k=>
    simp only [Sc.den] at hc ⊢
    cases he:E a.1 with
    | none=>rw [he] at hc;cases hc
    | some B=>rw [he] at hc;rw [h.b _ _ he];exact hc
 | map r=>cases r with
  | none=>exact hc
  | some b=>
   simp only [Sc.den] at hc ⊢
   cases he:E b with
   | none=>rw [he] at hc;cases hc
   | some B=>rw [he] at hc;rw [h.b _ _ he];exact hc
 | asl b n c=>
  simp only [Sc.den] at hc ⊢
  cases he:E b with
  | none=>rw [he] at hc;cases hc
  | some B=>rw [he] at hc;rw [h.b _ _ he];exact hc
 | aptr b o=>
  simp only [Sc.den] at hc ⊢
  cases he:E b with
  | none=>rw [he] at hc;cases hc
  | some B=>rw [he] at hc;rw [h.b _ _ he];exact hc
 | fn f caps=>
  simp only [Sc.den] at hc ⊢
  cases he:b7 E caps with
  | none=>rw [he] at hc;cases hc
  | some l=>rw [he] at hc;rw [vL h he];exact hc
 | fz r d=>exact QF h hc
 | fptr r cs n f i j=>exact JP h hc
 | own b n=>
  simp only [Sc.den] at hc ⊢
  cases he:E b with
  | none=>rw [he] at hc;cases hc
  | some B=>rw [he] at hc;rw [h.b _ _ he];exact hc
 | rptr b sz i j=>
  simp only [Sc.den] at hc ⊢
  cases he:E b with
  | none=>rw [he] at hc;cases hc
  | some B=>rw [he] at hc;rw [h.b _ _ he];exact hc
 | mown b q i n=>
  simp only [Sc.den] at hc ⊢
  cases he:E.m q i with
  | none=>rw [he] at hc;cases hc
  | some B=>rw [he] at hc;rw [h.m _ _ _ he];exact hc
 | mptr b q i j=>
  simp only [Sc.den] at hc ⊢
  cases he:E.m q i with
  | none=>rw [he] at hc;cases hc
  | some B=>rw [he] at hc;rw [h.m _ _ _ he];exact hc
 | _=>exact hc
theorem fZ {η:Env} {E E':Emb} (h:E.le E') : ∀ {l:List Sc} {r},aQ η E l=some r->aQ η E' l=some r
 | [],r,hr=>hr
 | c::l,r,hr=>by
  simp only [aQ] at hr ⊢
  cases h1:c.den η E with
  | none=>simp [h1] at hr
  | some x=>
   cases h2:aQ η E l with
   | none=>simp [h1,h2] at hr
   | some y=>rw [Sc.den_mono h h1,fZ h h2];simpa [h1,h2] using hr
theorem JQ {η:Env} {E E':Emb} (h:E.le E') {c:Bool × List Sc} {v:Value} (hc:bL η E c=some v):bL η E' c=some v:=by
 unfold bL at *;split at hc
 ·rename_i l
  cases h2:aQ η E l with
  | none=>rw [h2] at hc;cases hc
  | some y=>rw [h2] at hc;rw [fZ h h2];exact hc
 ·exact Sc.den_mono h hc
 ·cases hc
theorem sY {η:Env} {E E':Emb} (h:E.le E') : ∀ {l:List (Bool × List Sc)} {r},aN η E l=some r->aN η E' l=some r
 | [],r,hr=>hr
 | c::l,r,hr=>by
  simp only [aN] at hr ⊢
  cases h1:bL η E c with
  | none=>simp [h1] at hr
  | some x=>
   cases h2:aN η E l with
   | none=>simp [h1,h2] at hr
   | some y=>rw [JQ h h1,sY h h2];simpa [h1,h2] using hr
theorem Sv.den_mono {η:Env} {E E':Emb} (h:E.le E') {c:Sv} {v:Value} (hc:c.den η E=some v):c.den η E'=some v:=by
 cases c with
 | one c=>exact Sc.den_mono h hc
 | agg l=>
  simp only [Sv.den] at hc ⊢
  cases h2:aQ η E l with
  | none=>rw [h2] at hc;cases hc
  | some y=>rw [h2] at hc;rw [fZ h h2];exact hc
 | tup l=>
  simp only [Sv.den] at hc ⊢
  cases h2:aN η E l with
  | none=>rw [h2] at hc;cases hc
  | some y=>rw [h2] at hc;rw [sY h h2];exact hc
 | undef=>exact hc
inductive aB (α:Type) where
 | leaf (a:α)
 | fork (a:fK) (t f:aB α)
 | fail
def aB.bind {α β:Type}:aB α->(α->aB β)->aB β
 | .leaf a,k=>k a
 | .fork a t f,k => .fork a (t.bind k) (f.bind k)
 | .fail,_ => .fail
def aB.at_ {α:Type} (η:Env):aB α->Option α
 | .leaf a=>some a
 | .fork a t f=>if a.den η then t.at_ η else f.at_ η
 | .fail=>none
theorem aB.at_bind {α β:Type} {η:Env} {k:α->aB β} {b:β} : ∀ {t:aB α},(t.bind k).at_ η=some b -> ∃ a,t.at_ η=some a/\(k a).at_ η=some b
 | .leaf a,h=>⟨a,rfl,h⟩
 | .fork a t f,h=>by
  simp only [aB.bind,aB.at_] at h ⊢;split at h
  ·obtain ⟨x,h1,h2⟩:=aB.at_bind h;exact ⟨x,by simp [*],h2⟩
  ·obtain ⟨x,h1,h2⟩:=aB.at_bind h;exact ⟨x,by simp [*],h2⟩
 | .fail,h=>by simp [aB.bind,aB.at_] at h
def aB.all {α:Type} (ok:α->Bool):aB α->Bool
 | .leaf a=>ok a
 | .fork _ t f=>t.all ok&&f.all ok
 | .fail=>false
structure Dec where
 dec:PC->fK->Option Bool
 fits:PC->dM->Bool
structure Dec.Ok (D:Dec) (η:Env):Prop where
 dec : ∀ pc a b,D.dec pc a=some b->pc.holds η->a.den η=b
 fits : ∀ pc p,D.fits pc p=true->pc.holds η->wr (evP η.i p)=evP η.i p
def dP {α:Type} (D:Dec) (pc:PC) (b:Bx) (k:Bool->PC->aB α):aB α:=
 match b with
 | .lit x=>k x pc
 | .at_ neg a=>match D.dec pc a with
  | some v=>k (v ^^ neg) pc
  | none => .fork a (k (!neg) ((a,true)::pc)) (k neg ((a,false)::pc))
theorem bN {α:Type} {D:Dec} {η:Env} (hD:D.Ok η) {pc:PC} (hpc:pc.holds η) {b:Bx} {k:Bool->PC->aB α} {x:α}
  (h:(dP D pc b k).at_ η=some x) : ∃ pc',pc'.holds η/\(k (b.den η) pc').at_ η=some x:=by
 unfold dP at h;split at h
 ·exact ⟨pc,hpc,h⟩
 ·rename_i neg a;split at h
  ·rename_i v hv;refine ⟨pc,hpc,?_⟩;simp only [Bx.den,hD.dec pc a v hv hpc];exact h
  ·simp only [aB.at_] at h;simp only [Bx.den]
   cases ha:a.den η with
   | true=>
    simp only [ha,if_true] at h;refine ⟨(a,true)::pc,?_,by simpa using h⟩
    intro y hy
    cases hy with
    | head=>exact ha
    | tail _ hm=>exact hpc y hm
   | false=>
    simp only [ha] at h;refine ⟨(a,false)::pc,?_,by simpa using h⟩
    intro y hy
    cases hy with
    | head=>exact ha
    | tail _ hm=>exact hpc y hm
end Go.Ex
namespace Go.Ex
open Go Go.RowKit
open Nat (beq)
inductive T (α:Type) where
 | nil
 | node (l:T α) (v:Option α) (r:T α)
noncomputable def T.get {α:Type} (t:T α):Nat->Option α:=
 T.rec (fun _=>none) (fun _ v _ ihl ihr i=>bif beq i 0 then v else bif beq (i%2) 1 then ihl (i / 2) else ihr (i / 2-1)) t
theorem T.get_nil {α:Type} (i:Nat):(T.nil:T α).get i=none:=rfl
theorem T.get_node {α:Type} (l r:T α) (v:Option α) (i:Nat):(T.node l v r).get i=bif beq i 0 then v else bif beq (i%2) 1 then l.get (i / 2) else r.get (i / 2-1):=rfl
noncomputable def T.put {α:Type} (n:Nat):T α->Nat->Option α->T α:=
 Nat.rec (fun t _ _=>t) (fun _ ih t i x=>
  T.rec (bif beq i 0 then .node .nil x .nil else bif beq (i%2) 1 then .node (ih .nil (i / 2) x) none .nil else .node .nil none (ih .nil (i / 2-1) x))
   (fun l v r _ _=>bif beq i 0 then .node l x r else bif beq (i%2) 1 then .node (ih l (i / 2) x) v r else .node l v (ih r (i / 2-1) x)) t) n
theorem T.put_nil {α:Type} (n i:Nat) (x:Option α):T.put (n+1) .nil i x=bif beq i 0 then .node .nil x .nil else bif beq (i%2) 1 then .node (T.put n .nil (i / 2) x) none .nil else .node .nil none (T.put n .nil (i / 2-1) x):=rfl
theorem T.put_node {α:Type} (n i:Nat) (l r:T α) (v x:Option α):T.put (n+1) (.node l v r) i x=bif beq i 0 then .node l x r else bif beq (i%2) 1 then .node (T.put n l (i / 2) x) v r else .node l v (T.put n r (i / 2-1) x):=rfl
noncomputable def T.set {α:Type} (t:T α) (i:Nat) (x:Option α):T α:=T.put 16 t i x
theorem T.get_put_same {α:Type} : ∀ (n:Nat) (t:T α) (i:Nat) (x:Option α),i+1<2^n->(T.put n t i x).get i=x
 | 0,_,i,_,h=>by simp at h
 | n+1,t,i,x,h=>by
  have h2:2^(n+1)=2*2^n:=by rw [Nat.pow_succ];omega
  cases t with
  | nil=>
   simp only [T.put_nil]
   cases h0:beq i 0 with
   | true=>simp [T.get_node,h0]
   | false=>
    have hi:i≠0:=fun e=>by subst e;simp at h0
    cases h1:beq (i%2) 1 with
    | true=>
     have:=Nat.eq_of_beq_eq_true h1
     simp only [cond_false,cond_true,T.get_node,h0,h1];exact T.get_put_same n _ _ _ (by omega)
    | false=>
     have:i%2≠1:=fun e=>by rw [e] at h1;simp at h1
     simp only [cond_false,T.get_node,h0,h1];exact T.get_put_same n _ _ _ (by omega)
  | node l v r=>
   simp only [T.put_node]
   cases h0:beq i 0 with
   | true=>simp [T.get_node,h0]
   | false=>
    have hi:i≠0:=fun e=>by subst e;simp at h0
    cases h1:beq (i%2) 1 with
    | true=>
     have:=Nat.eq_of_beq_eq_true h1
     simp only [cond_false,cond_true,T.get_node,h0,h1];exact T.get_put_same n _ _ _ (by omega)
    | false=>
     have:i%2≠1:=fun e=>by rw [e] at h1;simp at h1
     simp only [cond_false,T.get_node,h0,h1];exact T.get_put_same n _ _ _ (by omega)
theorem T.get_put_ne {α:Type} : ∀ (n:Nat) (t:T α) (i j:Nat) (x:Option α),i≠j->(T.put n t i x).get j=t.get j
 | 0,t,_,_,_,_=>rfl
 | n+1,t,i,j,x,h=>by
  cases t with
  | nil=>
   simp only [T.put_nil]
   cases h0:beq i 0 with
   | true=>
    have hi:i=0:=Nat.eq_of_beq_eq_true h0
    have hj:beq j 0=false:=by cases hb:beq j 0 with | false=>rfl | true=>exact absurd (hi.trans (Nat.eq_of_beq_eq_true hb).symm) h
    simp only [cond_true,T.get_node,T.get_nil,hj,cond_false];cases beq (j%2) 1<;>rfl
   | false=>
    cases h1:beq (i%2) 1 with
    | true=>
     simp only [cond_false,cond_true,T.get_node,T.get_nil]
     cases hj:beq j 0 with
     | true=>simp
     | false=>
      cases hj1:beq (j%2) 1 with
      | true=>
       simp only [cond_false,cond_true]
       have a1:=Nat.eq_of_beq_eq_true h1
       have a2:=Nat.eq_of_beq_eq_true hj1
       rw [T.get_put_ne n _ _ _ _ (by omega)];rfl
      | false=>simp
    | false=>
     simp only [cond_false,T.get_node,T.get_nil]
     cases hj:beq j 0 with
     | true=>simp
     | false=>
      cases hj1:beq (j%2) 1 with
      | true=>simp
      | false=>
       simp only [cond_false]
       have a1:i%2≠1:=fun e=>by rw [e] at h1;simp at h1
       have a2:j%2≠1:=fun e=>by rw [e] at hj1;simp at hj1
       have a3:i≠0:=fun e=>by subst e;simp at h0
       have a4:j≠0:=fun e=>by subst e;simp at hj
       rw [T.get_put_ne n _ _ _ _ (by omega)];rfl
  | node l v r=>
   simp only [T.put_node]
   cases h0:beq i 0 with
   | true=>
    have hi:i=0:=Nat.eq_of_beq_eq_true h0
    have hj:beq j 0=false:=by cases hb:beq j 0 with | false=>rfl | true=>exact absurd (hi.trans (Nat.eq_of_beq_eq_true hb).symm) h
    simp only [cond_true,T.get_node,hj,cond_false]
   | false=>
    cases h1:beq (i%2) 1 with
    | true=>
     simp only [cond_false,cond_true,T.get_node]
     cases hj:beq j 0 with
     | true=>simp
     | false=>
      cases hj1:beq (j%2) 1 with
      | true=>
       simp only [cond_false,cond_true]
       have a1:=Nat.eq_of_beq_eq_true h1
       have a2:=Nat.eq_of_beq_eq_true hj1
       rw [T.get_put_ne n _ _ _ _ (by omega)]
      | false=>simp
    | false=>
     simp only [cond_false,T.get_node]
     cases hj:beq j 0 with
     | true=>simp
     | false=>
      cases hj1:beq (j%2) 1 with
      | true=>simp
      | false=>
       simp only [cond_false]
       have a1:i%2≠1:=fun e=>by rw [e] at h1;simp at h1
       have a2:j%2≠1:=fun e=>by rw [e] at hj1;simp at hj1
       have a3:i≠0:=fun e=>by subst e;simp at h0
       have a4:j≠0:=fun e=>by subst e;simp at hj
       rw [T.get_put_ne n _ _ _ _ (by omega)]
theorem T.get_set_same {α:Type} (t:T α) (i:Nat) (x:Option α) (h:i<65535):(t.set i x).get i=x:=T.get_put_same 16 t i x (by omega)
theorem T.get_set_ne {α:Type} (t:T α) (i j:Nat) (x:Option α) (h:i≠j):(t.set i x).get j=t.get j:=T.get_put_ne 16 t i j x h
noncomputable def T.ofList {α:Type}:List (Nat × α)->T α
 | [] => .nil
 | (i,x)::l=>(T.ofList l).set i (some x)
theorem T.get_ofList {α:Type} : ∀ {l:List (Nat × α)} {i:Nat} {x:α},(∀ p∈l,p.1<65535)->(T.ofList l).get i=some x->(i,x)∈l
 | [],i,x,_,h=>by simp [T.ofList,T.get_nil] at h
 | (j,y)::l,i,x,hl,h=>by
  simp only [T.ofList] at h
  by_cases hij:j=i
  ·subst hij;rw [T.get_set_same _ _ _ (hl (j,y) (List.mem_cons_self ..))] at h
   cases h;exact List.mem_cons_self ..
  ·rw [T.get_set_ne _ _ _ _ hij] at h;exact List.mem_cons_of_mem _ (T.get_ofList (fun p hp=>hl p (List.mem_cons_of_mem _ hp)) h)
def bD:List FD->Nat->FD
 | [],_ => .bool false
 | d::_,0=>d
 | _::l,j+1=>bD l j
def eY:Sh->Bool
 | .list _=>false
 | _=>true
inductive Blk where
 | cells (e:TypeId) (sz:Nat) (l:List Sc)
 | map (ss:List Sh) (ag:Bool) (f:List UInt8->Option (List FD))
 | arow (l:List Sc)
 | row (e:TypeId) (cs:List Sh) (n:Nat) (f:Nat->Nat->FD)
 | mat (q:Nat) (e:TypeId) (s:Sh) (n x m:Nat) (f:Nat->Nat->FD)
def AgV (ag:Bool)(v:Value)(vs:List Value):Prop:=
 match ag with
 | true=>v = .agg vs.toArray
 | false=>vs=[v]
def abi (ss:List Sh)(ag:Bool)(ds:List FD)(v:Value):Prop:=
 ∃ vs:List Value,AgV ag v vs/\vs.length=ss.length /\ ∀ j,j<ss.length->eY (jW ss j)=true/\(jW ss j).ex (bD ds j)=bD ds j /\ ∃ u,vs[j]? = some u/\bK (fun _ _=>none) (bD ds j) u
def abj:Value->Prop
 | .string _=>True
 | _=>False
structure S5 (ss:List Sh) (ag:Bool) (f:List UInt8->Option (List FD)) (es:Array MapEntry):Prop where
 keys : ∀ x∈es.toList,abj x.key
 all : ∀ x∈es.toList,∀ l:List UInt8,x.key = .string ⟨l.toArray⟩ -> ∃ ds,f l=some ds/\abi ss ag ds x.val
 any : ∀ l ds,f l=some ds -> ∃ x∈es.toList,x.key = .string ⟨l.toArray⟩
 dist:es.toList.Pairwise (fun x y=>x.key≠y.key)
def Blk.Rel (η:Env)(E:Emb)(K:Nat):Blk->Option Obj->Prop
 | .cells e sz l,o => ∃ c vs rest,o=some (.cells c e (0,0))/\c.size=K*sz/\K<=maxLen/\aQ η E l=some vs/\c.toList=vs++rest
 | .map ss ag f,o => ∃ es ck,o=some (.map es ck)/\S5 ss ag f es
 | .arow l,o => ∃ c e fz vs,o=some (.cells c e fz)/\aQ η E l=some vs /\ ∀ j v,vs[j]? = some v->c[K+j]? = some v
 | .row e cs n f,o => ∃ c,o=some (.cells c e (0,0))/\c.size=K*cs.length/\n<=K/\K<=maxLen/\0<cs.length /\ ∀ i,i<n -> ∀ j,j<cs.length->(jW cs j).ex (f i j)=f i j /\ ∃ u,c[i*cs.length+j]? = some u/\bK E.z (f i j) u
 | .mat _ e _ n _ _ _,o => ∃ c,o=some (.cells c e (0,0))/\c.size=K/\n<=K/\K<=maxLen
def Blk.own:Blk->Prop
 | .arow _=>False
 | _=>True
theorem Blk.Rel.mono {η:Env} {E E':Emb} (h:E.le E') {K:Nat} {b:Blk} {o:Option Obj} (hr:b.Rel η E K o):b.Rel η E' K o:=by
 cases b with
 | cells e sz l=>obtain ⟨c,vs,rest,h1,h2,h3,h4,h5⟩:=hr;exact ⟨c,vs,rest,h1,h2,h3,fZ h h4,h5⟩
 | map ss ag f=>exact hr
 | arow l=>obtain ⟨c,e,fz,vs,h1,h2,h3⟩:=hr;exact ⟨c,e,fz,vs,h1,fZ h h2,h3⟩
 | row e cs n f=>
  obtain ⟨c,h1,h2,h3,h4,h5,h6⟩:=hr;refine ⟨c,h1,h2,h3,h4,h5,fun i hi j hj => ?_⟩
  obtain ⟨k1,u,k2,k3⟩:=h6 i hi j hj;exact ⟨k1,u,k2,k3.mono h.z⟩
 | mat q e s n x m f=>exact hr
def C8 (E:Emb)(w:World)(s:Sh)(m:Nat)(g:Nat->FD)(B L:Nat):Prop:=
 ∃ c e,w.heap[B]? = some (.cells c e (0,0))/\c.size=L/\m<=L/\L<=maxLen /\ ∀ k,k<m->s.ex (g k)=g k /\ ∃ u,c[k]? = some u/\bK E.z (g k) u
def MIn (E:Emb)(hp:T Blk)(B:Nat):Prop := ∃ b q e s n x m f i L,hp.get b=some (.mat q e s n x m f)/\i<x/\E.m q i=some (B,L)
def adC (E:Emb)(hp:T Blk)(B:Nat):Prop := ∃ b q e s n x m f K,hp.get b=some (.mat q e s n x m f)/\E b=some (B,K)
structure xZ (E:Emb) (hp:T Blk) (nx lo base:Nat) (w:World):Prop where
 dom : ∀ q i x,E.m q i=some x->q<nx
 top : ∀ q i B L,E.m q i=some (B,L)->B<w.heap.size
 hi : ∀ q i B L,lo<=q->E.m q i=some (B,L)->base<=B
 row : ∀ b q e s n x m f,hp.get b=some (.mat q e s n x m f) -> ∃ B K c,E b=some (B,K)/\w.heap[B]? = some (.cells c e (0,0))/\x<=n/\
  (∀ i,i<x -> ∃ B' L,E.m q i=some (B',L)/\c[i]? = some (.slice (some ⟨B',0,none⟩) m L)/\C8 E w s m (f i) B' L) /\ ∀ i,i<n -> ∃ u,c[i]? = some u
 z : ∀ B,MIn E hp B -> ∀ o,E.z B o=none
 own : ∀ B,MIn E hp B -> ∀ j c K,hp.get j=some c->E j=some (B,K)->False
 inj : ∀ b q e s n x m f b' q' e' s' n' x' m' f' i i' B L L',hp.get b=some (.mat q e s n x m f)->hp.get b'=some (.mat q' e' s' n' x' m' f')->i<x->i'<x'->E.m q i=some (B,L)->E.m q' i'=some (B,L')->q=q'/\i=i'
 uni : ∀ b q e s n x m f b' e' s' n' x' m' f',hp.get b=some (.mat q e s n x m f)->hp.get b'=some (.mat q e' s' n' x' m' f')->b=b'
 qlt : ∀ b q e s n x m f,hp.get b=some (.mat q e s n x m f)->q<nx
theorem xZ.keep {E:Emb} {hp:T Blk} {nx lo base:Nat} {w:World} (h:xZ E hp nx lo base w) {E':Emb} {hp':T Blk} {nx' lo' base':Nat} {w':World} (hm : ∀ q i,E'.m q i=E.m q i) (hnx:nx<=nx') (hhi : ∀ q i B L,lo'<=q->E.m q i=some (B,L)->base'<=B)
  (hsz:w.heap.size<=w'.heap.size) (F : ∀ b q e s n x m f,hp'.get b=some (.mat q e s n x m f)->hp.get b=some (.mat q e s n x m f)/\E' b=E b) (hz : ∀ B o v,E.z B o=some v->E'.z B o=some v)
  (hout : ∀ B,adC E hp B->w'.heap[B]? = w.heap[B]?) (G : ∀ B,MIn E hp B->w'.heap[B]? = w.heap[B]?) (hzn : ∀ B,MIn E hp B -> ∀ o,E'.z B o=none) (hown : ∀ B,MIn E hp B -> ∀ j c K,hp'.get j=some c->E' j=some (B,K)->False):xZ E' hp' nx' lo' base' w':=by
 have hIn : ∀ B,MIn E' hp' B->MIn E hp B:=by
  rintro B ⟨b,q,e,s,n,x,m,f,i,L,h1,h2,h3⟩;exact ⟨b,q,e,s,n,x,m,f,i,L,(F _ _ _ _ _ _ _ _ h1).1,h2,by rw [←hm];exact h3⟩
 refine ⟨fun q i x hx=>Nat.lt_of_lt_of_le (h.dom q i x (by rw [←hm];exact hx)) hnx,fun q i B L hx=>Nat.lt_of_lt_of_le (h.top q i B L (by rw [←hm];exact hx)) hsz,fun q i B L hq hx=>hhi q i B L hq (by rw [←hm];exact hx),fun b q e s n x m f hb => ?_,fun B hB=>hzn B (hIn B hB),fun B hB=>hown B (hIn B hB),?_,?_,fun b q e s n x m f hb=>Nat.lt_of_lt_of_le (h.qlt b q e s n x m f (F _ _ _ _ _ _ _ _ hb).1) hnx⟩
 ·obtain ⟨g1,g2⟩:=F _ _ _ _ _ _ _ _ hb;obtain ⟨B,K,c,k1,k2,k3,k4,k5⟩:=h.row b q e s n x m f g1;refine ⟨B,K,c,by rw [g2];exact k1,by rw [hout B ⟨b,q,e,s,n,x,m,f,K,g1,k1⟩];exact k2,k3,fun i hi => ?_,k5⟩
  obtain ⟨B',L,l1,l2,c',e',l3,l4,l5,l6,l7⟩:=k4 i hi;refine ⟨B',L,by rw [hm];exact l1,l2,c',e',by rw [G B' ⟨b,q,e,s,n,x,m,f,i,L,g1,hi,l1⟩];exact l3,l4,l5,l6,fun k hk => ?_⟩
  obtain ⟨r1,u,r2,r3⟩:=l7 k hk;exact ⟨r1,u,r2,r3.mono hz⟩
 ·intro b q e s n x m f b' q' e' s' n' x' m' f' i i' B L L' hb hb' hi hi' hE hE';exact h.inj b q e s n x m f b' q' e' s' n' x' m' f' i i' B L L' (F _ _ _ _ _ _ _ _ hb).1 (F _ _ _ _ _ _ _ _ hb').1 hi hi' (by rw [←hm];exact hE) (by rw [←hm];exact hE')
 ·intro b q e s n x m f b' e' s' n' x' m' f' hb hb';exact h.uni b q e s n x m f b' e' s' n' x' m' f' (F _ _ _ _ _ _ _ _ hb).1 (F _ _ _ _ _ _ _ _ hb').1
theorem xZ.empty {E:Emb} {hp:T Blk} {nx lo base:Nat} {w:World} (hm : ∀ q i,E.m q i=none) (hh : ∀ b q e s n x m f,hp.get b≠some (.mat q e s n x m f)):xZ E hp nx lo base w where
 dom:=fun q i x h=>by rw [hm] at h;cases h
 top:=fun q i B L h=>by rw [hm] at h;cases h
 hi:=fun q i B L _ h=>by rw [hm] at h;cases h
 row:=fun b q e s n x m f h=>(hh b q e s n x m f h).elim
 z:=fun B h=>by obtain ⟨b,q,e,s,n,x,m,f,i,L,h1,_⟩:=h;exact (hh _ _ _ _ _ _ _ _ h1).elim
 own:=fun B h=>by obtain ⟨b,q,e,s,n,x,m,f,i,L,h1,_⟩:=h;exact (hh _ _ _ _ _ _ _ _ h1).elim
 inj:=fun b q e s n x m f b' q' e' s' n' x' m' f' i i' B L L' h=>(hh b q e s n x m f h).elim
 uni:=fun b q e s n x m f b' e' s' n' x' m' f' h=>(hh b q e s n x m f h).elim
 qlt:=fun b q e s n x m f h=>(hh b q e s n x m f h).elim
theorem MIn.lt {E:Emb} {hp:T Blk} {nx lo base:Nat} {w:World} (h:xZ E hp nx lo base w) {B:Nat} (hB:MIn E hp B):B<w.heap.size:=by
 obtain ⟨b,q,e,s,n,x,m,f,i,L,h1,h2,h3⟩:=hB;exact h.top _ _ _ _ h3
def Blk.noM:Blk->Prop
 | .mat _ _ _ _ _ _ _=>False
 | _=>True
def pZ (s:Nat)(v:Value):Prop := ∀ a n c,v = .slice (some a) n c->0<n->s<=a.block
def HT (E:Emb)(D:Nat)(o:Obj):Prop:=o.isCells=false∨((∀ j,E.z D j=none) /\ ∀ q i L,E.m q i≠some (D,L))
theorem HT.of {E E':Emb} {D:Nat} {o:Obj} (h:HT E D o) (hz : ∀ j v,E'.z D j=some v->E.z D j=some v) (hm : ∀ q i L,E'.m q i=some (D,L) -> ∃ q' i' L',E.m q' i'=some (D,L')):HT E' D o:=by
 rcases h with h | ⟨h1,h2⟩
 ·exact .inl h
 ·refine .inr ⟨fun j => ?_,fun q i L e=>by obtain ⟨q',i',L',e'⟩:=hm q i L e;exact h2 q' i' L' e'⟩
  cases hv:E'.z D j with
  | none=>rfl
  | some v=>have:=hz j v hv;rw [h1 j] at this;cases this
structure aF (η:Env) (E:Emb) (hp:T Blk) (nx lo base:Nat) (w:World):Prop where
 dom : ∀ i b,hp.get i=some b->i<nx
 cell : ∀ i b,hp.get i=some b -> ∃ B K,E i=some (B,K)/\b.Rel η E K w.heap[B]?
 inj : ∀ i j b c B C K L,i≠j->hp.get i=some b->hp.get j=some c->E i=some (B,K)->E j=some (C,L)->B≠C
 hi : ∀ i B K,lo<=i->E i=some (B,K)->base<=B
 top : ∀ i B K,E i=some (B,K)->B<w.heap.size
 bot:base<=w.heap.size
 free : ∀ i,nx<=i->E i=none
 lim:nx<=65000
 zw : ∀ B o v,E.z B o=some v->w.cell? ⟨B,o,none⟩=some v
 zd : ∀ i b B K,hp.get i=some b->b.own->E i=some (B,K) -> ∀ o,E.z B o=none
 rfree : ∀ k,nx<=k -> ∀ j,E.r k j=none
 dk : ∀ D o,E.d D=some o->base<=D/\w.heap[D]? = some o/\HT E D o /\ ∀ i K,E i≠some (D,K)
 rn:(∀ k j v,lo<=k->E.r k j=some v->pZ base v) /\ ∀ B o v,B<base->E.z B o=some v->E.dl.z0 B o=some v
 mt:xZ E hp nx lo base w
theorem aF.zlt {η:Env} {E:Emb} {hp:T Blk} {nx lo base:Nat} {w:World} (h:aF η E hp nx lo base w) {B o:Nat} {v:Value} (hz:E.z B o=some v):B<w.heap.size:=by
 have:=h.zw B o v hz
 rcases Nat.lt_or_ge B w.heap.size with hlt | hge
 ·exact hlt
 ·exfalso;unfold World.cell? at this;rw [Array.getElem?_eq_none (by simpa using hge)] at this
  simp at this
theorem aF.below {η:Env} {E:Emb} {hp:T Blk} {nx lo base:Nat} {w w':World} (h:aF η E hp nx lo base w) (hb:Below w.heap.size w w'):aF η E hp nx lo base w' where
 dom:=h.dom
 cell:=fun i b hi=>by
  obtain ⟨B,K,hE,hr⟩:=h.cell i b hi;exact ⟨B,K,hE,by rw [hb.block B (h.top i B K hE)];exact hr⟩
 inj:=h.inj
 hi:=h.hi
 top:=fun i B K hE=>Nat.lt_of_lt_of_le (h.top i B K hE) hb.size
 bot:=Nat.le_trans h.bot hb.size
 free:=h.free
 lim:=h.lim
 zw:=fun B o v hz=>(World.cell?_of_block (a:=⟨B,o,none⟩) (hb.block B (h.zlt hz))).trans (h.zw B o v hz)
 zd:=h.zd
 rfree:=h.rfree
 dk:=fun D o hD=>⟨(h.dk D o hD).1,(hb.block D (Array.getElem?_eq_some_iff.1 (h.dk D o hD).2.1).1).trans (h.dk D o hD).2.1,(h.dk D o hD).2.2⟩
 rn:=h.rn
 mt:=h.mt.keep (fun _ _=>rfl) (Nat.le_refl _) h.mt.hi hb.size (fun _ _ _ _ _ _ _ _ hg=>⟨hg,rfl⟩) (fun _ _ _ h=>h) (fun B ⟨b,_,_,_,_,_,_,_,K,_,hE⟩=>hb.block B (h.top b B K hE)) (fun B hB=>hb.block B (hB.lt h.mt)) h.mt.z h.mt.own
theorem aF.sub {η:Env} {E:Emb} {hp hp':T Blk} {nx lo base:Nat} {w:World} (h:aF η E hp nx lo base w) (hs : ∀ i b,hp'.get i=some b->hp.get i=some b):aF η E hp' nx lo base w where
 dom:=fun i b hi=>h.dom i b (hs i b hi)
 cell:=fun i b hi=>h.cell i b (hs i b hi)
 inj:=fun i j b c B C K L hne hi hj=>h.inj i j b c B C K L hne (hs i b hi) (hs j c hj)
 hi:=h.hi
 top:=h.top
 bot:=h.bot
 free:=h.free
 lim:=h.lim
 zw:=h.zw
 zd:=fun i b B K hi=>h.zd i b B K (hs i b hi)
 rfree:=h.rfree
 dk:=h.dk
 rn:=h.rn
 mt:=h.mt.keep (fun _ _=>rfl) (Nat.le_refl _) h.mt.hi (Nat.le_refl _) (fun _ _ _ _ _ _ _ _ hg=>⟨hs _ _ hg,rfl⟩) (fun _ _ _ h=>h) (fun _ _=>rfl) (fun _ _=>rfl) h.mt.z (fun B hB j c K hj=>h.mt.own B hB j c K (hs _ _ hj))
theorem aF.drew {η:Env} {E:Emb} {hp:T Blk} {nx lo base:Nat} {w:World} (h:aF η E hp nx lo base w):aF η E hp nx lo base w.drew:=h.below (Below.refl _ _).drew
def Emb.set (E:Emb)(n:Nat)(x:Nat × Nat):Emb:={ E with b:=fun i=>if i=n then some x else E i }
theorem Emb.le_set {E:Emb} {n:Nat} {x:Nat × Nat} (h:E n=none):E.le (E.set n x):=⟨fun b y hb=>by
 unfold Emb.set;simp only;split
 ·rename_i e;subst e;rw [h] at hb;cases hb
 ·exact hb,fun _ _ _ h=>h,fun _ _ _ h=>h,fun _ _ _ h=>h⟩
theorem Emb.set_same (E:Emb)(n:Nat)(x:Nat × Nat):E.set n x n=some x:=by simp [Emb.set]
theorem Emb.set_ne (E:Emb) {n i:Nat} (x:Nat × Nat) (h:i≠n):E.set n x i=E i:=by simp [Emb.set,h]
structure aJ (E E':Emb) (n:Nat):Prop where
 b : ∀ i,i<n->E' i=E i
 r : ∀ k,k<n -> ∀ j,E'.r k j=E.r k j
 z : ∀ B o v,E.z B o=some v->E'.z B o=some v
 d : ∀ D o,E.d D=some o->E'.d D=some o
 dl:E'.dl=E.dl
 m : ∀ q,q<n -> ∀ i,E'.m q i=E.m q i
theorem aJ.refl (E:Emb)(n:Nat):aJ E E n:=⟨fun _ _=>rfl,fun _ _ _=>rfl,fun _ _ _ h=>h,fun _ _ h=>h,rfl,fun _ _ _=>rfl⟩
theorem aJ.trans {E E' E'':Emb} {n m:Nat} (h:aJ E E' n) (h':aJ E' E'' m) (hm:n<=m):aJ E E'' n:=
 ⟨fun i hi=>(h'.b i (by omega)).trans (h.b i hi),fun k hk j=>(h'.r k (by omega) j).trans (h.r k hk j),fun B o v hv=>h'.z B o v (h.z B o v hv),fun D o hD=>h'.d D o (h.d D o hD),h'.dl.trans h.dl,fun q hq i=>(h'.m q (by omega) i).trans (h.m q hq i)⟩
theorem aJ.le {η:Env} {E E':Emb} {hp:T Blk} {nx lo base:Nat} {w:World} (h:aJ E E' nx) (hr:aF η E hp nx lo base w):E.le E':=by
 refine ⟨fun b x hb => ?_,fun k j v hv => ?_,h.z,fun q i x hx=>by rw [h.m q (hr.mt.dom q i x hx)];exact hx⟩
 ·by_cases hlt:b<nx
  ·rw [h.b b hlt];exact hb
  ·rw [hr.free b (by omega)] at hb;cases hb
 ·by_cases hlt:k<nx
  ·rw [h.r k hlt];exact hv
  ·rw [hr.rfree k (by omega)] at hv;cases hv
theorem aJ.set (E:Emb)(n:Nat)(x:Nat × Nat):aJ E (E.set n x) n:=⟨fun _ hi=>Emb.set_ne _ _ (by omega),fun _ _ _=>rfl,fun _ _ _ h=>h,fun _ _ h=>h,rfl,fun _ _ _=>rfl⟩
theorem aJ.less {E E':Emb} {n m:Nat} (h:aJ E E' n) (hm:m<=n):aJ E E' m:=⟨fun i hi=>h.b i (by omega),fun k hk=>h.r k (by omega),h.z,h.d,h.dl,fun q hq=>h.m q (by omega)⟩
theorem aF.alloc {η:Env} {E:Emb} {hp:T Blk} {nx lo base:Nat} {w:World} (h:aF η E hp nx lo base w) {n:Nat} {b:Blk} {o:Obj} {K m:Nat} (hn:E n=none) (hnx:n<m) (hm:nx<=m) (hmm:m<=65000) (hfree : ∀ i,m<=i->E i=none)
  (hr:b.Rel η (E.set n (w.heap.size,K)) K (some o)) (hbm:b.noM:=by trivial):aF η (E.set n (w.heap.size,K)) (hp.set n (some b)) m lo base (w.alloc o):=by
 have hle:E.le (E.set n (w.heap.size,K)):=Emb.le_set hn
 have F : ∀ i c,(hp.set n (some b)).get i=some c->(i=n/\c=b)∨(i≠n/\hp.get i=some c):=by
  intro i c hi
  by_cases G:i=n
  ·subst G;rw [T.get_set_same _ _ _ (by omega)] at hi
   cases hi;exact .inl ⟨rfl,rfl⟩
  ·rw [T.get_set_ne _ _ _ _ (Ne.symm G)] at hi;exact .inr ⟨G,hi⟩
 refine ⟨?_,?_,?_,?_,?_,?_,?_,hmm,?_,?_,fun k hk=>h.rfree k (by omega),fun D o hD=>⟨(h.dk D o hD).1,(Below.heap_alloc _ _ _ (Array.getElem?_eq_some_iff.1 (h.dk D o hD).2.1).1).trans (h.dk D o hD).2.1,(h.dk D o hD).2.2.1,(fun i L hE=>by
  have hlt:=(Array.getElem?_eq_some_iff.1 (h.dk D o hD).2.1).1
  by_cases G:i=n
  ·subst G;rw [Emb.set_same] at hE;cases hE;omega
  ·rw [Emb.set_ne _ _ G] at hE;exact (h.dk D o hD).2.2.2 i L hE)⟩,h.rn,?_⟩
 ·intro i c hi
  rcases F i c hi with ⟨rfl,_⟩ | ⟨_,hi⟩
  ·exact hnx
  ·exact Nat.lt_of_lt_of_le (h.dom i c hi) hm
 ·intro i c hi
  rcases F i c hi with ⟨rfl,rfl⟩ | ⟨hne,hi⟩
  ·refine ⟨w.heap.size,K,Emb.set_same ..,?_⟩;rw [heap_alloc_new];exact hr
  ·obtain ⟨B,L,hE,hr'⟩:=h.cell i c hi;refine ⟨B,L,by rw [Emb.set_ne _ _ hne];exact hE,?_⟩
   rw [Below.heap_alloc _ _ _ (h.top i B L hE)];exact hr'.mono hle
 ·intro i j c d B C L M hne hi hj hE hE'
  rcases F i c hi with ⟨rfl,_⟩ | ⟨hni,hi⟩<;>rcases F j d hj with ⟨rfl,_⟩ | ⟨hnj,hj⟩
  ·exact absurd rfl hne
  ·rw [Emb.set_same] at hE;rw [Emb.set_ne _ _ hnj] at hE'
   have:=h.top j C M hE'
   cases hE;omega
  ·rw [Emb.set_same] at hE';rw [Emb.set_ne _ _ hni] at hE
   have:=h.top i B L hE
   cases hE';omega
  ·rw [Emb.set_ne _ _ hni] at hE;rw [Emb.set_ne _ _ hnj] at hE';exact h.inj i j c d B C L M hne hi hj hE hE'
 ·intro i B L hl hE
  by_cases G:i=n
  ·subst G;rw [Emb.set_same] at hE;cases hE;exact h.bot
  ·rw [Emb.set_ne _ _ G] at hE;exact h.hi i B L hl hE
 ·intro i B L hE;simp only [World.size_alloc]
  by_cases G:i=n
  ·subst G;rw [Emb.set_same] at hE;cases hE;omega
  ·rw [Emb.set_ne _ _ G] at hE;have:=h.top i B L hE;omega
 ·simp only [World.size_alloc];have:=h.bot;omega
 ·intro i hi;rw [Emb.set_ne _ _ (by omega)];exact hfree i hi
 ·intro B o v hz
  have hz:E.z B o=some v:=hz
  exact (World.cell?_of_block (a:=⟨B,o,none⟩) (Below.heap_alloc _ _ _ (h.zlt hz))).trans (h.zw B o v hz)
 ·intro i c B L hi ho hE o
  cases hz:(E.set n (w.heap.size,K)).z B o with
  | none=>rfl
  | some v=>
   exfalso
   have hz:E.z B o=some v:=hz
   rcases F i c hi with ⟨rfl,_⟩ | ⟨hni,hi⟩
   ·rw [Emb.set_same] at hE
    have:=h.zlt hz
    cases hE;omega
   ·rw [Emb.set_ne _ _ hni] at hE;rw [h.zd i c B L hi ho hE o] at hz
    cases hz
 ·refine h.mt.keep (fun _ _=>rfl) hm h.mt.hi (by simp only [World.size_alloc];omega) (fun b' q e s n' x m' f hg => ?_) (fun _ _ _ h=>h) (fun B ⟨b',_,_,_,_,_,_,_,K',_,hE⟩=>Below.heap_alloc _ _ _ (h.top b' B K' hE)) (fun B hB=>Below.heap_alloc _ _ _ (hB.lt h.mt)) h.mt.z (fun B hB j c K' hj hE => ?_)
  ·rcases F b' _ hg with ⟨rfl,rfl⟩ | ⟨hne,hi⟩
   ·exact hbm.elim
   ·exact ⟨hi,Emb.set_ne _ _ hne⟩
  ·rcases F j c hj with ⟨rfl,_⟩ | ⟨hne,hi⟩
   ·rw [Emb.set_same] at hE
    have:=hB.lt h.mt
    cases hE;omega
   ·rw [Emb.set_ne _ _ hne] at hE;exact h.mt.own B hB j c K' hi hE
theorem aF.write {η:Env} {E:Emb} {hp:T Blk} {nx lo base:Nat} {w w':World} (h:aF η E hp nx lo base w) {n B K:Nat} {b b':Blk} (hb:hp.get n=some b) (hE:E n=some (B,K))
  (hsize:w'.heap.size=w.heap.size) (hoth : ∀ k,k≠B->w'.heap[k]? = w.heap[k]?) (hr:b'.Rel η E K w'.heap[B]?) (ho:b.own:=by trivial) (hbm:b.noM:=by trivial) (hbm':b'.noM:=by trivial):aF η E (hp.set n (some b')) nx lo base w':=by
 have hn:n<65535:=by have:=h.dom n b hb;have:=h.lim;omega
 have F : ∀ i c,(hp.set n (some b')).get i=some c->(i=n/\c=b')∨(i≠n/\hp.get i=some c):=by
  intro i c hi
  by_cases G:i=n
  ·subst G;rw [T.get_set_same _ _ _ hn] at hi
   cases hi;exact .inl ⟨rfl,rfl⟩
  ·rw [T.get_set_ne _ _ _ _ (Ne.symm G)] at hi;exact .inr ⟨G,hi⟩
 refine ⟨?_,?_,?_,h.hi,?_,?_,h.free,h.lim,?_,?_,h.rfree,?_,h.rn,?_⟩
 ·intro i c hi
  rcases F i c hi with ⟨rfl,_⟩ | ⟨_,hi⟩
  ·exact h.dom _ _ hb
  ·exact h.dom i c hi
 ·intro i c hi
  rcases F i c hi with ⟨rfl,rfl⟩ | ⟨hne,hi⟩
  ·exact ⟨B,K,hE,hr⟩
  ·obtain ⟨C,L,hE',hr'⟩:=h.cell i c hi;exact ⟨C,L,hE',by rw [hoth C (h.inj i n c b C B L K hne hi hb hE' hE)];exact hr'⟩
 ·intro i j c d B' C L M hne hi hj hEi hEj
  rcases F i c hi with ⟨ei,_⟩ | ⟨_,hi'⟩<;>rcases F j d hj with ⟨ej,_⟩ | ⟨_,hj'⟩
  ·exact absurd (ei.trans ej.symm) hne
  ·subst ei;exact h.inj _ j b d B' C L M hne hb hj' hEi hEj
  ·subst ej;exact h.inj i _ c b B' C L M hne hi' hb hEi hEj
  ·exact h.inj i j c d B' C L M hne hi' hj' hEi hEj
 ·intro i C L hE';rw [hsize];exact h.top i C L hE'
 ·rw [hsize];exact h.bot
 ·intro C o v hz
  have hne:C≠B:=by
   rintro rfl;rw [h.zd n b C K hb ho hE o] at hz;cases hz
  exact (World.cell?_of_block (a:=⟨C,o,none⟩) (hoth C hne)).trans (h.zw C o v hz)
 ·intro i c C L hi hc hE' o
  rcases F i c hi with ⟨rfl,_⟩ | ⟨_,hi⟩
  ·exact h.zd _ b C L hb ho hE' o
  ·exact h.zd i c C L hi hc hE' o
 ·intro D o hD;obtain ⟨hDb,hd,ho',hne⟩:=h.dk D o hD;exact ⟨hDb,(hoth D fun e=>by subst e;exact hne n K hE).trans hd,ho',hne⟩
 ·refine h.mt.keep (fun _ _=>rfl) (Nat.le_refl _) h.mt.hi (by rw [hsize];exact Nat.le_refl _) (fun b1 q e s n' x m' f hg => ?_) (fun _ _ _ h=>h) (fun C ⟨b1,q,e,s,n',x,m',f,K',hg,hE'⟩=>hoth C fun e => ?_) (fun C hC=>hoth C fun e => ?_) h.mt.z (fun C hC j c K' hj hE' => ?_)
  ·rcases F b1 _ hg with ⟨rfl,rfl⟩ | ⟨hne,hi⟩
   ·exact hbm'.elim
   ·exact ⟨hi,rfl⟩
  ·subst e
   by_cases hbn:b1=n
   ·subst hbn;rw [hb] at hg;cases hg;exact hbm.elim
   ·exact h.inj b1 n _ b C C K' K hbn hg hb hE' hE rfl
  ·subst e;exact h.mt.own C hC n b K hb hE
  ·rcases F j c hj with ⟨rfl,_⟩ | ⟨hne,hi⟩
   ·exact h.mt.own C hC _ b K' hb hE'
   ·exact h.mt.own C hC j c K' hi hE'
def jA (η:Env)(E:Emb)(tm:T Sv)(a:Act):Prop := ∀ t sv,tm.get t=some sv -> ∃ v,a.tmps[t]? = some v/\sv.den η E=some v
theorem jA.mono {η:Env} {E E':Emb} (h:E.le E') {tm:T Sv} {a:Act} (hf:jA η E tm a):jA η E' tm a:=fun t sv ht=>by
 obtain ⟨v,h1,h2⟩:=hf t sv ht;exact ⟨v,h1,Sv.den_mono h h2⟩
theorem jA.put {η:Env} {E:Emb} {tm:T Sv} {a:Act} (hf:jA η E tm a) {d:Nat} {sv:Sv} {v:Value} (hd:d<65535) (hs:d<a.tmps.size) (hv:sv.den η E=some v):jA η E (tm.set d (some sv)) (a.put (some d) v):=by
 intro t x ht
 by_cases htd:d=t
 ·subst htd;rw [T.get_set_same _ _ _ hd] at ht
  cases ht
  exact ⟨v,by simp [Act.put,hs],hv⟩
 ·rw [T.get_set_ne _ _ _ _ htd] at ht;obtain ⟨u,h1,h2⟩:=hf t x ht;exact ⟨u,by simp [Act.put,Array.getElem?_setIfInBounds_ne htd,h1],h2⟩
end Go.Ex
