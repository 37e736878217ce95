/-
 slices.DeleteFunc with the closure of add: what it leaves.
-/
import Derived.Test.YtdpabnfcfakjeaaLwLdA
import Derived.Test.YtdpabnfcfakjeaaExGD
import Derived.Shelf.SlGeneric
import Derived.Shelf.SlicesE.DeleteFunc
import Derived.Ground.SlgfProg
namespace Go.Proofs
open Go.Shelf
def Try.l10_ren:Go.Shelf.Ren:=⟨fun | 10=>158 | 6=>161 | n=>n,fun | 22=>127 | 23=>9 | 25=>141 | 3=>3 | 4=>4 | 0=>0 | n=>n,fun | n=>n⟩
theorem Try.l10:Go.Proofs.SlLaysH.n10 Try.prog Try.l10_ren:={
 mixed:=by kernel_rfl
 f6:=⟨Try.f161.name,by decide,Try.func161.trans (congrArg some (by kernel_rfl))⟩
 f10:=⟨Try.f158.name,by decide,Try.func158.trans (congrArg some (by kernel_rfl))⟩
 t0:=Try.underlying0
 a0:=Try.isAgg0
 z0:=Try.sizeOf0
 v0:=Try.zeroValue0
 t3:=Try.underlying3
 a3:=Try.isAgg3
 z3:=Try.sizeOf3
 v3:=Try.zeroValue3
 t4:=Try.underlying4
 a4:=Try.isAgg4
 z4:=Try.sizeOf4
 v4:=Try.zeroValue4
 t22:=Try.underlying127
 a22:=Try.isAgg127
 z22:=Try.sizeOf127
 v22:=Try.zeroValue127
 a23:=Try.isAgg9
 z23:=Try.sizeOf9
 t25:=Try.underlying141
 a25:=Try.isAgg141
 z25:=Try.sizeOf141
 v25:=Try.zeroValue141 }
end Go.Proofs
namespace Go.Ex
open Go Go.Proofs Go.RowKit Go.Sort
noncomputable section
set_option maxRecDepth 1000000
def aC (l:List (List UInt8)):Nat->Nat->FD:=fun i _ => .str (l.getD i [])
def pD (n:Nat)(f:Nat->Nat->FD):List (List UInt8):=(List.range n).map fun i=>(f i 0).s
def uU (n:Nat)(f:Nat->Nat->FD)(p:List UInt8):List (List UInt8):=(pD n f).filter fun s => !aA s p
def adi:Esf:=fun hp nx lo svs pc=>match svs with
 | [.one (.own b n),.one (.fn 159 [(xb,0)])]=>match hp.get b,hp.get xb with
  | some (.row 9 [.str] n' f),some (.cells 145 3 [_,.ostr p,_])=>chk (Nat.beq n n'&&Nat.ble lo b) (.leaf (.one (.own b (uU n f p).length),((hp.set b (some (.row 9 [.str] (uU n f p).length (aC (uU n f p)))),nx),pc)))
  | _,_ => .fail
 | _ => .fail
def pL (l:List UInt8):Value := .string ⟨l.toArray⟩
theorem ZK:OneCell pL:=fun _=>rfl
theorem PF (p s:List UInt8)(B:Nat)(W:World) (hc:W.cell? ⟨B,1,none⟩=some (pL p)):FnGives Try.prog 159 #[.pointer (some ⟨B,0,none⟩)] #[pL s] (.bool (aA s p)) W:=by
 show Calls Try.prog 159 #[pL s,.pointer (some ⟨B,0,none⟩)] W _
 unfold pL at hc ⊢
 go_enter Try.func159,Try.ntmps159
 go_wp2
 all_goals (go_ret;exact ⟨by simp_all [bH],0,rfl⟩)
theorem aa4 (p:List UInt8)(B:Nat)(w:World)(hB:B<w.heap.size) (hc:w.cell? ⟨B,1,none⟩=some (pL p)):PredAt Try.prog 159 #[.pointer (some ⟨B,0,none⟩)] pL (fun s=>aA s p) w:=
 fun W x hb=>PF p x B W ((hb.cell (p:=⟨B,1,none⟩) hB).trans hc)
theorem aa5 (p:List UInt8)(B blk size:Nat)(w:World)(hB:B<w.heap.size)(hne:B≠blk) (hc:w.cell? ⟨B,1,none⟩=some (pL p)):PredOver Try.prog 159 #[.pointer (some ⟨B,0,none⟩)] pL (fun s=>aA s p) blk 0 size w:=
 fun n os dk x _=>PF p x B _ (by
  unfold sortWorld;rw [cell?_grow _ _ _ (by show B<(putRow _ _ _ _ _).heap.size;rw [size_putRow];exact hB),cell?_putRow_other _ _ blk 0 _ _ (Or.inl hne)]
  exact hc)
theorem mU {α:Type} [Inhabited α] (enc:α->Value) (w:World) (blk off:Nat) (d:Array α) {k:Nat} (hk:k≠blk):(putRow enc w blk off d).heap[k]? = w.heap[k]? := by
 simp only [putRow,mapBlock,Array.getElem?_modify,if_neg (Ne.symm hk)]
theorem zS {α:Type} [Inhabited α] (enc:α->Value) (w:World) (blk off:Nat) (d:Array α) {c:Array Value} {e:TypeId} {fr:Nat × Nat} (h:w.heap[blk]? = some (.cells c e fr)):(putRow enc w blk off d).heap[blk]? = some (.cells (putCells enc off d c) e fr):=by
 simp only [putRow,mapBlock,Array.getElem?_modify,if_true,h,Option.map_some,onCells]
theorem w9 (n:Nat)(f:Nat->Nat->FD):(pD n f).length=n:=by simp [pD]
theorem ZL (n:Nat)(f:Nat->Nat->FD) {i:Nat} (h:i<n):(pD n f).toArray[i]! = (f i 0).s:=by
 rw [getElem!_pos _ i (by simp [pD];exact h)]
 simp [pD]
theorem VW : ∀ args w,(callFunc 159 args).run Try.prog w = .ok (.enter 159 args) w:=enters_of Try.func159 (by kernel_rfl) rfl
theorem aeG : ∀ w,(zeroValue (Try.l10_ren.t 23)).run Try.prog w = .ok (pL []) w:=fun w=>Try.zeroValue9 w
theorem aa6:J4 158 adi:=by
 intro hp nx lo svs pc r hg hpc hlo E base w0 w args hH hB hv;refine ⟨bU Try.fok158 _ w,?_⟩;unfold adi at hg;split at hg
 ·rename_i b n xb;split at hg
  ·rename_i n' f c0 p c2 hb hxb;obtain ⟨hck,hg⟩:=eZ hg
   cases hg
   simp only [Bool.and_eq_true] at hck;obtain ⟨k1,k2⟩:=hck;obtain rfl:=Nat.eq_of_beq_eq_true k1
   have k2:=Nat.le_of_ble_eq_true k2
   obtain ⟨BB,K,hE,c,q1,q2,q3,q4,_,q6⟩:=hH.cell b _ hb;obtain ⟨BX,KX,hEX,cx,vs,rest,p1,p2,p3,p4,p5⟩:=hH.cell xb _ hxb
   have hne:BX≠BB:=hH.inj xb b _ _ BX BB KX K (fun e=>by subst e;rw [hb] at hxb;cases hxb) hxb hb hEX hE
   obtain ⟨v1,us,d1,d2,rfl⟩:=aI hv;obtain ⟨v2,us2,d3,d4,rfl⟩:=aI d2
   cases d4
   simp only [Sv.den,Sc.den,hE,if_pos q3,Option.some.injEq] at d1;simp only [Sv.den,Sc.den,b7,bV,hEX,Option.map_some,Option.some.injEq] at d3;subst d1;subst d3
   have hget : ∀ i,i<n->c[i]? = some (pL (f i 0).s)/\(f i 0) = .str (f i 0).s:=fun i hi=>by
    obtain ⟨e1,u,e2,e3⟩:=q6 i hi 0 (by simp)
    have e1:FD.str (f i 0).s=f i 0:=e1
    rw [←e1] at e3
    have e3:u = .string ⟨(f i 0).s.toArray⟩:=e3
    simp only [List.length_cons,List.length_nil,Nat.mul_one,Nat.add_zero,Nat.zero_add] at e2;rw [e2,e3];exact ⟨rfl,e1.symm⟩
   have hH0:Holds pL w BB 0 (pD n f).toArray:=fun j hj=>by
    have hj:j<n:=by simpa [w9] using hj
    have hf:w.frozen? ⟨BB,0+j,none⟩=false:=frozen_of_row w BB _ c _ q1
    refine ⟨?_,hf⟩;rw [ZL n f hj];unfold World.cell?;simp only [q1,Nat.zero_add];exact (hget j hj).1
   have hBX:BX<w.heap.size:=hH.top xb BX KX hEX
   have hcx:w.cell? ⟨BX,1,none⟩=some (pL p):=by
    obtain ⟨w1,us1,g1,g2,rfl⟩:=aR p4;obtain ⟨w2,us2,g3,g4,rfl⟩:=aR g2
    cases g3
    have:cx[1]? = some (pL p):=by
     rw [←Array.getElem?_toList,p5];rfl
    unfold World.cell?;simp only [p1];exact this
   have hsz:(pD n f).toArray.size=n:=by simp [w9]
   have hK:K<=9223372036854775807:=Nat.le_trans q4 (by decide)
   have key:=AnyE.slices_DeleteFunc Try.l10 pL ZK (fun s=>aA s p) 159 #[.pointer (some ⟨BX,0,none⟩)] VW [] aeG BB 0 K (pD n f).toArray w (aa4 p BX w hBX hcx) (aa5 p BX BB _ w hBX hne hcx) hH0 (by rw [hsz];omega) (by rw [hsz];exact q3)
   have hlen:(uU n f p).length<=n:=by
    have:=List.length_filter_le (fun s => !aA s p) (pD n f)
    rw [w9] at this;exact this
   rw [hsz] at key;refine Calls.mono key fun e w' he => ?_
   obtain ⟨rfl,q,rfl⟩:=he
   have hH1:aF η0 E hp nx lo base (Sort.ahead w q):=hH.below ⟨rfl,rfl,rfl,Nat.le_refl _,fun _ _=>rfl⟩
   have hd:(pD n f).toArray.toList.filter (fun x => !aA x p)=uU n f p:=rfl
   rw [hd]
   generalize hD:((uU n f p)++List.replicate (n-(uU n f p).length) ([]:List UInt8)).toArray=D
   have hDs:D.size=n:=by rw [←hD];simp;omega
   have hB1:Below base w (putRow pL (Sort.ahead w q) BB 0 D):=⟨rfl,rfl,rfl,by rw [size_putRow];exact Nat.le_refl _,fun k hk=>by
    rw [mU]
    ·rfl
    ·have:=hH.hi b BB K k2 hE
     omega⟩
   refine ⟨_,E,rfl,?_,aJ.refl _ _,hH1.write hb hE (by rw [size_putRow]) (fun k hk=>mU _ _ _ _ _ hk) ?_,hB.trans hB1,hpc,Nat.le_refl _⟩
   ·have:(uU n f p).length<=K:=by omega
    simp only [Sv.den,Sc.den,hE,if_pos this]
   ·refine ⟨putCells pL 0 D c,zS _ _ _ _ _ q1,by simp [putCells,q2],by omega,q4,by simp,fun i hi j hj => ?_⟩
    have hj0:j=0:=by simpa using hj
    subst hj0;refine ⟨rfl,pL ((uU n f p).getD i []),?_,rfl⟩;simp only [List.length_cons,List.length_nil,Nat.mul_one,Nat.add_zero,Nat.zero_add]
    have hin:i<n:=by omega
    simp only [putCells,Array.getElem?_mapIdx,(hget i hin).1,Option.map_some,Nat.zero_le,true_and,Nat.zero_add,hDs,hin,if_true,Nat.sub_zero];rw [←hD,getElem!_pos _ i (by simp;omega)]
    simp [List.getElem_append_left hi,List.getD,hi]
  ·cases hg
 ·cases hg
end
end Go.Ex
