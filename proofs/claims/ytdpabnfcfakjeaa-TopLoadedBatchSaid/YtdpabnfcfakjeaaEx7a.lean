/-
 The executor's operations that look at places, parts and slices.
-/
import Derived.Test.YtdpabnfcfakjeaaEx6
namespace Go.Ex
open Go Go.RowKit
open Nat (ble)
noncomputable section
theorem bM (B o n:Nat):(⟨B,o,none⟩:Addr).add n=⟨B,o+n,none⟩:=by
 unfold Addr.add;split<;>simp_all
def nth {α:Type} (l:List α) (n:Nat):Option α:=
 match l.drop n with
 | c::_=>some c
 | []=>none
theorem cD {α:Type} : ∀ (l:List α) (n:Nat),nth l n=l[n]?
 | [],n=>by simp [nth]
 | c::l,0=>by simp [nth]
 | c::l,n+1=>by have:=cD l n;simpa [nth] using this
def nJ:Nat->List Sc->Option (List Sc)
 | 0,_=>some []
 | _+1,[]=>none
 | n+1,c::l=>match nJ n l with
  | some m=>some (c::m)
  | none=>none
theorem jC {η:Env} {E:Emb} : ∀ (n:Nat) {l:List Sc} {vs:List Value},aQ η E l=some vs->aQ η E (l.drop n)=some (vs.drop n)
 | 0,l,vs,h=>by simpa using h
 | n+1,[],vs,h=>by cases h;rfl
 | n+1,c::l,vs,h=>by
  obtain ⟨v,us,_,h2,rfl⟩:=aR h
  simpa using jC n h2
theorem jD {η:Env} {E:Emb} : ∀ (n:Nat) {l m:List Sc} {vs:List Value},nJ n l=some m->aQ η E l=some vs->aQ η E m=some (vs.take n)/\(vs.take n).length=n
 | 0,l,m,vs,h,_=>by cases h;exact ⟨by simp [aQ],by simp⟩
 | n+1,[],m,vs,h,_=>by cases h
 | n+1,c::l,m,vs,h,hl=>by
  obtain ⟨v,us,h1,h2,rfl⟩:=aR hl;simp only [nJ] at h;split at h
  ·rename_i m' hm
   cases h
   obtain ⟨h3,h4⟩:=jD n hm h2;exact ⟨by simp [aQ,h1,h3],by simp only [List.take_succ_cons,List.length_cons,h4]⟩
  ·cases h
theorem bC {η:Env} {E:Emb} : ∀ {l:List Sc} {vs:List Value},aQ η E l=some vs->vs.length=l.length
 | [],vs,h=>by cases h;rfl
 | c::l,vs,h=>by
  obtain ⟨v,us,_,h2,rfl⟩:=aR h;simp [bC h2]
theorem DE {η:Env} {E:Emb} {l:List Sc} {vs:List Value} {n:Nat} {c:Sc} (h:aQ η E l=some vs) (hc:nth l n=some c) : ∃ v,c.den η E=some v/\vs[n]? = some v:=by
 unfold nth at hc
 have hd:=jC n h
 split at hc
 ·rename_i c' l' hl
  cases hc
  rw [hl] at hd;obtain ⟨v,us,h1,_,h3⟩:=aR hd;refine ⟨v,h1,?_⟩
  have:(vs.drop n)[0]? = some v:=by rw [h3];rfl
  simpa using this
 ·cases hc
theorem U6 {P:Program} {t:TypeId} {d:TypeDesc} (h:P.underlying t=some d) (w:World):(isAgg t).run P w = .ok (JT d) w:=by
 cases d<;>simp [isAgg,run_underlying h,JT]
theorem TI.Ok.run_size {P:Program} {t:TypeId} {x:TI} (h:TI.Ok P t x) (w:World):(sizeOf t).run P w = .ok x.size w:=by
 obtain ⟨i,z,h1,h2,_⟩:=h.inf;simp [sizeOf,typeInfo,h1,h2]
theorem TI.Ok.run_agg {P:Program} {t:TypeId} {x:TI} (h:TI.Ok P t x) (w:World):(isAgg t).run P w = .ok x.agg w:=by
 rw [h.agg];exact U6 h.und w
def M9 (C:Cx)(hp:T Blk)(t:TypeId)(x:Sv):Option Sv:=
 match x with
 | .one (.ptr (some (b,o)))=>match C.tt.get t,hp.get b with
  | some ti,some (.cells _ _ l)=>bif ti.agg then (nJ ti.size (l.drop o)).map .agg else (nth l o).map .one
  | _,_=>none
 | .one (.aptr b o)=>match C.tt.get t,hp.get b with
  | some ti,some (.arow l)=>bif ti.agg then (nJ ti.size (l.drop o)).map .agg else (nth l o).map .one
  | _,_=>none
 | _=>none
theorem NA {P:Program} {η:Env} {E:Emb} {t:TypeId} {ti:TI} (g:TI.Ok P t ti) {l:List Sc} {o:Nat} {sv:Sv} {w:World} {B:Nat} {c:Array Value} {e:TypeId} {vs rest:List Value}
  (hB:w.heap[B]? = some (.cells c e (0,0))) (hl:aQ η E l=some vs) (hc:c.toList=vs++rest)
  (h:(bif ti.agg then (nJ ti.size (l.drop o)).map .agg else (nth l o).map .one)=some sv):
  ∃ v,sv.den η E=some v/\(loadVar t ⟨B,o,none⟩).run P w = .ok v w:=by
 have p : ∀ j v,vs[j]? = some v->w.cell? ⟨B,j,none⟩=some v:=by
  intro j v hj;rw [cell_of_row w B j c e (0,0) hB];rw [←Array.getElem?_toList,hc,List.getElem?_append_left (List.getElem?_eq_some_iff.1 hj).1];exact hj
 cases ha:ti.agg with
 | true=>
  rw [ha] at h;simp only [cond_true] at h
  cases ht:nJ ti.size (l.drop o) with
  | none=>rw [ht] at h;cases h
  | some m=>
   rw [ht] at h;cases h;obtain ⟨h1,h2⟩:=jD _ ht (jC o hl);refine ⟨.agg ((vs.drop o).take ti.size).toArray,by simp [Sv.den,h1],?_⟩
   simp only [loadVar,Sem.run_bind,g.run_agg,ha,Result.andThen_ok,if_true,g.run_size]
   have:=run_loadCells_list (P:=P) w ⟨B,o,none⟩ ((vs.drop o).take ti.size) (fun j v hj=>by
    rw [bM];apply p;rw [List.getElem?_take] at hj;split at hj
    ·rw [List.getElem?_drop] at hj;exact hj
    ·cases hj)
   rw [h2] at this;rw [this];rfl
 | false=>
  rw [ha] at h;simp only [cond_false] at h
  cases ht:nth l o with
  | none=>rw [ht] at h;cases h
  | some m=>
   rw [ht] at h;cases h;obtain ⟨v,h1,h2⟩:=DE hl ht;refine ⟨v,h1,?_⟩;simp only [loadVar,Sem.run_bind,g.run_agg,ha,Result.andThen_ok,Bool.false_eq_true,if_false,run_load,p o v h2]
theorem NB {P:Program} {η:Env} {E:Emb} {t:TypeId} {ti:TI} (g:TI.Ok P t ti) {l:List Sc} {o off:Nat} {sv:Sv} {w:World} {B:Nat} {vs:List Value}
  (p : ∀ j v,vs[j]? = some v->w.cell? ⟨B,off+j,none⟩=some v) (hl:aQ η E l=some vs)
  (h:(bif ti.agg then (nJ ti.size (l.drop o)).map .agg else (nth l o).map .one)=some sv):
  ∃ v,sv.den η E=some v/\(loadVar t ⟨B,off+o,none⟩).run P w = .ok v w:=by
 cases ha:ti.agg with
 | true=>
  rw [ha] at h;simp only [cond_true] at h
  cases ht:nJ ti.size (l.drop o) with
  | none=>rw [ht] at h;cases h
  | some m=>
   rw [ht] at h;cases h;obtain ⟨h1,h2⟩:=jD _ ht (jC o hl);refine ⟨.agg ((vs.drop o).take ti.size).toArray,by simp [Sv.den,h1],?_⟩
   simp only [loadVar,Sem.run_bind,g.run_agg,ha,Result.andThen_ok,if_true,g.run_size]
   have:=run_loadCells_list (P:=P) w ⟨B,off+o,none⟩ ((vs.drop o).take ti.size) (fun j v hj=>by
    rw [bM,Nat.add_assoc];apply p;rw [List.getElem?_take] at hj;split at hj
    ·rw [List.getElem?_drop] at hj;exact hj
    ·cases hj)
   rw [h2] at this;rw [this];rfl
 | false=>
  rw [ha] at h;simp only [cond_false] at h
  cases ht:nth l o with
  | none=>rw [ht] at h;cases h
  | some m=>
   rw [ht] at h;cases h;obtain ⟨v,h1,h2⟩:=DE hl ht;refine ⟨v,h1,?_⟩;simp only [loadVar,Sem.run_bind,g.run_agg,ha,Result.andThen_ok,Bool.false_eq_true,if_false,run_load,p o v h2]
theorem DF {η:Env} {E:Emb} {b o:Nat} {va:Value} (h:(Sv.one (.aptr b o)).den η E=some va) : ∃ B K,E b=some (B,K)/\va = .pointer (some ⟨B,K+o,none⟩):=by
 simp only [Sv.den,Sc.den,Option.map_eq_some_iff] at h;obtain ⟨⟨B,K⟩,h1,rfl⟩:=h;exact ⟨B,K,h1,rfl⟩
theorem TB {η:Env} {E:Emb} {b o B K:Nat} (h:E b=some (B,K)):(Sv.one (.aptr b o)).den η E=some (.pointer (some ⟨B,K+o,none⟩)):=by
 simp [Sv.den,Sc.den,h]
theorem JX {η:Env} {E:Emb} {b c:Nat} {n:Ix} {va:Value} (h:(Sv.one (.asl b n c)).den η E=some va) : ∃ B K,E b=some (B,K)/\va = .slice (some ⟨B,K,none⟩) (n.den η).toNat (η.i c).toNat:=by
 simp only [Sv.den,Sc.den,Option.map_eq_some_iff] at h;obtain ⟨⟨B,K⟩,h1,rfl⟩:=h;exact ⟨B,K,h1,rfl⟩
theorem kN {η:Env} {E:Emb} {b o:Nat} {va:Value} (h:(Sv.one (.ptr (some (b,o)))).den η E=some va) : ∃ B K,E b=some (B,K)/\va = .pointer (some ⟨B,o,none⟩):=by
 simp only [Sv.den,Sc.den,bV,Option.map_eq_some_iff] at h;obtain ⟨x,⟨⟨B,K⟩,h1,rfl⟩,rfl⟩:=h;exact ⟨B,K,h1,rfl⟩
theorem HV {C:Cx} {P:Program} {η:Env} {E:Emb} (hC:C.Ok P η) {hp:T Blk} {nx lo base:Nat} {w:World} (hH:aF η E hp nx lo base w) {t:TypeId} {x sv:Sv} {va:Value}
  (h:M9 C hp t x=some sv) (hx:x.den η E=some va) : ∃ v,sv.den η E=some v/\(Instr.loadAt t va).run P w = .ok v w:=by
 unfold M9 at h;split at h
 ·rename_i b o;obtain ⟨B,K,hE,rfl⟩:=kN hx;split at h
  ·rename_i ti e sz l g hb;obtain ⟨B',K',hE',c,vs,rest,h1,_,_,h4,h5⟩:=hH.cell b _ hb;rw [hE] at hE';cases hE';obtain ⟨v,hv,hr⟩:=NA (hC.tt t ti g) h1 h4 h5 h;exact ⟨v,hv,by simpa [Instr.loadAt,Instr.sureAddr] using hr⟩
  ·cases h
 ·rename_i b o;obtain ⟨B,K,hE,rfl⟩:=DF hx;split at h
  ·rename_i ti l g hb;obtain ⟨B',K',hE',c,e,fz,vs,h1,h2,h3⟩:=hH.cell b _ hb;rw [hE] at hE';cases hE';obtain ⟨v,hv,hr⟩:=NB (hC.tt t ti g) (B:=B) (off:=K) (w:=w) (fun j u hj=>by
    rw [cell_of_row w B (K+j) c e fz h1];exact h3 j u hj) h2 h
   exact ⟨v,hv,by simpa [Instr.loadAt,Instr.sureAddr] using hr⟩
  ·cases h
 ·cases h
def TC (C:Cx)(t:TypeId)(l:List Sc)(o:Nat):Option Sv:=
 match C.tt.get t with
 | some ti=>bif ti.agg then (nJ ti.size (l.drop o)).map .agg else (nth l o).map .one
 | none=>none
theorem JY (vs:List Value)(o n:Nat):(vs.toArray.extract o (o+n))=((vs.drop o).take n).toArray:=by
 simp [List.extract_toArray,List.extract_eq_take_drop]
theorem HW {C:Cx} {P:Program} {η:Env} {E:Emb} (hC:C.Ok P η) {t:TypeId} {l:List Sc} {o:Nat} {sv:Sv} {vs:List Value} (hl:aQ η E l=some vs) (h:TC C t l o=some sv):
  ∃ v,sv.den η E=some v /\ ∀ w,(part t vs.toArray o).run P w = .ok v w:=by
 unfold TC at h;split at h
 ·rename_i ti g
  have hT:=hC.tt t ti g
  cases ha:ti.agg with
  | true=>
   rw [ha] at h;simp only [cond_true] at h
   cases ht:nJ ti.size (l.drop o) with
   | none=>rw [ht] at h;cases h
   | some m=>
    rw [ht] at h;cases h;obtain ⟨h1,h2⟩:=jD _ ht (jC o hl);refine ⟨.agg ((vs.drop o).take ti.size).toArray,by simp [Sv.den,h1],fun w => ?_⟩
    simp only [part,Sem.run_bind,hT.run_agg,ha,Result.andThen_ok,if_true,hT.run_size,Sem.run_pure,JY]
  | false=>
   rw [ha] at h;simp only [cond_false] at h
   cases ht:nth l o with
   | none=>rw [ht] at h;cases h
   | some m=>
    rw [ht] at h;cases h;obtain ⟨v,h1,h2⟩:=DE hl ht;refine ⟨v,h1,fun w => ?_⟩
    simp only [part,Sem.run_bind,hT.run_agg,ha,Result.andThen_ok,Bool.false_eq_true,if_false];simp [h2]
 ·cases h
theorem gV {η:Env} {E:Emb} {l:List Sc} {va:Value} (h:(Sv.agg l).den η E=some va) : ∃ vs,aQ η E l=some vs/\va = .agg vs.toArray:=by
 simp only [Sv.den,Option.map_eq_some_iff] at h;obtain ⟨vs,h1,rfl⟩:=h;exact ⟨vs,h1,rfl⟩
def QK (C:Cx)(t:TypeId)(x:Sv)(f:Nat):Option Sv:=
 match C.tt.get t,x with
 | some ti,.agg l=>match ti.d with
  | .struct fs=>match nth fs.toList f with
   | some fl=>TC C fl.type l fl.offset
   | none=>none
  | _=>none
 | _,_=>none
theorem QL {C:Cx} {P:Program} {η:Env} {E:Emb} (hC:C.Ok P η) {t:TypeId} {x sv:Sv} {f:Nat} {va:Value} (h:QK C t x f=some sv) (hx:x.den η E=some va):
  ∃ v,sv.den η E=some v /\ ∀ w,(Instr.field t va f).run P w = .ok v w:=by
 unfold QK at h;split at h
 ·rename_i ti l g
  have hT:=(hC.tt t ti g).und
  split at h
  ·rename_i fs hd;rw [hd] at hT;split at h
   ·rename_i fl hf;obtain ⟨vs,hvs,rfl⟩:=gV hx;obtain ⟨v,h1,h2⟩:=HW hC hvs h;refine ⟨v,h1,fun w => ?_⟩
    rw [cD,Array.getElem?_toList] at hf;simp [Instr.field,run_underlying hT,hf,asAgg,h2]
   ·cases h
  ·cases h
 ·cases h
def QM (x:Sv):Option (IntKind × Nat):=
 match x with
 | .one (.int k (.lit (.ofNat n)))=>some (k,n)
 | _=>none
theorem iP {η:Env} {E:Emb} {x:Sv} {k:IntKind} {n:Nat} {va:Value} (h:QM x=some (k,n)) (hx:x.den η E=some va):va = .int k (n:Int):=by
 unfold QM at h;split at h
 ·cases h;cases hx;rfl
 ·cases h
def QN (C:Cx)(t:TypeId)(x ix:Sv):Option Sv:=
 match C.tt.get t,x,QM ix with
 | some ti,.agg l,some (_,i)=>match ti.d with
  | .array n e=>match C.tt.get e with
   | some ei=>bif Nat.blt i n then TC C e l (i*ei.size) else none
   | none=>none
  | _=>none
 | some ti,.one (.str l),some (_,i)=>match ti.d with
  | .string=>match nth l i with
   | some b=>some (.one (.int .u8 (.lit (.ofNat b.toNat))))
   | none=>none
  | _=>none
 | _,_,_=>none
theorem QO {C:Cx} {P:Program} {η:Env} {E:Emb} (hC:C.Ok P η) {t:TypeId} {x ix sv:Sv} {va vi:Value} (h:QN C t x ix=some sv) (hx:x.den η E=some va) (hi:ix.den η E=some vi):
  ∃ v,sv.den η E=some v /\ ∀ w,(Instr.index t va vi).run P w = .ok v w:=by
 unfold QN at h;split at h
 ·rename_i ti l k i g hix
  have hT:=(hC.tt t ti g).und
  have e:=iP hix hi
  subst e;split at h
  ·rename_i n e hd;rw [hd] at hT;split at h
   ·rename_i ei hei
    cases hlt:Nat.blt i n with
    | false=>rw [hlt] at h;cases h
    | true=>
     rw [hlt] at h;simp only [cond_true] at h
     have hlt:=Nat.le_of_ble_eq_true hlt
     obtain ⟨vs,hvs,rfl⟩:=gV hx;obtain ⟨v,h1,h2⟩:=HW hC hvs h;refine ⟨v,h1,fun w => ?_⟩
     have hb:(0:Int)<=(i:Int)/\(i:Int)<(n:Int):=by omega
     simp [Instr.index,asIntOf,run_underlying hT,hb,(hC.tt e ei hei).run_size,h2];intro hc;omega
   ·cases h
  ·cases h
 ·rename_i ti l k i g hix
  have hT:=(hC.tt t ti g).und
  have e:=iP hix hi
  subst e;split at h
  ·rename_i hd;rw [hd] at hT;split at h
   ·rename_i b hb
    cases h
    cases hx
    refine ⟨_,rfl,fun w => ?_⟩
    rw [cD] at hb
    have hi0:(0:Int)<=(i:Int):=by omega
    have hg:(⟨l.toArray⟩:ByteArray)[i]? = some b:=by
     have hlt:=(List.getElem?_eq_some_iff.1 hb).1
     have:i<(⟨l.toArray⟩:ByteArray).size:=by simpa [ByteArray.size] using hlt
     have e:(⟨l.toArray⟩:ByteArray)[i]'this=l[i]'hlt:=rfl
     rw [getElem?_pos (⟨l.toArray⟩:ByteArray) i this,e,(List.getElem?_eq_some_iff.1 hb).2]
    simp [Instr.index,asIntOf,run_underlying hT,hg,Ix.den]
   ·cases h
  ·cases h
 ·cases h
def tT (C:Cx)(t:TypeId)(x:Sv)(f:Nat):Option Sv:=
 match C.tt.get t,x with
 | some ti,.one (.ptr (some (b,o)))=>match ti.d with
  | .struct fs=>match nth fs.toList f with
   | some fl=>match C.tt.get fl.type with
    | some fi=>bif Nat.beq fi.size 0 then none else some (.one (.ptr (some (b,o+fl.offset))))
    | none=>none
   | none=>none
  | _=>none
 | some ti,.one (.aptr b o)=>match ti.d with
  | .struct fs=>match nth fs.toList f with
   | some fl=>match C.tt.get fl.type with
    | some fi=>bif Nat.beq fi.size 0 then none else some (.one (.aptr b (o+fl.offset)))
    | none=>none
   | none=>none
  | _=>none
 | _,_=>none
theorem QP {η:Env} {E:Emb} {b o B K:Nat} (h:E b=some (B,K)):(Sv.one (.ptr (some (b,o)))).den η E=some (.pointer (some ⟨B,o,none⟩)):=by
 simp [Sv.den,Sc.den,bV,h]
theorem p6 {C:Cx} {P:Program} {η:Env} {E:Emb} (hC:C.Ok P η) {t:TypeId} {x sv:Sv} {f:Nat} {va:Value} (h:tT C t x f=some sv) (hx:x.den η E=some va):
  ∃ v,sv.den η E=some v /\ ∀ w,(Instr.fieldAt t va f).run P w = .ok v w:=by
 unfold tT at h;split at h
 ·rename_i ti b o g
  have hT:=(hC.tt t ti g).und
  split at h
  ·rename_i fs hd;rw [hd] at hT;split at h
   ·rename_i fl hf;split at h
    ·rename_i fi hfi
     cases hz:Nat.beq fi.size 0 with
     | true=>rw [hz] at h;cases h
     | false=>
      rw [hz] at h;cases h;obtain ⟨B,K,hE,rfl⟩:=kN hx;refine ⟨_,QP hE,fun w => ?_⟩
      rw [cD,Array.getElem?_toList] at hf
      have hz:=Nat.ne_of_beq_eq_false hz
      simp [Instr.fieldAt,run_underlying hT,hf,Instr.sureAddr,fieldPlace,(hC.tt fl.type fi hfi).run_size,hz,bM]
    ·cases h
   ·cases h
  ·cases h
 ·rename_i ti b o g
  have hT:=(hC.tt t ti g).und
  split at h
  ·rename_i fs hd;rw [hd] at hT;split at h
   ·rename_i fl hf;split at h
    ·rename_i fi hfi
     cases hz:Nat.beq fi.size 0 with
     | true=>rw [hz] at h;cases h
     | false=>
      rw [hz] at h;cases h;obtain ⟨B,K,hE,rfl⟩:=DF hx;refine ⟨_,TB hE,fun w => ?_⟩
      rw [cD,Array.getElem?_toList] at hf
      have hz:=Nat.ne_of_beq_eq_false hz
      simp [Instr.fieldAt,run_underlying hT,hf,Instr.sureAddr,fieldPlace,(hC.tt fl.type fi hfi).run_size,hz,bM,Nat.add_assoc]
    ·cases h
   ·cases h
  ·cases h
 ·cases h
def tU (C:Cx)(t:TypeId)(x ix:Sv):Option Sv:=
 match C.tt.get t,x,QM ix with
 | some ti,.one (.ptr (some (b,o))),some (_,i)=>match ti.d with
  | .array n e=>match C.tt.get e with
   | some ei=>bif Nat.blt i n then some (.one (.ptr (some (b,o+i*ei.size)))) else none
   | none=>none
  | _=>none
 | some ti,.one (.slice (some (b,o)) n _),some (_,i)=>match ti.d with
  | .slice e=>match C.tt.get e with
   | some ei=>bif Nat.blt i n then some (.one (.ptr (some (b,o+i*ei.size)))) else none
   | none=>none
  | _=>none
 | some ti,.one (.asl b (.lit (.ofNat n)) _),some (_,i)=>match ti.d with
  | .slice e=>match C.tt.get e with
   | some ei=>bif Nat.blt i n then some (.one (.aptr b (i*ei.size))) else none
   | none=>none
  | _=>none
 | _,_,_=>none
theorem fH {η:Env} {E:Emb} {b o n:Nat} {c:Cap} {va:Value} (h:(Sv.one (.slice (some (b,o)) n c)).den η E=some va) : ∃ B K m,E b=some (B,K)/\va = .slice (some ⟨B,o,none⟩) n m/\(∀ k,c = .known k->m=k)/\(∀ k,c = .rest k->m=K-k/\n+k<=K):=by
 cases c with
 | known k=>
  simp only [Sv.den,Sc.den,bV,Option.map_eq_some_iff] at h;obtain ⟨x,⟨⟨B,K⟩,h1,rfl⟩,rfl⟩:=h;exact ⟨B,K,k,h1,rfl,fun k' hk=>by cases hk;rfl,fun k' hk=>by cases hk⟩
 | rest k=>
  simp only [Sv.den,Sc.den] at h;split at h
  ·rename_i B hE;obtain ⟨B,K⟩:=B;split at h
   ·rename_i hle
    cases h
    exact ⟨B,K,K-k,hE,rfl,(fun k' hk=>by cases hk),fun k' hk=>by cases hk;exact ⟨rfl,hle⟩⟩
   ·cases h
  ·cases h
theorem DG {C:Cx} {P:Program} {η:Env} {E:Emb} (hC:C.Ok P η) {t:TypeId} {x ix sv:Sv} {va vi:Value} (h:tU C t x ix=some sv) (hx:x.den η E=some va) (hi:ix.den η E=some vi):
  ∃ v,sv.den η E=some v /\ ∀ w,(Instr.indexAt t va vi).run P w = .ok v w:=by
 unfold tU at h;split at h
 ·rename_i ti b o k i g hix
  have hT:=(hC.tt t ti g).und
  have e:=iP hix hi
  subst e;split at h
  ·rename_i n e hd;rw [hd] at hT;split at h
   ·rename_i ei hei
    cases hlt:Nat.blt i n with
    | false=>rw [hlt] at h;cases h
    | true=>
     rw [hlt] at h;cases h
     have hlt:=Nat.le_of_ble_eq_true hlt
     obtain ⟨B,K,hE,rfl⟩:=kN hx;refine ⟨_,QP hE,fun w => ?_⟩
     have hb:(0:Int)<=(i:Int)/\(i:Int)<(n:Int):=by omega
     simp [Instr.indexAt,asIntOf,run_underlying hT,Instr.sureAddr,hb,(hC.tt e ei hei).run_size,bM];intro hc;omega
   ·cases h
  ·cases h
 ·rename_i ti b o n c k i g hix
  have hT:=(hC.tt t ti g).und
  have e:=iP hix hi
  subst e;split at h
  ·rename_i e hd;rw [hd] at hT;split at h
   ·rename_i ei hei
    cases hlt:Nat.blt i n with
    | false=>rw [hlt] at h;cases h
    | true=>
     rw [hlt] at h;cases h
     have hlt:=Nat.le_of_ble_eq_true hlt
     obtain ⟨B,K,m,hE,rfl,_⟩:=fH hx;refine ⟨_,QP hE,fun w => ?_⟩
     have hb:(0:Int)<=(i:Int)/\(i:Int)<(n:Int):=by omega
     simp [Instr.indexAt,asIntOf,run_underlying hT,hb,(hC.tt e ei hei).run_size,bM];intro hc;omega
   ·cases h
  ·cases h
 ·rename_i ti b n c k i g hix
  have hT:=(hC.tt t ti g).und
  have e:=iP hix hi
  subst e;split at h
  ·rename_i e hd;rw [hd] at hT;split at h
   ·rename_i ei hei
    cases hlt:Nat.blt i n with
    | false=>rw [hlt] at h;cases h
    | true=>
     rw [hlt] at h;cases h
     have hlt:=Nat.le_of_ble_eq_true hlt
     obtain ⟨B,K,hE,rfl⟩:=JX hx;refine ⟨_,TB hE,fun w => ?_⟩
     have hn:((Ix.lit (Int.ofNat n)).den η).toNat=n:=rfl
     rw [hn]
     have hb:(0:Int)<=(i:Int)/\(i:Int)<(n:Int):=by omega
     simp [Instr.indexAt,asIntOf,run_underlying hT,hb,(hC.tt e ei hei).run_size,bM];intro hc;omega
   ·cases h
  ·cases h
 ·cases h
end
end Go.Ex
namespace Go.Ex
open Go Go.RowKit
open Nat (ble)
noncomputable section
def bnd (x:Option Sv)(d:Nat):Option Nat:=
 match x with
 | none=>some d
 | some s=>match QM s with
  | some (_,n)=>some n
  | none=>none
def oO (η:Env)(E:Emb)(x:Option Sv)(v:Option Value):Prop:=
 match x,v with
 | none,none=>True
 | some s,some u=>s.den η E=some u
 | _,_=>False
theorem lJ {P:Program} {η:Env} {E:Emb} (w:World) {isS:Bool} {len cap l h:Nat} {lo hi:Option Sv} {vl vh:Option Value} (hl:bnd lo 0=some l) (hh:bnd hi len=some h)
  (rl:oO η E lo vl) (rh:oO η E hi vh) (h1:l<=h) (h2:h<=cap):(Instr.sliceBounds isS len cap vl vh none).run P w = .ok (l,h,cap) w:=by
 have hiRun:(match vh with
   | some v=>Instr.sliceBound v cap (if isS then .sliceAcap else .sliceAlen)
   | none=>pure len:Sem Nat).run P w = .ok h w:=by
  cases hi with
  | none=>
   cases vh with
   | none=>cases hh;rfl
   | some v=>cases rh
  | some s=>
   cases vh with
   | none=>cases rh
   | some v=>
    simp only [bnd] at hh;split at hh
    ·rename_i k n hs
     cases hh
     have e:=iP hs rh
     subst e
     have hb:(0:Int)<=(h:Int)/\(h:Int)<=(cap:Int):=by omega
     simp [Instr.sliceBound,asIntOf,hb]
    ·cases hh
 have loRun:(match vl with
   | some v=>Instr.sliceBound v h .sliceB
   | none=>pure 0:Sem Nat).run P w = .ok l w:=by
  cases lo with
  | none=>
   cases vl with
   | none=>cases hl;rfl
   | some v=>cases rl
  | some s=>
   cases vl with
   | none=>cases rl
   | some v=>
    simp only [bnd] at hl;split at hl
    ·rename_i k n hs
     cases hl
     have e:=iP hs rl
     subst e
     have hb:(0:Int)<=(l:Int)/\(l:Int)<=(h:Int):=by omega
     simp [Instr.sliceBound,asIntOf,hb]
    ·cases hl
 unfold Instr.sliceBounds
 cases vh<;>cases vl<;>simp_all
def QQ (C:Cx)(t:TypeId)(x:Sv)(lo hi:Option Sv):Option Sv:=
 match C.tt.get t,x,bnd lo 0 with
 | some ti,.one (.ptr (some (b,o))),some l=>match ti.d with
  | .array n e=>match C.tt.get e,bnd hi n with
   | some ei,some h=>bif ble l h&&ble h n then
     some (.one (.slice (some (bif Nat.beq n l then (b,o) else (b,o+l*ei.size))) (h-l) (.known (n-l)))) else none
   | _,_=>none
  | _=>none
 | some ti,.one (.slice (some (b,o)) n c),some l=>match ti.d with
  | .slice e=>match C.tt.get e,bnd hi n,c with
   | some ei,some h,.known c=>bif ble l h&&ble h c then
     some (.one (.slice (some (bif Nat.beq c l then (b,o) else (b,o+l*ei.size))) (h-l) (.known (c-l)))) else none
   | some ei,some h,.rest k=>bif ble l h&&ble h n&&(Nat.beq l 0||Nat.blt l n) then
     some (.one (.slice (some (b,o+l*ei.size)) (h-l) (.rest (k+l)))) else none
   | _,_,_=>none
  | _=>none
 | some ti,.one (.slice none 0 (.known 0)),some l=>match ti.d with
  | .slice e=>match C.tt.get e,bnd hi 0 with
   | some _,some 0=>bif Nat.beq l 0 then some (.one (.slice none 0 (.known 0))) else none
   | _,_=>none
  | _=>none
 | some ti,.one (.str s),some l=>match ti.d with
  | .string=>match bnd hi s.length with
   | some h=>bif ble l h&&ble h s.length then some (.one (.str ((s.drop l).take (h-l)))) else none
   | none=>none
  | _=>none
 | _,_,_=>none
theorem bR {a b:Bool} (h:(a&&b)=true):a=true/\b=true:=by simpa using h
theorem QR {C:Cx} {P:Program} {η:Env} {E:Emb} (hC:C.Ok P η) {t:TypeId} {x sv:Sv} {lo hi:Option Sv} {va:Value} {vl vh:Option Value} (h:QQ C t x lo hi=some sv) (hx:x.den η E=some va)
  (rl:oO η E lo vl) (rh:oO η E hi vh) : ∃ v,sv.den η E=some v /\ ∀ w,(Instr.sliceAt t va vl vh none).run P w = .ok v w:=by
 unfold QQ at h;split at h
 ·rename_i ti b o l g hl
  have hT:=(hC.tt t ti g).und
  split at h
  ·rename_i n e hd;rw [hd] at hT;split at h
   ·rename_i ei h' hei hh
    cases hc:(ble l h'&&ble h' n) with
    | false=>rw [hc] at h;cases h
    | true=>
     rw [hc] at h;cases h;obtain ⟨c1,c2⟩:=bR hc
     have c1:=Nat.le_of_ble_eq_true c1
     have c2:=Nat.le_of_ble_eq_true c2
     obtain ⟨B,K,hE,rfl⟩:=kN hx;refine ⟨.slice (some ⟨B,if n=l then o else o+l*ei.size,none⟩) (h'-l) (n-l),?_,fun w => ?_⟩
     ·rw [fL]
      by_cases e0:n=l<;>simp [Sv.den,Sc.den,bV,hE,e0]
     ·have hb:=lJ (P:=P) (η:=η) (E:=E) w (isS:=false) hl hh rl rh c1 c2
      simp only [Instr.sliceAt,Sem.run_bind,run_underlying hT,Result.andThen_ok,Instr.sureAddr,Sem.run_pure,hb,(hC.tt e ei hei).run_size]
      congr 3
      by_cases e0:n=l<;>simp [e0,bM]
   ·cases h
  ·cases h
 ·rename_i ti b o n c l g hl
  have hT:=(hC.tt t ti g).und
  obtain ⟨B,K,m,hE,rfl,hm1,hm2⟩:=fH hx;split at h
  ·rename_i e hd;rw [hd] at hT;split at h
   ·rename_i ei h' c' hei hh
    cases hc:(ble l h'&&ble h' c') with
    | false=>rw [hc] at h;cases h
    | true=>
     rw [hc] at h;cases h;obtain ⟨c1,c2⟩:=bR hc
     have c1:=Nat.le_of_ble_eq_true c1
     have c2:=Nat.le_of_ble_eq_true c2
     have hm:=hm1 _ rfl
     subst hm;refine ⟨.slice (some ⟨B,if m=l then o else o+l*ei.size,none⟩) (h'-l) (m-l),?_,fun w => ?_⟩
     ·rw [fL]
      by_cases e0:m=l<;>simp [Sv.den,Sc.den,bV,hE,e0]
     ·have hb:=lJ (P:=P) (η:=η) (E:=E) w (isS:=true) hl hh rl rh c1 c2
      simp only [Instr.sliceAt,Sem.run_bind,run_underlying hT,Result.andThen_ok,Instr.slice,hb,(hC.tt e ei hei).run_size,Sem.run_pure]
      by_cases e0:m=l<;>simp [e0,bM]
   ·rename_i ei h' k hei hh
    cases hc:(ble l h'&&ble h' n&&(Nat.beq l 0||Nat.blt l n)) with
    | false=>rw [hc] at h;cases h
    | true=>
     rw [hc] at h;cases h;obtain ⟨c12,c3⟩:=bR hc;obtain ⟨c1,c2⟩:=bR c12
     have c1:=Nat.le_of_ble_eq_true c1
     have c2:=Nat.le_of_ble_eq_true c2
     obtain ⟨hm,hK⟩:=hm2 _ rfl
     have c3:l=0∨l<n:=by
      rw [Bool.or_eq_true] at c3
      rcases c3 with c3 | c3
      ·exact .inl (Nat.eq_of_beq_eq_true c3)
      ·exact .inr (Nat.le_of_ble_eq_true c3)
     refine ⟨.slice (some ⟨B,o+l*ei.size,none⟩) (h'-l) (m-l),?_,fun w => ?_⟩
     ·have:h'-l+(k+l)<=K:=by omega
      simp only [Sv.den,Sc.den,hE,if_pos this];rw [hm]
      congr 2;omega
     ·have hb:=lJ (P:=P) (η:=η) (E:=E) w (isS:=true) hl hh rl rh c1 (Nat.le_trans c2 (by omega:n<=m))
      simp only [Instr.sliceAt,Sem.run_bind,run_underlying hT,Result.andThen_ok,Instr.slice,hb,(hC.tt e ei hei).run_size,Sem.run_pure]
      by_cases e0:m=l
      ·have:l=0:=by omega
       simp [e0,this]
      ·simp [e0,bM]
   ·cases h
  ·cases h
 ·rename_i ti l g hl
  have hT:=(hC.tt t ti g).und
  cases hx
  split at h
  ·rename_i e hd;rw [hd] at hT;split at h
   ·rename_i ei hei hh
    cases hc:Nat.beq l 0 with
    | false=>rw [hc] at h;cases h
    | true=>
     rw [hc] at h;cases h
     have c0:=Nat.eq_of_beq_eq_true hc
     subst c0;refine ⟨_,rfl,fun w => ?_⟩
     have hb:=lJ (P:=P) (η:=η) (E:=E) w (isS:=true) (len:=0) (cap:=0) hl hh rl rh (Nat.le_refl _) (Nat.le_refl _)
     simp only [Instr.sliceAt,Sem.run_bind,run_underlying hT,Result.andThen_ok,Instr.slice,hb,(hC.tt e ei hei).run_size,Sem.run_pure];simp
   ·cases h
  ·cases h
 ·rename_i ti s l g hl
  have hT:=(hC.tt t ti g).und
  cases hx
  split at h
  ·rename_i hd;rw [hd] at hT;split at h
   ·rename_i h' hh
    cases hc:(ble l h'&&ble h' s.length) with
    | false=>rw [hc] at h;cases h
    | true=>
     rw [hc] at h;cases h;obtain ⟨c1,c2⟩:=bR hc
     have c1:=Nat.le_of_ble_eq_true c1
     have c2:=Nat.le_of_ble_eq_true c2
     refine ⟨_,rfl,fun w => ?_⟩
     have es:(⟨s.toArray⟩:ByteArray).size=s.length:=by simp [ByteArray.size]
     rw [←es] at hh c2
     have hb:=lJ (P:=P) (η:=η) (E:=E) w (isS:=false) hl hh rl rh c1 c2
     simp only [Instr.sliceAt,Sem.run_bind,run_underlying hT,Result.andThen_ok,Instr.slice,Option.isSome_none,Bool.false_eq_true,if_false,Sem.run_pure,hb]
     congr 2
     apply ByteArray.ext;simp [ByteArray.data_extract,List.extract_toArray,List.extract_eq_take_drop]
   ·cases h
  ·cases h
 ·cases h
end
end Go.Ex
