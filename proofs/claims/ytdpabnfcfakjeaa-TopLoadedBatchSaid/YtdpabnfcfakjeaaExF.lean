/-
 Freezing where a loop begins: a row of the executor's own, or an empty slice, that the loop only reads.
-/
import Derived.Test.YtdpabnfcfakjeaaExUa
namespace Go.Ex
open Go Go.RowKit
noncomputable section
theorem Sub.trans {η:Env} {n0:Nat} {st2 st1 st:St} (h:Sub η n0 st2 st1) (h':Sub η n0 st1 st):Sub η n0 st2 st:=
 ⟨h.lo.trans h'.lo,fun hn=>h.nx (h'.nx hn),fun E nt base w0 a w hS hn=>by
  obtain ⟨E1,a1,s1⟩:=h'.sub E nt base w0 a w hS hn;obtain ⟨E2,a2,s2⟩:=h.sub E1 nt base w0 a w s1 (h'.nx hn);exact ⟨E2,a1.trans a2 (Nat.le_refl _),s2⟩⟩
def Emb.root (E:Emb)(n:Nat)(v:Value):Emb:={ E with r:=fun k j=>if k=n then (if j=0 then some v else none) else E.r k j }
theorem aF.root {η:Env} {E:Emb} {hp:T Blk} {nx lo base:Nat} {w:World} (h:aF η E hp nx lo base w) {v:Value} (hv:pZ base v) (hnx:nx<65000):aF η (E.root nx v) hp (nx+1) lo base w/\E.le (E.root nx v):=by
 have hle:E.le (E.root nx v):=⟨fun _ _ h=>h,fun k j u hu=>by
  show (if k=nx then _ else E.r k j)=some u
  by_cases e:k=nx
  ·subst e;rw [h.rfree k (Nat.le_refl _)] at hu;cases hu
  ·rw [if_neg e];exact hu,fun _ _ _ h=>h,fun _ _ _ h=>h⟩
 refine ⟨⟨fun i b hi=>Nat.lt_succ_of_lt (h.dom i b hi),fun i b hi => ?_,h.inj,h.hi,h.top,h.bot,fun i hi=>h.free i (by omega),by omega,h.zw,h.zd,fun k hk j => ?_,h.dk,⟨fun k j u hk hu => ?_,h.rn.2⟩,h.mt.keep (fun _ _=>rfl) (Nat.le_succ _) h.mt.hi (Nat.le_refl _) (fun _ _ _ _ _ _ _ _ hg=>⟨hg,rfl⟩) (fun _ _ _ h=>h) (fun _ _=>rfl) (fun _ _=>rfl) h.mt.z h.mt.own⟩,hle⟩
 ·obtain ⟨B,K,h1,h2⟩:=h.cell i b hi;exact ⟨B,K,h1,h2.mono hle⟩
 ·show (if k=nx then _ else E.r k j)=none
  rw [if_neg (by omega)];exact h.rfree k (by omega) j
 ·have hu:(if k=nx then (if j=0 then some v else none) else E.r k j)=some u:=hu
  split at hu
  ·split at hu
   ·cases hu;exact hv
   ·cases hu
  ·exact h.rn.1 k j u hk hu
def aat (t:Nat)(s1:Sv)(st:St):St:=
 match s1,st.tm.get t with
 | .one (.fz (.root _ _) (.list cs n1 f1)),some (.one (.own b _))=>⟨st.tm.set t (some (.one (.fz (.root st.nx 0) (.list cs n1 f1)))),st.hp.set b none,st.nx+1,st.lo,st.pc⟩
 | .one (.fz (.root _ _) (.list cs n1 f1)),some (.one (.slice none 0 (.known 0)))=>⟨st.tm.set t (some (.one (.fz (.root st.nx 0) (.list cs n1 f1)))),st.hp,st.nx+1,st.lo,st.pc⟩
 | _,_=>st
def W9 (t:Nat)(s1:Sv)(st:St):Prop:=
 match s1,st.tm.get t with
 | .one (.fz (.root _ _) (.list cs n1 f1)),some (.one (.own b n))=>match st.hp.get b with
  | some (.row _ cs' n' f)=>((Nat.ble st.lo b&&(Nat.blt t 65535&&(Nat.blt st.nx 65000&&Nat.ble st.lo st.nx)))=true/\cs'=cs)/\n'=n/\n1=n /\ ∀ i,i<n -> ∀ j,j<cs.length->f1 i j=f i j
  | _=>False
 | .one (.fz (.root _ _) (.list cs n1 f1)),some (.one (.slice none 0 (.known 0)))=>(Nat.blt t 65535&&(Nat.blt st.nx 65000&&Nat.ble st.lo st.nx))=true/\n1=0
 | _,_=>True
theorem XA {η:Env} {n0:Nat} {t:Nat} {s1:Sv} {st:St} (h:W9 t s1 st):Sub η n0 (aat t s1 st) st:=by
 unfold W9 at h;unfold aat;split at h
 ·rename_i R J cs n1 f1 b n hs;split at h
  ·rename_i e cs' n' f hb;obtain ⟨⟨hck,rfl⟩,rfl,rfl,hf⟩:=h;simp only [Bool.and_eq_true] at hck
   have k1:=Nat.le_of_ble_eq_true hck.1
   have k2:t<65535:=Nat.le_of_ble_eq_true hck.2.1
   have k3:st.nx<65000:=Nat.le_of_ble_eq_true hck.2.2.1
   have k4:=Nat.le_of_ble_eq_true hck.2.2.2
   refine ⟨rfl,fun hn=>Nat.le_succ_of_le hn,fun E nt base w0 a w hS hn => ?_⟩
   obtain ⟨v,g1,g2⟩:=hS.fr t _ hs;obtain ⟨B,K,hE,rfl,hnK⟩:=iQ g2;obtain ⟨E2,l2,b2,ag2,h2,rd⟩:=hS.hr.freeze hb k1 hE
   have hB:=hS.hr.hi b B K k1 hE
   obtain ⟨h3,l3⟩:=h2.root (v := .slice (some ⟨B,0,none⟩) n1 K) (fun a n c e _=>by cases e;exact hB) k3
   have agr:aJ E (E2.root st.nx (.slice (some ⟨B,0,none⟩) n1 K)) n0:=by
    refine (ag2 n0).trans (m:=n0) ⟨fun _ _=>rfl,fun k hk j => ?_,fun _ _ _ h=>h,fun _ _ h=>h,rfl,fun _ _ _=>rfl⟩ (Nat.le_refl _)
    show (if k=st.nx then _ else E2.r k j)=E2.r k j
    rw [if_neg (by omega)]
   refine ⟨_,agr,⟨fun t' s' ht' => ?_,hS.sz,hS.nt,(by rw [agr.dl];exact hS.df),h3,hS.bl,Nat.le_succ_of_le k4,hS.pc⟩⟩
   by_cases ett:t=t'
   ·subst ett;rw [T.get_set_same _ _ _ k2] at ht'
    cases ht'
    refine ⟨_,g1,?_⟩
    show sX (E2.root st.nx _) (.root st.nx 0) (.list cs' n1 f1)=_
    refine aP.2 ⟨?_,?_⟩
    ·show (if st.nx=st.nx then (if 0=0 then some _ else none) else E2.r st.nx 0)=_
     rw [if_pos rfl,if_pos rfl]
    ·have rd3:=rd.mono l3.z
     obtain ⟨a',c',e1,e2,e3,e4⟩:=rd3;refine ⟨a',c',e1,e2,e3,e4.imp id ?_⟩;rintro ⟨B',o,ea,hc⟩;refine ⟨B',o,ea,fun i hi j hj => ?_⟩
     rw [hf i hi j hj];exact hc i hi j hj
   ·rw [T.get_set_ne _ _ _ _ ett] at ht';obtain ⟨u,q1,q2⟩:=hS.fr t' s' ht';exact ⟨u,q1,Sv.den_mono (l2.trans l3) q2⟩
  ·exact h.elim
 ·rename_i R J cs n1 f1 hs;obtain ⟨hck,rfl⟩:=h;simp only [Bool.and_eq_true] at hck
  have k2:t<65535:=Nat.le_of_ble_eq_true hck.1
  have k3:st.nx<65000:=Nat.le_of_ble_eq_true hck.2.1
  have k4:=Nat.le_of_ble_eq_true hck.2.2
  refine ⟨rfl,fun hn=>Nat.le_succ_of_le hn,fun E nt base w0 a w hS hn => ?_⟩
  obtain ⟨v,g1,g2⟩:=hS.fr t _ hs
  have hv:v = .slice none 0 0:=by
   simp only [Sv.den,Sc.den] at g2
   simpa using g2.symm
  subst hv;obtain ⟨h3,l3⟩:=hS.hr.root (v := .slice none 0 0) (fun a n c e _=>by cases e) k3
  refine ⟨E.root st.nx (.slice none 0 0),⟨fun _ _=>rfl,fun k hk j => ?_,fun _ _ _ h=>h,fun _ _ h=>h,rfl,fun _ _ _=>rfl⟩,⟨fun t' s' ht' => ?_,hS.sz,hS.nt,hS.df,h3,hS.bl,Nat.le_succ_of_le k4,hS.pc⟩⟩
  ·show (if k=st.nx then _ else E.r k j)=E.r k j
   rw [if_neg (by omega)]
  ·by_cases ett:t=t'
   ·subst ett;rw [T.get_set_same _ _ _ k2] at ht'
    cases ht'
    refine ⟨_,g1,?_⟩
    show sX (E.root st.nx _) (.root st.nx 0) (.list cs 0 f1)=_
    refine aP.2 ⟨?_,none,0,rfl,Nat.le_refl _,by decide,.inl rfl⟩
    show (if st.nx=st.nx then (if 0=0 then some _ else none) else E.r st.nx 0)=_
    rw [if_pos rfl,if_pos rfl]
   ·rw [T.get_set_ne _ _ _ _ ett] at ht';obtain ⟨u,q1,q2⟩:=hS.fr t' s' ht';exact ⟨u,q1,Sv.den_mono l3 q2⟩
 ·exact Sub.refl η n0 st
def J2:List (Nat × Sv)->St->St
 | [],st=>st
 | (t,s1)::l,st=>J2 l (aat t s1 st)
def acQ:List (Nat × Sv)->St->Prop
 | [],_=>True
 | (t,s1)::l,st=>W9 t s1 st/\acQ l (aat t s1 st)
theorem NG {η:Env} {n0:Nat} : ∀ {l:List (Nat × Sv)} {st:St},acQ l st->Sub η n0 (J2 l st) st
 | [],st,_=>Sub.refl η n0 st
 | (t,s1)::l,st,h=>(NG h.2).trans (XA h.1)
def abl:List (Nat × Sv)->T Sv->Bool
 | [],_=>false
 | (t,s1)::l,tm=>(match s1,tm.get t with
  | .one (.fz (.root _ _) _),some (.one (.own _ _))=>true
  | .one (.fz (.root _ _) _),some (.one (.slice none 0 (.known 0)))=>true
  | .one (.fz (.root R _) _),some (.one (.fz (.root R' _) _)) => !(Nat.beq R R')
  | _,_=>false)||abl l tm
def NH:List (Nat × Sv)->T Sv->List (Nat × Nat)
 | [],_=>[]
 | (t,s1)::l,tm=>match s1,tm.get t with
  | .one (.fz (.root R _) _),some (.one (.fz (.root R' _) _))=>bif Nat.beq R R' then NH l tm else (R,R')::NH l tm
  | _,_=>NH l tm
def NI (ρ:List (Nat × Nat)) (hp:T Blk):List (Nat × Blk)->List (Nat × Nat)
 | []=>[]
 | (i,.mat q _ _ _ _ _ _)::l=>match d8.lookN ρ i with
  | some j=>match hp.get j with
   | some (.mat q' _ _ _ _ _ _)=>bif Nat.beq q q' then NI ρ hp l else (q,q')::NI ρ hp l
   | _=>NI ρ hp l
  | none=>NI ρ hp l
 | _::l=>NI ρ hp l
def ael (ρ:List (Nat × Nat)) (hp:T Blk) (bl:List (Nat × Blk)):Bool:=
 match NI ρ hp bl with
 | []=>false
 | _=>true
def XB (rr:List (Nat × Nat)) (k:Nat):Nat:=
 match d8.lookN rr k with
 | some k'=>k'
 | none=>k
def aem (n0 lo:Nat) (rr:List (Nat × Nat)):Bool:=rr.all fun p=>Nat.ble n0 p.1&&Nat.ble lo p.2
theorem XC {n0 lo:Nat} {rr:List (Nat × Nat)} (h:aem n0 lo rr=true):(∀ k,k<n0->XB rr k=k) /\ ∀ k,lo<=k->lo<=XB rr k:=by
 have hm : ∀ p∈rr,n0<=p.1/\lo<=p.2:=fun p hp=>by
  have:=List.all_eq_true.1 h p hp
  simp only [Bool.and_eq_true] at this;exact ⟨Nat.le_of_ble_eq_true this.1,Nat.le_of_ble_eq_true this.2⟩
 refine ⟨fun k hk => ?_,fun k hk => ?_⟩
 ·unfold XB;split
  ·rename_i k' hk'
   have:=(hm _ (iH hk')).1
   simp only at this;omega
  ·rfl
 ·unfold XB;split
  ·rename_i k' hk';exact (hm _ (iH hk')).2
  ·exact hk
end
end Go.Ex
