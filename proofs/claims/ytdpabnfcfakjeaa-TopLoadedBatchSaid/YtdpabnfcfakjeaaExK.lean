/-
 The executor for the rack's seat: its context.
-/
import Derived.Test.YtdpabnfcfakjeaaExV
import Derived.Test.YtdpabnfcfakjeaaExH
import Derived.Test.YtdpabnfcfakjeaaEx22a
namespace Go.Ex
open Go Go.Proofs Go.RowKit
noncomputable section
abbrev Smf:=List Sv->PC->aB (Sv × PC)
def noD:Dec:=⟨fun _ _=>none,fun _ _=>false⟩
theorem acT (η:Env):noD.Ok η:=⟨(fun _ _ _ h=>by cases h),(fun _ _ h=>by cases h)⟩
abbrev Hsf:=T Blk->List Sv->PC->aB (Sv × PC)
abbrev Esf:=T Blk->Nat->Nat->List Sv->PC->aB (Sv × ((T Blk × Nat) × PC))
structure G2 where
 g:T Smf
 h:T Hsf
 e:T Esf := .nil
def mkR (sm:T Smf)(gs:G2):Cx:=⟨Try.tt,Try.ft,sm,gs.h,gs.g,gs.e,noD,fun _ _ _ _=>none,fun _ _ _ _=>none,fun _ _ _ _=>none,fun _ _=>none,fun _ _ _ _ _ _=>none⟩
def η0:Env:=⟨fun _=>0,fun _=>0,fun _ _=>false⟩
def fC (f:FuncId)(g:Smf):Prop := ∀ svs pc r pc',(g svs pc).at_ η0=some (r,pc')->pc.holds η0->pc'.holds η0 /\ ∀ E args w,ZW E w->aD η0 E svs=some args -> ∃ v,r.den η0 E=some v/\AG Try.prog f args.toArray w v
def acU (f:FuncId)(g:Smf):Prop := ∀ svs pc r pc',(g svs pc).at_ η0=some (r,pc')->pc.holds η0->pc'.holds η0 /\ ∀ E args w,ZW E w->aD η0 E svs=some args->acI Try.prog η0 E f args.toArray w r
def qB (f:FuncId)(g:Hsf):Prop := ∀ hp svs pc r pc',(g hp svs pc).at_ η0=some (r,pc')->pc.holds η0->pc'.holds η0 /\ ∀ E args nx lo base w,aF η0 E hp nx lo base w->aD η0 E svs=some args -> ∃ v,r.den η0 E=some v/\AG Try.prog f args.toArray w v
def J4 (f:FuncId)(g:Esf):Prop := ∀ hp nx lo svs pc r,(g hp nx lo svs pc).at_ η0=some r->pc.holds η0->lo<=nx -> ∀ E base w0 w args,aF η0 E hp nx lo base w->Below base w0 w->aD η0 E svs=some args->
 (callFunc f args.toArray).run Try.prog w = .ok (.enter f args.toArray) w/\Calls Try.prog f args.toArray w fun e w' => ∃ v E',e = .returned v/\r.1.den η0 E'=some v/\aJ E E' nx/\aF η0 E' r.2.1.1 r.2.1.2 lo base w'/\Below base w0 w'/\r.2.2.holds η0/\nx<=r.2.1.2
def Q0 (t:T Esf):Prop := ∀ f g,t.get f=some g->J4 f g
theorem Q0.nil:Q0 .nil:=fun f g h=>by simp [T.get_nil] at h
theorem Q0.set {t:T Esf} (h:Q0 t) {f:Nat} {g:Esf} (hf:Nat.blt f 65535=true) (hq:J4 f g):Q0 (t.set f (some g)):=by
 intro f' g' hg
 by_cases e:f=f'
 ·subst e;rw [T.get_set_same _ _ _ (Nat.le_of_ble_eq_true hf)] at hg
  cases hg;exact hq
 ·rw [T.get_set_ne _ _ _ _ e] at hg;exact h f' g' hg
def Tab (Q:FuncId->Smf->Prop)(t:T Smf):Prop := ∀ f g,t.get f=some g->Q f g
theorem Tab.nil {Q:FuncId->Smf->Prop}:Tab Q .nil:=fun f g h=>by simp [T.get_nil] at h
theorem Tab.set {Q:FuncId->Smf->Prop} {t:T Smf} (h:Tab Q t) {f:Nat} {g:Smf} (hf:Nat.blt f 65535=true) (hq:Q f g):Tab Q (t.set f (some g)):=by
 intro f' g' hg
 by_cases e:f=f'
 ·subst e;rw [T.get_set_same _ _ _ (Nat.le_of_ble_eq_true hf)] at hg
  cases hg;exact hq
 ·rw [T.get_set_ne _ _ _ _ e] at hg;exact h f' g' hg
def aaB (t:T Hsf):Prop := ∀ f g,t.get f=some g->qB f g
theorem aaB.set {t:T Hsf} (h:aaB t) {f:Nat} {g:Hsf} (hf:Nat.blt f 65535=true) (hq:qB f g):aaB (t.set f (some g)):=by
 intro f' g' hg
 by_cases e:f=f'
 ·subst e;rw [T.get_set_same _ _ _ (Nat.le_of_ble_eq_true hf)] at hg
  cases hg;exact hq
 ·rw [T.get_set_ne _ _ _ _ e] at hg;exact h f' g' hg
structure cZ (gs:G2):Prop where
 g:Tab acU gs.g
 h:aaB gs.h
 e:Q0 gs.e
def G2.setG (gs:G2)(f:Nat)(g:Smf):G2:=⟨gs.g.set f (some g),gs.h,gs.e⟩
def G2.setH (gs:G2)(f:Nat)(g:Hsf):G2:=⟨gs.g,gs.h.set f (some g),gs.e⟩
def G2.setE (gs:G2)(f:Nat)(g:Esf):G2:=⟨gs.g,gs.h,gs.e.set f (some g)⟩
theorem cZ.setG {gs:G2} (h:cZ gs) {f:Nat} {g:Smf} (hf:Nat.blt f 65535=true) (hq:acU f g):cZ (gs.setG f g):=⟨h.g.set hf hq,h.h,h.e⟩
theorem cZ.setH {gs:G2} (h:cZ gs) {f:Nat} {g:Hsf} (hf:Nat.blt f 65535=true) (hq:qB f g):cZ (gs.setH f g):=⟨h.g,h.h.set hf hq,h.e⟩
theorem cZ.setE {gs:G2} (h:cZ gs) {f:Nat} {g:Esf} (hf:Nat.blt f 65535=true) (hq:J4 f g):cZ (gs.setE f g):=⟨h.g,h.h,h.e.set hf hq⟩
theorem iR {sm:T Smf} {gs:G2} (hs:Tab fC sm) (hg:cZ gs):(mkR sm gs).Ok Try.prog η0 where
 tt:=Try.tt_ok
 ft:=Try.ft_ok
 sm:=hs
 gs:=hg.g
 es:=hg.e
 hs:=hg.h
 D:=acT η0
 ih:=fun _ _ _ _ _ h=>by cases h
 fh:=fun _ _ _ _ _ h=>by cases h
 fa:=fun _ _ _ _ _ h=>by cases h
 f2i:=fun _ _ _ h=>by cases h
 ch:=fun _ _ _ _ _ _ _ h=>by cases h
 mixed:=Try.mixed
theorem dR {sm:T Smf} {gs:G2} (hs:Tab fC sm) (hg:cZ gs):JF Try.prog η0 (lG (mkR sm gs)):=WS (iR hs hg)
def sm0:T Smf := .nil
def gs0:G2:=⟨.nil,.nil,.nil⟩
theorem e7:Tab fC sm0:=Tab.nil
theorem dQ:cZ gs0:=⟨Tab.nil,fun f g h=>by simp [gs0,T.get_nil] at h,Q0.nil⟩
def vcF (sm:T Smf)(gs:G2)(fi:FI)(j:List PT)(rt:RT)(inv:Nat->bT)(rinv:Nat->Option N9)(fds r:List FD):Prop:=
 (Nat.ble (j0 0 j fds).length fi.ntmps&&Nat.ble fi.ntmps 60000)=true/\
 vcK (mkR sm gs) (lG (mkR sm gs)) 300 fi.ntmps η0 inv rinv 400 true 0 [.code fi.body] (BO j fds) (VJ (mkR sm gs) fi rt r)
theorem BJ {sm:T Smf} {gs:G2} (hs:Tab fC sm) (hg:cZ gs) {f:FuncId} {fi:FI} (hF:FI.Ok Try.prog f fi) {j:List PT} {rt:RT} {ck:List FD->Bool} {F:List FD->List FD} (inv:List FD->Nat->bT) (rinv:List FD->Nat->Option N9)
  (h : ∀ fds,FitL (sigS j) fds->ck fds=true->(∀ i F,rinv fds i=some F -> ∀ z,(F.R z).Ok Try.prog η0)/\vcF sm gs fi j rt (inv fds) (rinv fds) fds (F fds)):cT (mkR sm gs) Try.prog η0 f fi j rt ck F:=
 ⟨hF,fun fds hf hc=>⟨(h fds hf hc).2.1,uD (iR hs hg) (dR hs hg) (h fds hf hc).1 _ true none (fun _=>rfl) _ _ _ _ (h fds hf hc).2.2⟩⟩
def noR:Nat->Option N9:=fun _=>none
theorem DQ : ∀ i F,noR i=some F -> ∀ z,(F.R z).Ok Try.prog η0:=fun _ _ h=>by cases h
theorem aL {sm:T Smf} {gs:G2} (hs:Tab fC sm) (hg:cZ gs) {f:FuncId} {fi:FI} (hF:FI.Ok Try.prog f fi) {j:List PT} {rt:RT} {ck:List FD->Bool} {F:List FD->List FD} (inv:List FD->Nat->bT)
  (h : ∀ fds,FitL (sigS j) fds->ck fds=true->vcF sm gs fi j rt (inv fds) noR fds (F fds)):cT (mkR sm gs) Try.prog η0 f fi j rt ck F:=
 BJ hs hg hF inv (fun _=>noR) fun fds hf hc=>⟨DQ,h fds hf hc⟩
theorem aV {sm:T Smf} {gs:G2} (hs:Tab fC sm) (hg:cZ gs) {f:FuncId} {fi:FI} {j:List PT} {rt:RT} {ck:List FD->Bool} {F:List FD->List FD} (h:cT (mkR sm gs) Try.prog η0 f fi j rt ck F) (hrt:rt.scal=true):fC f (gFd j rt ck F):=
 ac1 (iR hs hg) h hrt
theorem oU {sm:T Smf} {gs:G2} (hs:Tab fC sm) (hg:cZ gs) {f:FuncId} {fi:FI} {j:List PT} {rt:RT} {ck:List FD->Bool} {F:List FD->List FD} (h:cT (mkR sm gs) Try.prog η0 f fi j rt ck F):acU f (gFd j rt ck F):=
 ac0 (iR hs hg) h
def vcH (sm:T Smf)(gs:G2)(fi:FI)(j:List PT)(clo:Clo)(rt:RT)(inv:Nat->bT)(fds bds r:List FD):Prop:=
 (Nat.ble (j0 0 j fds++[Sv.one (.fn clo.1 (oS 1 clo.2))]).length fi.ntmps&&Nat.ble fi.ntmps 60000)=true/\
 vcK (mkR sm gs) (lG (mkR sm gs)) 300 fi.ntmps η0 inv noR 400 true 0 [.code fi.body] (XN j clo fds bds) (VJ (mkR sm gs) fi rt r)
theorem jO {sm:T Smf} {gs:G2} (hs:Tab fC sm) (hg:cZ gs) {f:FuncId} {fi:FI} (hF:FI.Ok Try.prog f fi) {j:List PT} {clo:Clo} {rt:RT} {ck:List FD->List FD->Bool} {F:List FD->List FD->List FD} (inv:List FD->List FD->Nat->bT) (hrt:rt.scal=true) (hcl:Nat.ble clo.2.length 100=true)
  (h : ∀ fds bds,FitL (sigS j) fds->FitL (aaz clo.2) bds->ck fds bds=true->vcH sm gs fi j clo rt (inv fds bds) fds bds (F fds bds)):qB f (lK j clo rt ck F):=
 aaA (iR hs hg) ⟨hF,fun fds bds hf hb hc=>⟨(h fds bds hf hb hc).1,uD (iR hs hg) (dR hs hg) DQ _ true none (fun _=>rfl) _ _ _ _ (h fds bds hf hb hc).2⟩⟩ hrt hcl
def NN (c:FuncId)(g1 g2:Hsf):Hsf:=fun hp svs pc=>match NL svs with
 | some (_,.one (.fn f _))=>bif Nat.beq f c then g1 hp svs pc else g2 hp svs pc
 | _ => .fail
theorem sA {f c:FuncId} {g1 g2:Hsf} (h1:qB f g1) (h2:qB f g2):qB f (NN c g1 g2):=by
 intro hp svs pc r pc' h;unfold NN at h;split at h
 ·rename_i fn _ _
  cases hb:Nat.beq fn c with
  | true=>rw [hb] at h;exact h1 hp svs pc r pc' h
  | false=>rw [hb] at h;exact h2 hp svs pc r pc' h
 ·cases h
def bE (p:Nat->Bool):Nat->Nat->Int
 | 0,_ => -1
 | n+1,x=>bif p x then (x:Int) else bE p n (x+1)
def dK (p:Nat->Bool):Nat->Nat->Bool
 | 0,_=>false
 | n+1,x=>p x||dK p n (x+1)
theorem lL (p:Nat->Bool) : ∀ n x,decide (bE p n x<0) = !dK p n x
 | 0,x=>by simp [bE,dK]
 | n+1,x=>by
  have ih:=lL p n (x+1)
  rcases Bool.eq_false_or_eq_true (p x) with h | h
  ·simp only [bE,dK,h,cond_true,Bool.true_or,Bool.not_true,decide_eq_false_iff_not];omega
  ·simp only [bE,dK,h,cond_false,Bool.false_or];exact ih
theorem lM {p:Nat->Bool} : ∀ {n x:Nat},dK p n x=false -> ∀ i,x<=i->i<x+n->p i=false
 | 0,x,_,i,h1,h2=>by omega
 | n+1,x,h,i,h1,h2=>by
  simp only [dK,Bool.or_eq_false_iff] at h
  by_cases e:i=x
  ·subst e;exact h.1
  ·exact lM h.2 i (by omega) (by omega)
theorem H1 {p:Nat->Bool} : ∀ {n x:Nat},dK p n x=true -> ∃ i,x<=i/\i<x+n/\p i=true
 | 0,x,h=>by simp [dK] at h
 | n+1,x,h=>by
  simp only [dK,Bool.or_eq_true] at h
  rcases h with h | h
  ·exact ⟨x,by omega,by omega,h⟩
  ·obtain ⟨i,h1,h2,h3⟩:=H1 h;exact ⟨i,by omega,by omega,h3⟩
end
end Go.Ex
