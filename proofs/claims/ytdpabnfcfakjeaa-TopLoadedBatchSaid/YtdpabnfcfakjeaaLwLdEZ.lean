/-
 Contracts: assignments and covers.
-/
import Derived.Test.YtdpabnfcfakjeaaLwLdD
namespace Go.Ex
open Go Go.Proofs Go.RowKit
noncomputable section
set_option maxRecDepth 1000000
def aa8:T Smf:=(T.set (T.set PM 25 (some (gFd xD (.tup [.one (.int .i64),.one (.int .i64)]) n7 xE))) 68 (some (gFd u5 (.tup [.one (.int .i64),.one (.int .i64)]) lX u6)))
theorem LX:Tab fC aa8:=(Tab.set (Tab.set kQ (by kernel_rfl) (aV kQ mX GG rfl)) (by kernel_rfl) (aV kQ mX LW rfl))
def GI:List PT:=[.agg [.list [.str,.list [.int .i64]],.int .i64]]
def rG:List FD->Bool
 | [.list _ nps fps,.int _ _]=>mW nps fps
 | _=>false
def GJ:List FD->List FD
 | [.list _ nps fps,.int _ pc]=>[.int .i64 (bJ pc nps fps)]
 | _=>[]
def PP (_nps:Nat)(_fps:Nat->Nat->FD)(_pc:Int):Nat->bT:=aW (fun _=>[])
theorem SH:cT (mkR aa8 PN) Try.prog η0 93 (FI.of Try.f93 true) GI (.one (.int .i64)) rG GJ:=by
 refine aL LX mX Try.fok93 (fun fds=>match fds with | [.list _ nps fps,.int _ pc]=>PP nps fps pc | _=>aW fun _=>[]) ?_
 intro fds hf hc;obtain ⟨nps,fps,ds0,rfl,gps,hf1⟩:=hf.list;obtain ⟨pc,ds1,rfl,hf2⟩:=hf1.int;obtain rfl:=hf2.nil
 have hc:(mW nps fps)=true:=hc
 have hvc:(vcF aa8 PN (FI.of Try.f93 true) GI (.one (.int .i64)) (PP nps fps pc) noR [.list [.str,.list [.int .i64]] nps fps,.int .i64 pc] (GJ [.list [.str,.list [.int .i64]] nps fps,.int .i64 pc]))=
  (true=true/\(lX ([FD.list [Sh.str,Sh.list [Sh.int IntKind.i64]] nps fps,FD.int IntKind.i64 pc]++[])=true->IntKind.i64=IntKind.i64/\bJ pc nps fps=bJ pc nps fps)/\(lX ([FD.list [Sh.str,Sh.list [Sh.int IntKind.i64]] nps fps,FD.int IntKind.i64 pc]++[])=false->False)):=by kernel_rfl
 refine hvc.mpr ?_;clear hvc
 have h1:lX [.list [.str,.list [.int .i64]] nps fps,.int .i64 pc]=true:=hc
 simp [h1]
def adp:T Smf:=(T.set aa8 93 (some (gFd GI (.one (.int .i64)) rG GJ)))
theorem UH:Tab fC adp:=(Tab.set LX (by kernel_rfl) (aV LX mX SH rfl))
def A2 (pc:Int)(f g:Nat->Nat->FD)(i:Nat):Int:=
 if (g i 0).i = -1 then 0 else if 0<=(g i 0).i/\(g i 0).i<=IntKind.i64.wrap (pc-1) then (if gL (f i 1).ln (f i 1).fn (g i 0).i=true then (if gL i g (g i 0).i=true then 26 else 0) else 13) else 6
def i9 (g:Nat->Nat->FD):Nat->Int
 | 0=>0
 | n+1=>if (g n 0).i = -1 then i9 g n else i9 g n+1
theorem GK {pc:Int} {n:Nat} {f:Nat->Nat->FD} (h:bJ pc n f=0):0<=pc/\pc<=24:=by
 unfold bJ at h;split at h
 ·assumption
 ·omega
def adq (f:Nat->Nat->FD)(j:Nat)(o:Nat->Nat->FD)(ncl:Nat)(fcl:Nat->Nat->FD)(i k:Nat):Bool:=gL j o i||gL ncl fcl ((f i 1).fn k 0).i
def I4 (f:Nat->Nat->FD)(j:Nat)(o:Nat->Nat->FD)(ncl:Nat)(fcl:Nat->Nat->FD)(i:Nat):Int:=if aH (adq f j o ncl fcl i) (f i 1).ln=true then 0 else 20
end
end Go.Ex
namespace Go.Ex
open Go Go.Proofs Go.RowKit
noncomputable section
set_option maxRecDepth 1000000
theorem rH {α:Type} [DecidableEq α] : ∀ {l m:List α},l.Nodup->(∀ x,x∈l->x∈m)->l.length<=m.length
 | [],_,_,_=>Nat.zero_le _
 | a::l,m,hn,hs=>by
  have ha:=hs a (List.mem_cons_self ..)
  obtain ⟨h1,h2⟩:=List.nodup_cons.1 hn
  have:=rH (m:=m.erase a) h2 fun x hx=>(List.mem_erase_of_ne (fun e=>by subst e;exact h1 hx)).2 (hs x (List.mem_cons_of_mem _ hx))
  rw [List.length_erase_of_mem ha] at this
  have:=List.length_pos_of_mem ha
  simp only [List.length_cons];omega
theorem xF {n:Nat} {f:Nat->Nat->FD} {v:Int} (h:gL n f v=true) : ∃ i,i<n/\(f i 0).i=v:=by
 obtain ⟨i,_,h2,h3⟩:=H1 h;exact ⟨i,by omega,of_decide_eq_true h3⟩
theorem LY {n:Nat} {f:Nat->Nat->FD} {v:Int} (h:gL n f v=false) : ∀ i,i<n->(f i 0).i≠v:=fun i hi=>
 of_decide_eq_false (lM h i (by omega) (by omega))
def UI (n:Nat)(f:Nat->Nat->FD):List Int:=(List.range n).map fun i=>(f i 0).i
theorem PQ {n:Nat} {f:Nat->Nat->FD} {v:Int} (h:gL n f v=true):v∈UI n f:=by
 obtain ⟨i,h1,h2⟩:=xF h;exact List.mem_map.2 ⟨i,List.mem_range.2 h1,h2⟩
def inP (j:Nat)(o g:Nat->Nat->FD)(i:Nat):Bool := !decide ((g i 0).i = -1)&&gL j o (i:Int)
def noP (j:Nat)(o g:Nat->Nat->FD)(i:Nat):Bool := !decide ((g i 0).i = -1) && !gL j o (i:Int)
theorem rI (j:Nat)(o g:Nat->Nat->FD) : ∀ n,i9 g n=(((List.range n).filter (inP j o g)).length:Int)+((List.range n).filter (noP j o g)).length
 | 0=>rfl
 | n+1=>by
  rw [i9,rI j o g n,List.range_succ,List.filter_append,List.filter_append,List.length_append,List.length_append]
  by_cases h:(g n 0).i = -1
  ·have e1:inP j o g n=false:=by rw [inP,decide_eq_true h];rfl
   have e2:noP j o g n=false:=by rw [noP,decide_eq_true h];rfl
   rw [if_pos h];simp [List.filter,e1,e2]
  ·rw [if_neg h]
   cases hb:gL j o (n:Int) with
   | true=>
    have e1:inP j o g n=true:=by rw [inP,decide_eq_false h,hb];rfl
    have e2:noP j o g n=false:=by rw [noP,decide_eq_false h,hb];rfl
    simp [List.filter,e1,e2];omega
   | false=>
    have e1:inP j o g n=false:=by rw [inP,decide_eq_false h,hb];rfl
    have e2:noP j o g n=true:=by rw [noP,decide_eq_false h,hb];rfl
    simp [List.filter,e1,e2];omega
theorem GL {pc:Int} {f g:Nat->Nat->FD} {i:Nat} (h:A2 pc f g i=0) (hi:(g i 0).i ≠ -1):gL (f i 1).ln (f i 1).fn (g i 0).i=true/\gL i g (g i 0).i=false:=by
 rw [A2,if_neg hi] at h;split at h
 ·split at h
  ·rename_i h1;split at h
   ·omega
   ·rename_i h2;exact ⟨h1,by simpa using h2⟩
  ·omega
 ·omega
theorem SI {f:Nat->Nat->FD} {j:Nat} {o:Nat->Nat->FD} {ncl:Nat} {fcl:Nat->Nat->FD} {i:Nat} (h:I4 f j o ncl fcl i=0) (hi:gL j o (i:Int)=false) : ∀ k,k<(f i 1).ln->gL ncl fcl ((f i 1).fn k 0).i=true:=fun k hk=>by
 rw [I4] at h;split at h
 ·rename_i h1
  have:=bG h1 k hk
  rw [adq,hi,Bool.false_or] at this;exact this
 ·omega
theorem ZT {pc:Int} {n:Nat} {f g:Nat->Nat->FD} {j:Nat} {o:Nat->Nat->FD} {ncl:Nat} {fcl:Nat->Nat->FD} (h1:aX (A2 pc f g) n=0) (h2:aX (I4 f j o ncl fcl) n=0):i9 g n<=(j:Int)+ncl:=by
 rw [rI j o g n]
 have a1:(((List.range n).filter (inP j o g)).map fun i:Nat=>(i:Int)).length<=(UI j o).length:=by
  refine rH ?_ ?_
  ·refine List.pairwise_map.2 (List.Pairwise.imp ?_ (List.Pairwise.filter _ (List.nodup_range (n:=n))));intro a b hab e;omega
  ·intro x hx;obtain ⟨i,hi,rfl⟩:=List.mem_map.1 hx
   have:=(List.mem_filter.1 hi).2
   simp only [inP,Bool.and_eq_true] at this;exact PQ this.2
 have a2:(((List.range n).filter (noP j o g)).map fun i:Nat=>(g i 0).i).length<=(UI ncl fcl).length:=by
  refine rH ?_ ?_
  ·refine List.pairwise_map.2 (List.Pairwise.imp_of_mem ?_ (List.Pairwise.filter _ (List.pairwise_lt_range (n:=n))));intro a b ha hb hab e;obtain ⟨b1,b2⟩:=List.mem_filter.1 hb;simp only [noP,Bool.and_eq_true,Bool.not_eq_true',decide_eq_false_iff_not] at b2
   have hbn:=List.mem_range.1 b1
   exact LY (GL (fE h1 b hbn) b2.1).2 a hab e
  ·intro x hx;obtain ⟨i,hi,rfl⟩:=List.mem_map.1 hx;obtain ⟨b1,b2⟩:=List.mem_filter.1 hi;simp only [noP,Bool.and_eq_true,Bool.not_eq_true',decide_eq_false_iff_not] at b2
   have hin:=List.mem_range.1 b1
   obtain ⟨k,hk,e⟩:=xF (GL (fE h1 i hin) b2.1).1
   have:=SI (fE h2 i hin) b2.2 k hk
   rw [e] at this;exact PQ this
 simp only [List.length_map,UI,List.length_range] at a1 a2;omega
end
end Go.Ex
