/-
 The examples that each law begins with.
-/
import Derived.Test.YtdpabnfcfakjeaaLwFj
namespace Go.Ex
open Go Go.Proofs Go.RowKit
noncomputable section
set_option maxRecDepth 1000000
def smA:T Smf:=(T.set sm0 42 (some (gFd sE (.tup [.one (.int .i64),.one (.int .i64)]) zI sF)))
theorem X3:Tab fC smA:=(Tab.set e7 (by kernel_rfl) (aV K8 cA AX rfl))
def gsA:G2:=(G2.setG gs0 32 (gFd FQ (.tup [.one (.list [.list [.int .i64]]),.one (.int .i64)]) O4 FR))
theorem KJ:cZ gsA:=(cZ.setG dQ (by kernel_rfl) (oU RX cA RY))
def RA:List PT:=[]
def X4:List FD->Bool
 | []=>true
 | _=>false
def RB:List FD->List FD
 | []=>[.bool true]
 | _=>[]
def X5  : Nat->bT:=aW (fun _=>[])
abbrev BP  : Prop:=(((true=true)->(((true=true)->(((true=true)->(((true=true)->(((true=true)->(((true=true)->(((true=true)->(((true=true)->(((true=true)->(((false=true)->(((false=true)->False)/\((false=false)->False)))/\((false=false)->(((false=true)->(((false=true)->False)/\((false=false)->False)))/\((false=false)->(true=false))))))/\((true=false)->(true=false))))/\((true=false)->False)))/\((true=false)->(((false=true)->(((false=true)->False)/\((false=false)->False)))/\((false=false)->(true=false))))))/\((true=false)->(true=false))))/\((true=false)->False)))/\((true=false)->(((false=true)->(((false=true)->False)/\((false=false)->False)))/\((false=false)->(true=false))))))/\((true=false)->(true=false))))/\((true=false)->False)))/\((true=false)->(true=false)))
abbrev BQ  : Prop:=((false=true)->(((true=true)->(((true=true)->(((true=true)->(((true=true)->(((true=true)->(((true=true)->(((true=true)->(((true=true)->(((true=true)->(((true=true)->(((true=true)->(((true=true)->(((true=true)->(((false=true)->(((false=true)->False)/\((false=false)->False)))/\((false=false)->(BP))))/\((true=false)->(true=false))))/\((true=false)->False)))/\((true=false)->(BP))))/\((true=false)->(true=false))))/\((true=false)->False)))/\((true=false)->(BP))))/\((true=false)->(true=false))))/\((true=false)->False)))/\((true=false)->(true=false))))/\((true=false)->(true=false))))/\((true=false)->(true=false))))/\((true=false)->(true=false))))/\((true=false)->(true=false))))
abbrev BR  : Prop:=(((true=true)->(((true=true)->(((true=true)->(((true=true)->(((true=true)->(((true=true)->(((true=true)->(((true=true)->(((true=true)->(((false=true)->(((false=true)->False)/\((false=false)->False)))/\((false=false)->(((false=true)->(((false=true)->False)/\((false=false)->False)))/\((false=false)->(true=true))))))/\((true=false)->(true=false))))/\((true=false)->False)))/\((true=false)->(((false=true)->(((false=true)->False)/\((false=false)->False)))/\((false=false)->(true=true))))))/\((true=false)->(true=false))))/\((true=false)->False)))/\((true=false)->(((false=true)->(((false=true)->False)/\((false=false)->False)))/\((false=false)->(true=true))))))/\((true=false)->(true=false))))/\((true=false)->False)))/\((true=false)->(true=true)))
theorem X6:cT (mkR smA gsA) Try.prog η0 18 (FI.of Try.f18 true) RA (.one .bool) X4 RB:=by
 refine aL X3 KJ Try.fok18 (fun fds=>match fds with | []=>X5  | _=>aW fun _=>[]) ?_
 intro fds hf hc;obtain rfl:=hf.nil
 have hc:(true)=true:=hc
 have hvc:(vcF smA gsA (FI.of Try.f18 true) RA (.one .bool) X5 noR [] (RB []))=
  (true=true/\(true=true->(true=true->BQ/\(false=false->BQ/\(false=false->BQ/\(false=false->(true=true->(true=true->(true=true->(true=true->(true=true->(true=true->(true=true->(true=true->(true=true->(true=true->(true=true->(true=true->(true=true->(false=true->(false=true->False)/\(false=false->False))/\(false=false->BR))/\(true=false->true=false))/\(true=false->False))/\(true=false->BR))/\(true=false->true=false))/\(true=false->False))/\(true=false->BR))/\(true=false->true=false))/\(true=false->False))/\(true=false->true=true))/\(true=false->true=false))/\(true=false->true=false))/\(true=false->true=false))/\(true=false->true=false)))))/\(true=false->False))/\(true=false->False)):=by kernel_rfl
 refine hvc.mpr ?_;clear hvc;dsimp only [BP,BQ,BR];simp
end
end Go.Ex
namespace Go.Ex
open Go Go.Proofs Go.RowKit
noncomputable section
set_option maxRecDepth 1000000
def KK:List PT:=[]
def TO:List FD->Bool
 | []=>true
 | _=>false
def KL:List FD->List FD
 | []=>[.bool true]
 | _=>[]
def TP  : Nat->bT:=aW (fun _=>[])
theorem VO:cT (mkR sm0 gsA) Try.prog η0 28 (FI.of Try.f28 true) KK (.one .bool) TO KL:=by
 refine aL e7 KJ Try.fok28 (fun fds=>match fds with | []=>TP  | _=>aW fun _=>[]) ?_
 intro fds hf hc;obtain rfl:=hf.nil
 have hc:(true)=true:=hc
 have hvc:(vcF sm0 gsA (FI.of Try.f28 true) KK (.one .bool) TP noR [] (KL []))=
  (true=true/\(true=true->(true=true->(true=true->(true=true->(true=true->(true=true->(true=true->(true=true->(true=true->(true=true->(true=true->(true=true->(false=true->(false=true->False)/\(false=false->False))/\(false=false->(true=true->(true=true->(true=true->(true=true->(true=true->(true=true->(true=true->(true=true->(true=true->(false=true->(false=true->False)/\(false=false->False))/\(false=false->(false=true->(false=true->False)/\(false=false->False))/\(false=false->true=true)))/\(true=false->true=false))/\(true=false->False))/\(true=false->(false=true->(false=true->False)/\(false=false->False))/\(false=false->true=true)))/\(true=false->true=false))/\(true=false->False))/\(true=false->(false=true->(false=true->False)/\(false=false->False))/\(false=false->true=true)))/\(true=false->true=false))/\(true=false->False))/\(true=false->true=true)))/\(true=false->true=false))/\(true=false->False))/\(true=false->(true=true->(true=true->(true=true->(true=true->(true=true->(true=true->(true=true->(true=true->(true=true->(false=true->(false=true->False)/\(false=false->False))/\(false=false->(false=true->(false=true->False)/\(false=false->False))/\(false=false->true=true)))/\(true=false->true=false))/\(true=false->False))/\(true=false->(false=true->(false=true->False)/\(false=false->False))/\(false=false->true=true)))/\(true=false->true=false))/\(true=false->False))/\(true=false->(false=true->(false=true->False)/\(false=false->False))/\(false=false->true=true)))/\(true=false->true=false))/\(true=false->False))/\(true=false->true=true)))/\(true=false->true=false))/\(true=false->False))/\(true=false->(true=true->(true=true->(true=true->(true=true->(true=true->(true=true->(true=true->(true=true->(true=true->(false=true->(false=true->False)/\(false=false->False))/\(false=false->(false=true->(false=true->False)/\(false=false->False))/\(false=false->true=true)))/\(true=false->true=false))/\(true=false->False))/\(true=false->(false=true->(false=true->False)/\(false=false->False))/\(false=false->true=true)))/\(true=false->true=false))/\(true=false->False))/\(true=false->(false=true->(false=true->False)/\(false=false->False))/\(false=false->true=true)))/\(true=false->true=false))/\(true=false->False))/\(true=false->true=true)))/\(true=false->true=false))/\(true=false->False))/\(true=false->true=true))/\(true=false->true=false))/\(true=false->true=false))/\(true=false->False)):=by kernel_rfl
 refine hvc.mpr ?_;clear hvc;simp
end
end Go.Ex
