/-
 What a statement's arguments are, as data of the executor; the row's last step.
-/
import Derived.Test.YtdpabnfcfakjeaaLwFab
import Derived.ProofKit
import Derived.ChangeArms
import Derived.DataReads
import Derived.OpenShut
namespace Go.Ex
open Go Go.RowKit Go.WideShapes Go.ChangeShapes Go.Proofs
noncomputable section
def AY (w:World):Nat->Nat->Option Value:=fun B o=>w.cell? ⟨B,o,none⟩
def abz (w:World)(s:Sh)(v:Value):Prop := ∃ d,s.ex d=d/\bK (AY w) d v
def uV (w:World):List Sh->List Value->Prop
 | [],[]=>True
 | s::ss,v::vs=>abz w s v/\uV w ss vs
 | _,_=>False
theorem uV.len {w:World} : ∀ {ss:List Sh} {vs:List Value},uV w ss vs->vs.length=ss.length
 | [],[],_=>rfl
 | [],_::_,h=>h.elim
 | _::_,[],h=>h.elim
 | _::_,_::_,h=>by simp [uV.len h.2]
theorem uV.at {w:World} : ∀ {ss:List Sh} {vs:List Value} {j:Nat},uV w ss vs->j<ss.length -> ∃ u,vs[j]? = some u/\abz w (jW ss j) u
 | [],_,j,_,hj=>by simp at hj
 | _::_,[],_,h,_=>h.elim
 | s::ss,v::vs,0,h,_=>⟨v,rfl,h.1⟩
 | s::ss,v::vs,j+1,h,hj=>by
  obtain ⟨u,h1,h2⟩:=uV.at h.2 (show j<ss.length by simpa using hj)
  exact ⟨u,by simpa using h1,h2⟩
section
variable {H:Type} {enc:TypeId × Value->H} {P:Program}
theorem post_of_below {f:Func} {s:ChangeSpec} {apart fresh handsOn again:Bool} {W W':World} {args:Array Value} {v:Value} {ds gs:List (DataW H)} {g pa pv:List MemPlace}
  (hW:DataW.Whole enc P f.params.toList s.vars apart W args.toList ds gs g)
  (hres : ∀ (b:Nat) (sp:Nat->Bool) (hd:Bool),DataW.TrodAll enc P W' b sp hd f.resultTypes.toList (v.resultList f.resultTypes.size) (s.fn H (ds++gs)).results [])
  (hargs : ∀ sp:Nat->Bool,(∀ p∈g,sp p.block=true)->DataW.TrodAll enc P W' 0 sp true f.params.toList args.toList (s.fn H (ds++gs)).args pa)
  (hvars : ∀ sp:Nat->Bool,(∀ p∈g,sp p.block=true)->DataW.TrodVars enc P W' sp s.vars (s.fn H (ds++gs)).vars pv)
  (hps:g=pa++pv) (hb:Below W.heap.size W W')
  (hok : ∀ (j:Nat) (t:TypeId) (r:Value),f.resultTypes[j]? = some t->(v.resultList f.resultTypes.size)[j]? = some r->Value.okWide P W' .any 0 t r):
  s.post enc P f apart fresh handsOn again W args v W':=by
 have hlt : ∀ p∈g,p.block<W.heap.size:=fun p hp=>hW.lt p hp
 have hold : ∀ p∈g,(fun b=>decide (b<W.heap.size)) p.block=true:=fun p hp=>by simpa using hlt p hp
 refine ⟨ds,gs,g,[],pa,pv,hW,hres _ _ _,hargs _ hold,hvars _ hold,World.keptBut_mono (fun p hp=>⟨hp,?_⟩) (hb.frame (· ∈ g)),fun _ => ?_⟩
 ·rw [hps,List.mem_append] at hp;exact Or.inr hp
 ·obtain ⟨_,_,_,_,_,hz,hn⟩:=hW;refine ⟨hok,_,_,([]++pa)++pv,⟨[]++pa,pv,trodAll_append (hargs _ (fun _ _=>rfl)) (hres _ _ _),hvars _ (fun _ _=>rfl),rfl,?_,?_⟩,?_⟩
  ·intro b off hp
   have hin:MemPlace.cell b off∈g:=by rw [hps];simpa using hp
   rw [hb.frozen (hlt _ hin)];exact hz b off hin
  ·intro ha
   have:=hn ha
   rw [hps] at this
   simpa using this
  ·intro p hp _;rw [hps]
   simpa using hp
theorem shut_trueR {t:TypeId} {w:World} {b:Nat} {sp:Nat->Bool} {hd:Bool} (hu:P.underlying t=some .bool):DataW.Trod enc P w b sp hd t (.bool true) (.lit (.bool true)) []:=
 ⟨1,by simp [DataW.trod,Value.cells,hu]⟩
theorem okWide_trueR {t:TypeId} {w:World} (hu:P.underlying t=some .bool):Value.okWide P w .any 0 t (.bool true):=by
 simp [Value.okWide,hu,Cell.okWide,Cell.ok]
end
def aeH (w:World)(vs:List Value):Emb:=⟨fun _=>none,fun k j=>if k=0 then vs[j]? else none,AY w,fun _=>none,⟨[],fun _ _=>none⟩,fun _ _=>none⟩
theorem aa7 (w:World)(vs:List Value):ZW (aeH w vs) w:=fun _ _ _ h=>h
end
end Go.Ex
namespace Go.Ex
open Go Go.RowKit Go.WideShapes Go.ChangeShapes
noncomputable section
inductive AK where
 | i
 | k (n:Int)
 | f
 | c
def adj:AK->Value->Prop
 | .i,c => ∃ n,c = .int .i64 n /\ -9223372036854775808<=n/\n<=9223372036854775807
 | .f,c => ∃ b,c = .float .f64 b/\b<18446744073709551616
 | _,_=>False
def kP:List AK->List Value->Prop
 | [],[]=>True
 | k::ks,c::cs=>adj k c/\kP ks cs
 | _,_=>False
theorem kP.append : ∀ {k1 k2:List AK} {c1 c2:List Value},kP k1 c1->kP k2 c2->kP (k1++k2) (c1++c2)
 | [],_,[],_,_,h=>h
 | [],_,_::_,_,h,_=>h.elim
 | _::_,_,[],_,h,_=>h.elim
 | _::_,_,_::_,_,h,h'=>⟨h.1,kP.append h.2 h'⟩
theorem kP.len : ∀ {k:List AK} {c:List Value},kP k c->c.length=k.length
 | [],[],_=>rfl
 | [],_::_,h=>h.elim
 | _::_,[],h=>h.elim
 | _::_,_::_,h=>by simp [kP.len h.2]
section
variable {H:Type} {enc:TypeId × Value->H} {P:Program}
theorem F6 {w:World} {b:Nat} {sp:Nat->Bool} {hd:Bool} {n:Nat} {t:TypeId} {fs:Array Field} {cs:List Value} (ht:P.underlying t=some (.struct fs)):
  DataW.trod enc P w b sp hd (n+1) t cs=if cs.length=P.cellsOf t then (fs.toList.mapM fun f=>DataW.trod enc P w b sp hd n f.type ((cs.drop f.offset).take (P.cellsOf f.type))).map fun xs=>(.agg (xs.map (·.1)),xs.flatMap (·.2)) else none:=by
 conv=>lhs;unfold DataW.trod
 rw [ht]
theorem HD {w:World} {b:Nat} {sp:Nat->Bool} {hd:Bool} {n:Nat} {t e:TypeId} {m:Nat} {cs:List Value} (ht:P.underlying t=some (.array m e)):
  DataW.trod enc P w b sp hd (n+1) t cs=if cs.length=P.cellsOf t then ((List.range m).mapM fun i=>DataW.trod enc P w b sp hd n e ((cs.drop (i*P.cellsOf e)).take (P.cellsOf e))).map fun xs=>(.agg (xs.map (·.1)),xs.flatMap (·.2)) else none:=by
 conv=>lhs;unfold DataW.trod
 rw [ht]
end
section
variable {H:Type} {enc:TypeId × Value->H} {P:Program}
def zT (P:Program)(t:TypeId):Bool:=
 match P.underlying t with
 | some (.struct _)=>true
 | some (.array _ _)=>true
 | _=>false
end
end
end Go.Ex
namespace Go.Ex
open Go Go.RowKit Go.WideShapes Go.ChangeShapes Go.Proofs
noncomputable section
def RngD (d:FD):Prop := ∀ n,d = .int .i64 n -> -9223372036854775808<=n/\n<=9223372036854775807
def ZM (w:World)(s:Sh)(v:Value):Prop := ∃ d,s.ex d=d/\bK (AY w) d v/\RngD d
def cQ (w:World):List Sh->List Value->Prop
 | [],[]=>True
 | s::ss,v::vs=>ZM w s v/\cQ w ss vs
 | _,_=>False
theorem cQ.len {w:World} : ∀ {ss:List Sh} {vs:List Value},cQ w ss vs->vs.length=ss.length
 | [],[],_=>rfl
 | [],_::_,h=>h.elim
 | _::_,[],h=>h.elim
 | _::_,_::_,h=>by simp [cQ.len h.2]
theorem cQ.at {w:World} : ∀ {ss:List Sh} {vs:List Value} {j:Nat},cQ w ss vs->j<ss.length -> ∃ u,vs[j]? = some u/\ZM w (jW ss j) u
 | [],_,j,_,hj=>by simp at hj
 | _::_,[],_,h,_=>h.elim
 | s::ss,v::vs,0,h,_=>⟨v,rfl,h.1⟩
 | s::ss,v::vs,j+1,h,hj=>by
  obtain ⟨u,h1,h2⟩:=cQ.at h.2 (show j<ss.length by simpa using hj)
  exact ⟨u,by simpa using h1,h2⟩
theorem cQ.append {w:World} : ∀ {k1 k2:List Sh} {c1 c2:List Value},cQ w k1 c1->cQ w k2 c2->cQ w (k1++k2) (c1++c2)
 | [],_,[],_,_,h=>h
 | [],_,_::_,_,h,_=>h.elim
 | _::_,_,[],_,h,_=>h.elim
 | _::_,_,_::_,_,h,h'=>⟨h.1,cQ.append h.2 h'⟩
def UA (P:Program) (F:TypeId->Option (List Sh)):List Field->Nat->Option (List Sh)
 | [],_=>some []
 | f::l,off=>bif Nat.beq f.offset off then (match F f.type with
  | some ks=>bif Nat.beq ks.length (P.cellsOf f.type) then (match UA P F l (off+ks.length) with
   | some r=>some (ks++r)
   | none=>none) else none
  | none=>none) else none
def VX (P:Program):Nat->TypeId->Option (List Sh)
 | 0,_=>none
 | n+1,t=>match P.underlying t with
  | some .bool=>some [.bool]
  | some (.int k)=>some [.int k]
  | some .string=>some [.str]
  | some (.slice e)=>match VX P n e with
   | some ss=>match Nat.beq ss.length (P.cellsOf e)&&Nat.blt 0 ss.length with
    | true=>some [.list ss]
    | false=>none
   | none=>none
  | some (.struct fs)=>match UA P (VX P n) fs.toList 0 with
   | some ks=>bif Nat.beq ks.length (P.cellsOf t) then some ks else none
   | none=>none
  | some (.array m e)=>match VX P n e with
   | some ks=>bif Nat.beq ks.length (P.cellsOf e)&&Nat.beq (m*ks.length) (P.cellsOf t) then some (List.replicate m ks).flatten else none
   | none=>none
  | _=>none
section
variable {H:Type} {enc:TypeId × Value->H} {P:Program}
theorem AZ {w:World} {F:TypeId->Option (List Sh)} {G:TypeId->List Value->Option (DataW H × List MemPlace)} (hG : ∀ t ks cs x,F t=some ks->G t cs=some x->cQ w ks cs) (cs:List Value):
  ∀ (l:List Field) (off:Nat) (ks:List Sh) (xs:List (DataW H × List MemPlace)),UA P F l off=some ks->(l.mapM fun f=>G f.type ((cs.drop f.offset).take (P.cellsOf f.type)))=some xs->cs.length=off+ks.length->cQ w ks (cs.drop off)
 | [],off,ks,xs,h,_,hl=>by
  cases h
  rw [List.drop_eq_nil_of_le (by simp at hl;omega)]
  trivial
 | f::l,off,ks,xs,h,hm,hl=>by
  simp only [UA] at h
  cases ho:Nat.beq f.offset off with
  | false=>rw [ho] at h;cases h
  | true=>
   rw [ho] at h
   have ho:=Nat.eq_of_beq_eq_true ho
   simp only [cond_true] at h;split at h
   ·rename_i k1 hk
    cases hc:Nat.beq k1.length (P.cellsOf f.type) with
    | false=>rw [hc] at h;cases h
    | true=>
     rw [hc] at h
     have hc:=Nat.eq_of_beq_eq_true hc
     simp only [cond_true] at h;split at h
     ·rename_i r hr
      cases h
      simp only [List.mapM_cons,Option.bind_eq_bind,Option.bind_eq_some_iff,Option.pure_def,Option.some.injEq] at hm;obtain ⟨y,h1,ys,h2,rfl⟩:=hm
      have a1:=hG _ _ _ _ hk h1
      have a2:=AZ hG cs l (off+k1.length) r ys hr h2 (by rw [hl,List.length_append];omega)
      rw [ho,←hc] at a1
      have e:cs.drop off=(cs.drop off).take k1.length++cs.drop (off+k1.length):=by
       rw [←List.drop_drop,List.take_append_drop]
      rw [e];exact a1.append a2
     ·cases h
   ·cases h
theorem xA {w:World} {ks:List Sh} {G:List Value->Option (DataW H × List MemPlace)} {c:Nat} (hc:ks.length=c) (hG : ∀ cs x,G cs=some x->cQ w ks cs) (cs:List Value):
  ∀ (n s:Nat) (xs:List (DataW H × List MemPlace)),((List.range' s n).mapM fun i=>G ((cs.drop (i*c)).take c))=some xs->cs.length=(s+n)*c->cQ w (List.replicate n ks).flatten (cs.drop (s*c))
 | 0,s,xs,_,hl=>by
  rw [List.drop_eq_nil_of_le (by rw [hl];simp)]
  trivial
 | n+1,s,xs,h,hl=>by
  simp only [List.range'_succ,List.mapM_cons,Option.bind_eq_bind,Option.bind_eq_some_iff,Option.pure_def,Option.some.injEq] at h;obtain ⟨y,h1,ys,h2,rfl⟩:=h
  have a1:=hG _ _ h1
  have a2:=xA hc hG cs n (s+1) ys h2 (by rw [hl];congr 1;omega)
  have e:cs.drop (s*c)=(cs.drop (s*c)).take c++cs.drop ((s+1)*c):=by
   rw [Nat.add_mul,Nat.one_mul,←List.drop_drop,List.take_append_drop]
  rw [e,List.replicate_succ,List.flatten_cons];exact a1.append a2
theorem mV {w:World} {sp:Nat->Bool} {hd:Bool} : ∀ (n:Nat) (t:TypeId) (ss:List Sh) (D:Nat) (cs:List Value) (x:DataW H × List MemPlace),VX P n t=some ss->DataW.trod enc P w 0 sp hd D t cs=some x->cQ w ss cs
 | 0,t,ss,D,cs,x,h,_=>by cases h
 | n+1,t,ss,D,cs,x,h,hx=>by
  simp only [VX] at h;split at h<;>first | (cases h;done) | skip
  ·rename_i hu
   cases h
   obtain ⟨b,rfl,_⟩:=DataW.trod_bool hu hx;exact ⟨⟨.bool b,rfl,rfl,fun _ h=>by cases h⟩,trivial⟩
  ·rename_i k hu
   cases h
   obtain ⟨m,rfl,_,hw⟩:=DataW.trod_int hu hx;refine ⟨⟨.int k m,rfl,rfl,fun n hn => ?_⟩,trivial⟩
   cases hn
   simp only [Lit.wf,Bool.and_eq_true,decide_eq_true_eq] at hw
   have e1:IntKind.i64.min = -9223372036854775808:=by decide
   have e2:IntKind.i64.max=9223372036854775807:=by decide
   rw [e1,e2] at hw;exact hw
  ·rename_i hu
   cases h
   obtain ⟨s,rfl,_⟩:=DataW.trod_string hu hx;exact ⟨⟨.str s.data.toList,rfl,by simp [bK],fun _ h=>by cases h⟩,trivial⟩
  ·rename_i e hu;split at h<;>first | (cases h;done) | skip
   rename_i ss' hs;split at h<;>first | (cases h;done) | skip
   rename_i hc
   cases h
   simp only [Bool.and_eq_true] at hc
   have hlen:=Nat.eq_of_beq_eq_true hc.1
   have hpos:=Nat.le_of_ble_eq_true hc.2
   rcases DataW.trod_slice hu hx with ⟨rfl,_⟩ | ⟨a,len,cap,elems,rest,m,_,rfl,_,_,hl,hm,hel,hget,_⟩
   ·exact ⟨⟨.list ss' 0 (fun _ _ => .bool false),rfl,⟨none,0,rfl,Nat.le_refl _,by decide,.inl rfl⟩,fun _ h=>by cases h⟩,trivial⟩
   ·have hrow : ∀ i,i<len -> ∃ r,w.cells? 0 (a.add (i*P.cellsOf e)) (P.cellsOf e)=some r/\cQ w ss' r:=fun i hi=>by
     have h1:=hget i hi
     have hlt:i<elems.length:=by omega
     rw [List.getElem?_eq_getElem hlt,Option.bind_eq_some_iff] at h1;obtain ⟨r,h2,h3⟩:=h1;exact ⟨r,h2,mV n e ss' m r _ hs h3⟩
    refine ⟨?_,trivial⟩
    rcases Nat.eq_zero_or_pos len with rfl | h0
    ·exact ⟨.list ss' 0 (fun _ _ => .bool false),rfl,⟨some a,cap,rfl,hl,hm,.inl rfl⟩,fun _ h=>by cases h⟩
    ·obtain ⟨B,o,spot⟩:=a
     have hsp:spot=none:=by
      obtain ⟨r,h1,h2⟩:=hrow 0 h0;obtain ⟨_,h3,h4⟩:=World.cells?_some h1
      have h5:=h4 0 (by omega)
      obtain ⟨u,h6,_⟩:=cQ.at h2 hpos;rw [h6] at h5;unfold World.cell? at h5;split at h5
      ·split at h5
       ·cases h5
       ·rename_i hns
        cases spot with
        | none=>rfl
        | some s=>exact absurd (by simp [Addr.add]) hns
      ·cases h5
     subst hsp
     have key : ∀ i j,∃ d,i<len->j<ss'.length->(jW ss' j).ex d=d /\ ∃ u,AY w B (o+(i*ss'.length+j))=some u/\bK (AY w) d u:=fun i j=>by
      by_cases hi:i<len
      ·by_cases hj:j<ss'.length
       ·obtain ⟨r,h1,h2⟩:=hrow i hi;obtain ⟨_,h3,h4⟩:=World.cells?_some h1;obtain ⟨u,h5,d,h6,h7,_⟩:=cQ.at h2 hj
        have h8:=h4 j (by omega)
        rw [h5,bM,bM] at h8;refine ⟨d,fun _ _=>⟨h6,u,?_,h7⟩⟩
        show w.cell? ⟨B,o+(i*ss'.length+j),none⟩=some u
        rw [hlen,←Nat.add_assoc];exact h8
       ·exact ⟨.bool false,fun _ h=>absurd h hj⟩
      ·exact ⟨.bool false,fun h=>absurd h hi⟩
     refine ⟨.list ss' len (fun i j=>(key i j).choose),rfl,⟨some ⟨B,o,none⟩,cap,rfl,hl,hm,.inr ⟨B,o,rfl,fun i hi j hj => ?_⟩⟩,fun _ h=>by cases h⟩
     obtain ⟨k1,u,k2,k3⟩:=(key i j).choose_spec hi hj;exact ⟨k1,u,k2,k3⟩
  ·rename_i fs hu;split at h
   ·rename_i ks' hf
    cases hc:Nat.beq ks'.length (P.cellsOf t) with
    | false=>rw [hc] at h;cases h
    | true=>
     rw [hc] at h
     cases h
     have hc:=Nat.eq_of_beq_eq_true hc
     cases D with
     | zero=>simp [DataW.trod] at hx
     | succ m=>
      rw [F6 hu] at hx;split at hx
      ·rename_i hlen;simp only [Option.map_eq_some_iff] at hx;obtain ⟨xs,hm,rfl⟩:=hx
       have:=AZ (P:=P) (G:=fun t cs=>DataW.trod enc P w 0 sp hd m t cs) (fun t ks cs x h1 h2=>mV n t ks m cs x h1 h2) cs fs.toList 0 _ xs hf hm (by rw [hlen,hc,Nat.zero_add])
       simpa using this
      ·cases hx
   ·cases h
  ·rename_i m e hu;split at h
   ·rename_i k1 hk
    cases hc:(Nat.beq k1.length (P.cellsOf e)&&Nat.beq (m*k1.length) (P.cellsOf t)) with
    | false=>rw [hc] at h;cases h
    | true=>
     rw [hc] at h
     cases h
     simp only [Bool.and_eq_true] at hc
     have hc1:=Nat.eq_of_beq_eq_true hc.1
     have hc2:=Nat.eq_of_beq_eq_true hc.2
     cases D with
     | zero=>simp [DataW.trod] at hx
     | succ j=>
      rw [HD hu] at hx;split at hx
      ·rename_i hlen;simp only [Option.map_eq_some_iff] at hx;obtain ⟨xs,hm,rfl⟩:=hx;rw [List.range_eq_range'] at hm
       have:=xA (ks:=k1) (G:=fun cs=>DataW.trod enc P w 0 sp hd j e cs) hc1 (fun cs x h1=>mV n e k1 j cs x hk h1) cs m 0 xs hm (by rw [hlen,←hc2,hc1,Nat.zero_add])
       simpa using this
      ·cases hx
   ·cases h
def sigT (P:Program)(n:Nat):List TypeId->Option (List PT)
 | []=>some []
 | t::ts=>match VX P n t,sigT P n ts with
  | some ss,some r=>bif zT P t then some (.agg ss::r) else (match ss with
   | [s]=>some (.one s::r)
   | _=>none)
  | _,_=>none
theorem adk {t:TypeId} {w:World} {r:Reach} {b0:Nat} {v:Value} (ha:zT P t=true) (hv:Value.okWide P w r b0 t v) : ∃ cs,v = .agg cs:=by
 unfold Value.okWide at hv;unfold zT at ha;split at hv
 ·obtain ⟨cs,h1,_⟩:=hv;exact ⟨cs,h1⟩
 ·obtain ⟨cs,h1,_⟩:=hv;exact ⟨cs,h1⟩
 ·rename_i h1 h2;split at ha
  ·rename_i fs hu;exact absurd hu (h1 fs)
  ·rename_i m e hu;exact absurd hu (h2 m e)
  ·cases ha
theorem adl {t:TypeId} {w:World} {r:Reach} {b0:Nat} {v:Value} (ha:zT P t=false) (hv:Value.okWide P w r b0 t v):v.cells.toList=[v]:=by
 unfold Value.okWide at hv;unfold zT at ha;split at hv
 ·rename_i hu;rw [hu] at ha;cases ha
 ·rename_i hu;rw [hu] at ha;cases ha
 ·cases v with
  | agg cs=>exfalso;unfold Cell.okWide at hv;split at hv<;>first | (rename_i h;cases h) | (unfold Cell.ok at hv;split at hv<;>first | exact hv | simp_all)
  | _=>rfl
theorem abA {η:Env} {E:Emb} {w:World} (hz:E.z=AY w) : ∀ {ss:List Sh} {vs:List Value} {k:Nat},cQ w ss vs->(∀ i v,vs[i]? = some v->E.r 0 (k+i)=some v) -> ∃ fds,FitL ss fds/\(∀ d∈fds,RngD d)/\fds.length=ss.length /\ ∀ ds',aQ η E (IB k ss (fds++ds'))=some vs
 | [],[],k,_,_=>⟨[],trivial,(fun _ h=>by cases h),rfl,fun _=>rfl⟩
 | [],_::_,_,h,_=>h.elim
 | _::_,[],_,h,_=>h.elim
 | s::ss,v::vs,k,h,hr=>by
  obtain ⟨⟨d,h1,h2,h4⟩,h3⟩:=h;obtain ⟨ds,q1,q4,q2,q3⟩:=abA (η:=η) hz (k:=k+1) h3 fun i u hi=>by have:=hr (i+1) u (by simpa using hi);rwa [show k+1+i=k+(i+1) by omega]
  refine ⟨d::ds,⟨⟨h1,_,_,h2⟩,q1⟩,(fun x hx=>by
   rcases List.mem_cons.1 hx with rfl | hx
   ·exact h4
   ·exact q4 x hx),by simp [q2],fun ds' => ?_⟩
  show aQ η E (dD (.root 0 k) s d::IB (k+1) ss (ds++ds'))=_
  have:=nK (η:=η) (E:=E) (r := .root 0 k) h1 (by rw [hz];exact h2) (hr 0 v rfl)
  simp only [aQ,this,q3]
theorem ZN {η:Env} {E:Emb} {w W:World} {sp:Nat->Bool} {hd:Bool} {n:Nat} {r:Reach} {b0:Nat} (hz:E.z=AY w) : ∀ {ts:List TypeId} {q:List PT} {vs:List Value} {ds:List (DataW H)} {p:List MemPlace} {k:Nat},sigT P n ts=some q->
  DataW.TrodAll enc P w 0 sp hd ts vs ds p->(∀ (j:Nat) t v,ts[j]? = some t->vs[j]? = some v->Value.okWide P W r b0 t v)->(∀ i v,(cellsOf q vs)[i]? = some v->E.r 0 (k+i)=some v)->
  ∃ fds,FitL (sigS q) fds/\(∀ d∈fds,RngD d)/\aD η E (j0 k q fds)=some vs
 | [],q,vs,ds,p,k,h,hA,_,_=>by
  cases h
  obtain ⟨rfl,_,_⟩:=trodAll_nil hA;exact ⟨[],trivial,(fun _ h=>by cases h),rfl⟩
 | t::ts,q,vs,ds,p,k,h,hA,hv,hr=>by
  simp only [sigT] at h;split at h<;>first | (cases h;done) | skip
  rename_i ss rs hs hrs;obtain ⟨v,vs',d,ds',p1,p2,rfl,rfl,rfl,⟨D,h1⟩,h2⟩:=trodAll_cons hA
  have hl:=mV n t ss D _ _ hs h1
  have hv0:=hv 0 t v rfl rfl
  cases ha:zT P t with
  | true=>
   rw [ha] at h;cases h;obtain ⟨cs,rfl⟩:=adk ha hv0
   have hl:cQ w ss cs.toList:=hl
   obtain ⟨fd,q1,q4,q2,q3⟩:=abA (η:=η) hz (k:=k) hl fun i u hi=>hr i u (by
    show (cs.toList++cellsOf rs vs')[i]? = some u
    rw [List.getElem?_append_left (List.getElem?_eq_some_iff.1 hi).1];exact hi)
   obtain ⟨fds,a1,a4,a2⟩:=ZN (η:=η) hz (k:=k+ss.length) hrs h2 (fun j t' v' ht hv'=>hv (j+1) t' v' (by simpa using ht) (by simpa using hv')) fun i u hi=>by
    have:=hr (ss.length+i) u (by
     show (cs.toList++cellsOf rs vs')[ss.length+i]? = some u
     rw [List.getElem?_append_right (by rw [hl.len];omega),hl.len]
     simpa using hi)
    rwa [show k+ss.length+i=k+(ss.length+i) by omega]
   refine ⟨fd++fds,q1.append a1,(fun x hx=>(List.mem_append.1 hx).elim (q4 x) (a4 x)),?_⟩
   have hdrop:(fd++fds).drop ss.length=fds:=by rw [←q2];simp
   simp only [j0,aD,Sv.den,q3,hdrop,a2,Option.map_some]
  | false=>
   rw [ha] at h;simp only [cond_false] at h;split at h<;>first | (cases h;done) | skip
   rename_i s
   cases h
   rw [adl ha hv0] at hl;obtain ⟨⟨dd,e1,e2,e3⟩,_⟩:=hl;obtain ⟨fds,a1,a4,a2⟩:=ZN (η:=η) hz (k:=k+1) hrs h2 (fun j t' v' ht hv'=>hv (j+1) t' v' (by simpa using ht) (by simpa using hv')) fun i u hi=>by
    have:=hr (i+1) u (by simpa [cellsOf] using hi)
    rwa [show k+1+i=k+(i+1) by omega]
   refine ⟨dd::fds,⟨⟨e1,_,_,e2⟩,a1⟩,(fun x hx=>by
    rcases List.mem_cons.1 hx with rfl | hx
    ·exact e3
    ·exact a4 x hx),?_⟩
   have:=nK (η:=η) (E:=E) (r := .root 0 k) e1 (by rw [hz];exact e2) (hr 0 v rfl)
   simp only [j0,aD,Sv.den,this,a2]
theorem ZO {C:Cx} {η:Env} (hC:C.Ok P η) {f:FuncId} {fi:FI} {q:List PT} {ck:List FD->Bool} {F:List FD->List FD} (h:cT C P η f fi q (.one .bool) ck F)
  (hall : ∀ fds,FitL (sigS q) fds->(∀ d∈fds,RngD d)->ck fds=true/\F fds=[.bool true]) {w W:World} {sp:Nat->Bool} {hd:Bool} {n:Nat} {r:Reach} {b0:Nat} {ts:List TypeId} {vs:List Value} {ds:List (DataW H)} {p:List MemPlace} (hsig:sigT P n ts=some q)
  (hA:DataW.TrodAll enc P w 0 sp hd ts vs ds p) (hv : ∀ (j:Nat) t v,ts[j]? = some t->vs[j]? = some v->Value.okWide P W r b0 t v):
  Calls P f vs.toArray w fun e w'=>e = .returned (.bool true)/\Below w.heap.size w w':=by
 obtain ⟨E,hE⟩ : ∃ E,E=aeH w []:=⟨_,rfl⟩
 have hEz:(yL E (cellsOf q vs)).z=AY w:=by rw [hE];rfl
 have hEr : ∀ i v,(cellsOf q vs)[i]? = some v->(yL E (cellsOf q vs)).r 0 (0+i)=some v:=fun i v hi=>by
  show (if 0=0 then (cellsOf q vs)[0+i]? else none)=some v
  rw [if_pos rfl,Nat.zero_add];exact hi
 have hzw:ZW E w:=by rw [hE];exact aa7 w []
 obtain ⟨fds,q2,q5,q1⟩:=ZN (η:=η) hEz (k:=0) hsig hA hv hEr;obtain ⟨hck,hF⟩:=hall fds q2 q5;obtain ⟨k1,k2⟩:=h.2 fds q2 hck;refine KC hC h.1 (n0:=0) (nx:=1) (lo:=1) (Nat.zero_le _) (Nat.le_refl _) k2 k1 (t7 hzw _) (Below.refl _ _) q1 rfl (Ψ:=fun st' s=>KE st'.hp (.one .bool) (F fds) s) (fun x st' hx=>hx.out) ?_
 intro st' s v E' w' he hd hH hB hz0;obtain ⟨e1,_⟩:=N5 (EA:=Go.Ex.addE E w w' (fun j=>(lQ s v)[j]?) 0) (n:=0) hH (Nat.le_refl _) (fun B o u hu=>by
   simp only [Go.Ex.addE];split
   ·exact hH.zw B o u hu
   ·have:=hH.rn.2 B o u (by omega) hu
    rw [hz0] at this;exact this) (fun B o u hb hu=>by simp only [Go.Ex.addE,if_pos hb];exact hu) he hd (fun i u hi=>by simp only [Go.Ex.addE,if_true];exact hi)
 rw [hF] at e1
 cases e1
 exact ⟨rfl,hB⟩
set_option maxRecDepth 100000 in
theorem law_run {sm:T Smf} {gs:G2} (hs:Tab fC sm) (hg:cZ gs) {f:FuncId} {fi:FI} {q:List PT} {ck:List FD->Bool} {F:List FD->List FD} (h:cT (mkR sm gs) Try.prog η0 f fi q (.one .bool) ck F)
  (hall : ∀ fds,FitL (sigS q) fds->(∀ d∈fds,RngD d)->ck fds=true/\F fds=[.bool true]) {w W:World} {sp:Nat->Bool} {hd:Bool} {n:Nat} {r:Reach} {b0:Nat} {ts:List TypeId} {vs:List Value} {ds:List (DataW H)} {p:List MemPlace} (hsig:sigT Try.prog n ts=some q)
  (hA:DataW.TrodAll enc Try.prog w 0 sp hd ts vs ds p) (hv : ∀ (j:Nat) t v,ts[j]? = some t->vs[j]? = some v->Value.okWide Try.prog W r b0 t v):
  Calls Try.prog f vs.toArray w fun e w'=>e = .returned (.bool true)/\Below w.heap.size w w':=ZO (P:=Try.prog) (C:=mkR sm gs) (η:=η0) (iR hs hg) h hall hsig hA hv
theorem trodAll_len {w:World} {b:Nat} {sp:Nat->Bool} {hd:Bool} : ∀ {ts:List TypeId} {vs:List Value} {ds:List (DataW H)} {p:List MemPlace},DataW.TrodAll enc P w b sp hd ts vs ds p->ds.length=ts.length
 | [],vs,ds,p,hA=>by
  obtain ⟨rfl,rfl,rfl⟩:=trodAll_nil hA;rfl
 | t::ts,vs,ds,p,hA=>by
  obtain ⟨v,vs',d,ds',p1,p2,rfl,rfl,rfl,h1,h2⟩:=trodAll_cons hA;simp [trodAll_len h2]
theorem trodAll_stays (hl:laidOutB P=true) {W W':World} {sp':Nat->Bool} : ∀ {ts:List TypeId} {vs:List Value} {ds:List (DataW H)} {p:List MemPlace},ts.all (fun t=>P.readableRec t&&Nat.blt t P.types.size)=true->DataW.TrodAll enc P W 0 (fun _=>true) true ts vs ds p->
  (∀ x∈p,W.sameAt W' x)->(∀ x∈p,sp' x.block=true)->DataW.TrodAll enc P W' 0 sp' true ts vs ds p
 | [],vs,ds,p,_,hA,_,_=>by
  obtain ⟨rfl,rfl,rfl⟩:=trodAll_nil hA;exact rfl
 | t::ts,vs,ds,p,ha,hA,hsame,hsp=>by
  simp only [List.all_cons,Bool.and_eq_true] at ha;obtain ⟨v,vs',d,ds',p1,p2,rfl,rfl,rfl,h1,h2⟩:=trodAll_cons hA;exact trodAll_cons_mk (WideElems.Trod_stays hl ha.1.1 (Nat.le_of_ble_eq_true ha.1.2) h1 (fun x hx=>hsame x (List.mem_append_left _ hx)) (fun x hx=>hsp x (List.mem_append_left _ hx)))
   (trodAll_stays hl ha.2 h2 (fun x hx=>hsame x (List.mem_append_right _ hx)) (fun x hx=>hsp x (List.mem_append_right _ hx)))
end
end
end Go.Ex
