/-
 That the tables of a seat are right: equality of flat arrays and structs; how a table is shown right.
-/
import Derived.Test.YtdpabnfcfakjeaaEx19a
import Derived.Test.YtdpabnfcfakjeaaExTab
import Derived.Laws.StructEq
import Derived.ChangeKeysEq
import Derived.KernelRfl
import Derived.Test.YtdpabnfcfakjeaaProg
namespace Go.Ex
open Go Go.RowKit
def M1:LK->TypeDesc->Bool
 | .int,.int _=>true
 | .flt,.float _=>true
 | .cpx,.complex _=>true
 | .str,.string=>true
 | .bool,.bool=>true
 | _,_=>false
theorem C9 {P:Program} {k:LK} {e:TypeId} {d:TypeDesc} (hu:P.underlying e=some d) (hd:M1 k d=true) (m:Nat) {x y:Value} (hf:k.fits x y=true) (w:World):
  (Op.equalIn (m+1) e x y).run P w = .ok (x6 x y) w:=by
 cases k<;>cases d<;>first | cases hd | skip
 all_goals (cases x<;>first | cases hf | (cases y<;>first | cases hf | skip))
 all_goals (try simp only [LK.fits,beq_iff_eq] at hf)
 all_goals (try subst hf)
 all_goals (simp [Op.equalIn,run_underlying hu,x6])
theorem kM {P:Program} {k:LK} {e:TypeId} {d:TypeDesc} (hu:P.underlying e=some d) (hd:M1 k d=true) {xs:Array Value} {off:Nat} {v:Value} (hx:xs[off]? = some v) (w:World):(part e xs off).run P w = .ok v w:=by
 cases k<;>cases d<;>first | cases hd | skip
 all_goals (simp [part,isAgg,run_underlying hu,hx])
theorem nH {P:Program} {k:LK} {e:TypeId} {d:TypeDesc} (hu:P.underlying e=some d) (hd:M1 k d=true) (m:Nat) (xs ys:Array Value) (w:World) : ∀ (n s:Nat) (l r:List Value),(∀ j,l[j]? = xs[s+j]?)->(∀ j,r[j]? = ys[s+j]?)->cM (List.replicate n k) l r=true->
  (Op.eqItems (m+1) e 1 xs ys (List.range' s n)).run P w = .ok (gQ l r) w
 | 0,s,l,r,_,_,h=>by
  cases l with
  | nil=>cases r with
   | nil=>simp [Op.eqItems,gQ]
   | cons y r=>simp [cM] at h
  | cons x l=>cases r<;>simp [cM] at h
 | n+1,s,l,r,hl,hr,h=>by
  cases l with
  | nil=>simp [List.replicate_succ,cM] at h
  | cons x l=>cases r with
   | nil=>simp [List.replicate_succ,cM] at h
   | cons y r=>
    simp only [List.replicate_succ,cM,Bool.and_eq_true] at h
    have hx:xs[s]? = some x:=by simpa using (hl 0).symm
    have hy:ys[s]? = some y:=by simpa using (hr 0).symm
    have ih:=nH hu hd m xs ys w n (s+1) l r (fun j=>by have:=hl (j+1);simpa [Nat.add_assoc,Nat.add_comm 1 j] using this) (fun j=>by have:=hr (j+1);simpa [Nat.add_assoc,Nat.add_comm 1 j] using this) h.2
    simp only [List.range'_succ,Op.eqItems,Nat.mul_one,Sem.run_bind,kM hu hd hx,kM hu hd hy,C9 hu hd m h.1,Result.andThen_ok,gQ]
    cases x6 x y with
    | false=>simp
    | true=>simpa using ih
theorem S6 {P:Program} {t:TypeId} {i:TypeInfo} (h:P.types[t]? = some i):P.info? t=some i:=by
 have hlt:t<P.types.size:=(Array.getElem?_eq_some_iff.1 h).1
 unfold Tables.info?;rw [if_pos hlt];exact h
theorem WT {P:Program} {t e:TypeId} {n:Nat} {d:TypeDesc} {i:TypeInfo} {k:LK} (hg:P.eqGuardType P.depth t=false) (hu:P.underlying t=some (.array n e)) (hi:P.types[e]? = some i) (hs:i.size=1) (hue:P.underlying e=some d) (hd:M1 k d=true):
  QJ P t (List.replicate n k):=by
 refine ⟨hg,fun xs ys w h => ?_⟩
 have hi:=S6 hi
 rw [show (10000:Nat)=9998+1+1 from rfl,run_equalIn_array w _ _ _ hu hi]
 have hc:P.cellsOf e=1:=by simp [Program.cellsOf,hi,hs]
 rw [hc,List.range_eq_range'];exact nH hue hd 9998 _ _ w n 0 xs ys (by simp) (by simp) h
def WU (P:Program):Nat->List Field->List LK->Prop
 | _,[],[]=>True
 | off,f::fs,k::ks=>f.name ≠ "_" /\ f.offset=off/\(∃ d,P.underlying f.type=some d/\M1 k d=true)/\WU P (off+1) fs ks
 | _,_,_=>False
theorem mC {P:Program} (m:Nat) (xs ys:Array Value) (w:World) : ∀ (fs:List Field) (ks:List LK) (off:Nat) (l r:List Value),WU P off fs ks->(∀ j,l[j]? = xs[off+j]?)->(∀ j,r[j]? = ys[off+j]?)->cM ks l r=true->
  (Op.eqFields (m+1) xs ys fs).run P w = .ok (gQ l r) w
 | [],ks,off,l,r,hf,_,_,h=>by
  cases ks with
  | cons k ks=>exact hf.elim
  | nil=>
   cases l with
   | nil=>cases r with
    | nil=>simp [Op.eqFields,gQ]
    | cons y r=>simp [cM] at h
   | cons x l=>cases r<;>simp [cM] at h
 | f::fs,ks,off,l,r,hf,hl,hr,h=>by
  cases ks with
  | nil=>exact hf.elim
  | cons k ks=>
   obtain ⟨h1,h2,⟨d,h3,h4⟩,h5⟩:=hf
   cases l with
   | nil=>simp [cM] at h
   | cons x l=>cases r with
    | nil=>simp [cM] at h
    | cons y r=>
     simp only [cM,Bool.and_eq_true] at h
     have hx:xs[f.offset]? = some x:=by rw [h2];simpa using (hl 0).symm
     have hy:ys[f.offset]? = some y:=by rw [h2];simpa using (hr 0).symm
     have ih:=mC m xs ys w fs ks (off+1) l r h5 (fun j=>by have:=hl (j+1);simpa [Nat.add_assoc,Nat.add_comm 1 j] using this) (fun j=>by have:=hr (j+1);simpa [Nat.add_assoc,Nat.add_comm 1 j] using this) h.2
     simp only [Op.eqFields,h1,ne_eq,not_false_eq_true,if_true,Sem.run_bind,kM h3 h4 hx,kM h3 h4 hy,C9 h3 h4 m h.1,Result.andThen_ok,gQ]
     cases x6 x y with
     | false=>simp
     | true=>simpa using ih
theorem AF {P:Program} {t:TypeId} {fs:Array Field} {ks:List LK} (hg:P.eqGuardType P.depth t=false) (hu:P.underlying t=some (.struct fs)) (hp:P.stoodInHeld t=false) (hf:WU P 0 fs.toList ks):QJ P t ks:=by
 refine ⟨hg,fun xs ys w h => ?_⟩
 have hfs:P.fieldsOf t=fs:=by simp [Program.fieldsOf,hu]
 rw [show (10000:Nat)=9998+1+1 from rfl,run_equalIn_struct w _ _ _ _ (by rw [hfs];exact hu) hp,hfs]
 exact mC 9998 _ _ w _ ks 0 xs ys hf (by simp) (by simp) h
theorem TI.ok_of {P:Program} {t:TypeId} {x:TI} {i:TypeInfo} {z:Value} {d:TypeDesc} (hu:P.underlying t=some d) (hd':x.d=d) (hi:P.types[t]? = some i) (hs:i.size=x.size) (hb:i.bytes=x.bytes) (hz:i.zero=some z) (hd : ∀ η E,aQ η E x.zero=some z.cells.toList) (hc:z.cells.size=x.size)
  (ha:x.agg=JT x.d) (h1:x.agg=true->z = .agg z.cells) (h2:x.agg=false->z.cells = #[z]/\z.oneCell'=true) (he : ∀ ks,x.eqs=some ks->QJ P t ks):TI.Ok P t x:=
 ⟨by rw [hd'];exact hu,⟨i,z,S6 hi,hs,hb,hz,hd,hc,h1,h2⟩,ha,he⟩
theorem aK {P:Program} {t:TypeId} {x:TI} (h:x.eqs=none) : ∀ ks,x.eqs=some ks->QJ P t ks:=fun ks hk=>by rw [h] at hk;cases hk
theorem DA {P:Program} {t:TypeId} {x:TI} {l:List LK} (h:x.eqs=some l) (hl:QJ P t l) : ∀ ks,x.eqs=some ks->QJ P t ks:=fun ks hk=>by rw [h] at hk;cases hk;exact hl
theorem M2 {α:Type} {Q:Nat->α->Prop} {l:List (Nat × α)} {t:T α} (ht:t=T.ofList l) (hl:(l.all fun p=>Nat.blt p.1 65535)=true) (hq : ∀ p∈l,Q p.1 p.2) : ∀ i x,t.get i=some x->Q i x:=by
 intro i x h;subst ht
 have:=T.get_ofList (fun p hp=>Nat.le_of_ble_eq_true (List.all_eq_true.1 hl p hp)) h
 exact hq _ this
theorem FI.ok_of {P:Program} {f:FuncId} {fn:Func} {q:Bool} (h:P.funcs[f]? = some fn) (hb:fn.body.isSome=true) (hn:(fn.name == "runtime.NumGoroutine")=false):FI.Ok P f (FI.of fn q):=by
 refine ⟨fn,h,?_,rfl,rfl,hn⟩;simp only [FI.of,XY]
 cases hc:fn.body with
 | none=>rw [hc] at hb;cases hb
 | some c=>rfl
end Go.Ex
namespace Go.Ex
open Go Go.Proofs
namespace Try
noncomputable def x3:TI:=⟨Go.TypeDesc.int Go.IntKind.i64,1,8,[.int .i64 (.lit 0)],false,none⟩
noncomputable def x4:TI:=⟨Go.TypeDesc.bool,1,1,[.bool (.lit false)],false,none⟩
noncomputable def x5:TI:=⟨Go.TypeDesc.int Go.IntKind.u8,1,1,[.int .u8 (.lit 0)],false,none⟩
noncomputable def x9:TI:=⟨Go.TypeDesc.string,1,16,[.str []],false,none⟩
noncomputable def x22:TI:=⟨Go.TypeDesc.slice 3,1,24,[.slice none 0 (.known 0)],false,none⟩
noncomputable def x25:TI:=⟨Try.t24.desc,2,16,[.int .i64 (.lit 0),.int .i64 (.lit 0)],true,(some [.int,.int])⟩
noncomputable def x26:TI:=⟨Go.TypeDesc.int Go.IntKind.i64,1,8,[.int .i64 (.lit 0)],false,none⟩
noncomputable def x33:TI:=⟨Go.TypeDesc.slice 143,1,24,[.slice none 0 (.known 0)],false,none⟩
noncomputable def x35:TI:=⟨Try.t34.desc,2,32,[.slice none 0 (.known 0),.int .i64 (.lit 0)],true,none⟩
noncomputable def x38:TI:=⟨Try.t37.desc,2,48,[.slice none 0 (.known 0),.slice none 0 (.known 0)],true,none⟩
noncomputable def x47:TI:=⟨Try.t46.desc,4,32,[.int .i64 (.lit 0),.int .i64 (.lit 0),.int .i64 (.lit 0),.int .i64 (.lit 0)],true,none⟩
noncomputable def x48:TI:=⟨Go.TypeDesc.slice 22,1,24,[.slice none 0 (.known 0)],false,none⟩
noncomputable def x50:TI:=⟨Try.t49.desc,5,56,[.int .i64 (.lit 0),.int .i64 (.lit 0),.int .i64 (.lit 0),.int .i64 (.lit 0),.slice none 0 (.known 0)],true,none⟩
noncomputable def x58:TI:=⟨Try.t57.desc,3,40,[.slice none 0 (.known 0),.int .i64 (.lit 0),.int .i64 (.lit 0)],true,none⟩
noncomputable def x61:TI:=⟨Try.t60.desc,2,32,[.int .i64 (.lit 0),.slice none 0 (.known 0)],true,none⟩
noncomputable def x63:TI:=⟨Try.t62.desc,4,80,[.int .i64 (.lit 0),.slice none 0 (.known 0),.slice none 0 (.known 0),.slice none 0 (.known 0)],true,none⟩
noncomputable def x64:TI:=⟨Go.TypeDesc.array 2 3,2,16,[.int .i64 (.lit 0),.int .i64 (.lit 0)],true,(some (List.replicate 2 .int))⟩
noncomputable def x75:TI:=⟨Try.t74.desc,3,24,[.int .i64 (.lit 0),.int .i64 (.lit 0),.int .i64 (.lit 0)],true,none⟩
noncomputable def x83:TI:=⟨Try.t82.desc,3,24,[.int .i64 (.lit 0),.int .i64 (.lit 0),.int .i64 (.lit 0)],true,none⟩
noncomputable def abO:TI:=⟨Try.t113.desc,3,72,[.slice none 0 (.known 0),.slice none 0 (.known 0),.slice none 0 (.known 0)],true,none⟩
noncomputable def abP:TI:=⟨Go.TypeDesc.slice 145,1,24,[.slice none 0 (.known 0)],false,none⟩
noncomputable def abQ:TI:=⟨Try.t123.desc,3,32,[.str [],.bool (.lit false),.int .i64 (.lit 0)],true,(some [.str,.bool,.int])⟩
noncomputable def abR:TI:=⟨Go.TypeDesc.slice 9,1,24,[.slice none 0 (.known 0)],false,none⟩
noncomputable def abS:TI:=⟨Go.TypeDesc.func #[9] #[4] Bool.false,1,8,[.nilFn],false,none⟩
noncomputable def abT:TI:=⟨Try.t142.desc,2,40,[.str [],.slice none 0 (.known 0)],true,none⟩
noncomputable def abU:TI:=⟨Try.t144.desc,3,40,[.int .i64 (.lit 0),.str [],.str []],true,none⟩
noncomputable def abV:TI:=⟨Go.TypeDesc.func #[3] #[4] Bool.false,1,8,[.nilFn],false,none⟩
noncomputable def abW:TI:=⟨Go.TypeDesc.pointer 158,1,8,[.ptr none],false,none⟩
noncomputable def abX:TI:=⟨Try.t157.desc,4,80,[.slice none 0 (.known 0),.int .i64 (.lit 0),.slice none 0 (.known 0),.slice none 0 (.known 0)],true,none⟩
noncomputable def abY:TI:=⟨Go.TypeDesc.slice 4,1,24,[.slice none 0 (.known 0)],false,none⟩
noncomputable def abZ:TI:=⟨Try.t164.desc,6,48,[.int .i64 (.lit 0),.int .i64 (.lit 0),.int .i64 (.lit 0),.int .i64 (.lit 0),.int .i64 (.lit 0),.int .i64 (.lit 0)],true,none⟩
noncomputable def ab0:TI:=⟨Go.TypeDesc.slice 180,1,24,[.slice none 0 (.known 0)],false,none⟩
noncomputable def ab1:TI:=⟨Go.TypeDesc.array 4 3,4,32,[.int .i64 (.lit 0),.int .i64 (.lit 0),.int .i64 (.lit 0),.int .i64 (.lit 0)],true,none⟩
noncomputable def ab2:TI:=⟨Go.TypeDesc.array 4 170,16,128,[.int .i64 (.lit 0),.int .i64 (.lit 0),.int .i64 (.lit 0),.int .i64 (.lit 0),.int .i64 (.lit 0),.int .i64 (.lit 0),.int .i64 (.lit 0),.int .i64 (.lit 0),.int .i64 (.lit 0),.int .i64 (.lit 0),.int .i64 (.lit 0),.int .i64 (.lit 0),.int .i64 (.lit 0),.int .i64 (.lit 0),.int .i64 (.lit 0),.int .i64 (.lit 0)],true,none⟩
noncomputable def ab3:TI:=⟨Try.t172.desc,18,160,[.slice none 0 (.known 0),.int .i64 (.lit 0),.int .i64 (.lit 0),.int .i64 (.lit 0),.int .i64 (.lit 0),.int .i64 (.lit 0),.int .i64 (.lit 0),.int .i64 (.lit 0),.int .i64 (.lit 0),.int .i64 (.lit 0),.int .i64 (.lit 0),.int .i64 (.lit 0),.int .i64 (.lit 0),.int .i64 (.lit 0),.int .i64 (.lit 0),.int .i64 (.lit 0),.int .i64 (.lit 0),.int .i64 (.lit 0)],true,none⟩
noncomputable def ab4:TI:=⟨Go.TypeDesc.func #[168] #[4] Bool.false,1,8,[.nilFn],false,none⟩
noncomputable def ab5:TI:=⟨Try.t179.desc,7,56,[.int .i64 (.lit 0),.int .i64 (.lit 0),.int .i64 (.lit 0),.int .i64 (.lit 0),.int .i64 (.lit 0),.int .i64 (.lit 0),.int .i64 (.lit 0)],true,none⟩
noncomputable def ab6:TI:=⟨Go.TypeDesc.map 9 4,1,8,[.map none],false,none⟩
noncomputable def ab7:TI:=⟨Go.TypeDesc.pointer 196,1,8,[.ptr none],false,none⟩
noncomputable def ab8:TI:=⟨Go.TypeDesc.map 9 124,1,8,[.map none],false,none⟩
noncomputable def ab9:TI:=⟨Try.t195.desc,2,32,[.map none,.slice none 0 (.known 0)],true,none⟩
noncomputable def aca:TI:=⟨Go.TypeDesc.func #[145] #[4] Bool.false,1,8,[.nilFn],false,none⟩
noncomputable def acb:TI:=⟨Go.TypeDesc.func #[9,124] #[4] Bool.false,1,8,[.nilFn],false,none⟩
noncomputable def acd:TI:=⟨Go.TypeDesc.int Go.IntKind.u64,1,8,[.int .u64 (.lit 0)],false,none⟩
noncomputable def ace:TI:=⟨Go.TypeDesc.func #[180] #[4] Bool.false,1,8,[.nilFn],false,none⟩
noncomputable def acf:TI:=⟨Go.TypeDesc.slice 26,1,24,[.slice none 0 (.known 0)],false,none⟩
noncomputable def acg:TI:=⟨Go.TypeDesc.int Go.IntKind.u32,1,4,[.int .u32 (.lit 0)],false,none⟩
noncomputable def ach:TI:=⟨Go.TypeDesc.int Go.IntKind.u64,1,8,[.int .u64 (.lit 0)],false,none⟩
noncomputable def tl:List (Nat × TI):=[(3,x3),(4,x4),(5,x5),(9,x9),(22,x22),(25,x25),(26,x26),(33,x33),(35,x35),(38,x38),(47,x47),(48,x48),(50,x50),(58,x58),(61,x61),(63,x63),(64,x64),(75,x75),(83,x83),(114,abO),(120,abP),(124,abQ),(127,abR),(141,abS),(143,abT),(145,abU),(150,abV),(155,abW),(158,abX),(160,abY),(165,abZ),(168,ab0),(170,ab1),(171,ab2),(173,ab3),(177,ab4),(180,ab5),(189,ab6),(191,ab7),(194,ab8),(196,ab9),(198,aca),(200,acb),(203,acd),(211,ace),(212,acf),(216,acg),(219,ach)]
noncomputable def fl:List (Nat × FI):=[(17,FI.of Try.f17 true),(18,FI.of Try.f18 true),(19,FI.of Try.f19 true),(20,FI.of Try.f20 false),(22,FI.of Try.f22 true),(23,FI.of Try.f23 false),(24,FI.of Try.f24 false),(25,FI.of Try.f25 true),(28,FI.of Try.f28 true),(32,FI.of Try.f32 false),(37,FI.of Try.f37 true),(38,FI.of Try.f38 true),(42,FI.of Try.f42 true),(45,FI.of Try.f45 true),(46,FI.of Try.f46 true),(47,FI.of Try.f47 true),(49,FI.of Try.f49 true),(50,FI.of Try.f50 true),(56,FI.of Try.f56 true),(60,FI.of Try.f60 true),(63,FI.of Try.f63 true),(68,FI.of Try.f68 true),(73,FI.of Try.f73 true),(74,FI.of Try.f74 true),(75,FI.of Try.f75 false),(76,FI.of Try.f76 false),(78,FI.of Try.f78 true),(81,FI.of Try.f81 true),(82,FI.of Try.f82 true),(83,FI.of Try.f83 true),(84,FI.of Try.f84 true),(85,FI.of Try.f85 false),(86,FI.of Try.f86 true),(87,FI.of Try.f87 true),(88,FI.of Try.f88 true),(89,FI.of Try.f89 true),(90,FI.of Try.f90 true),(91,FI.of Try.f91 true),(92,FI.of Try.f92 true),(93,FI.of Try.f93 true),(94,FI.of Try.f94 false),(95,FI.of Try.f95 false),(96,FI.of Try.f96 true),(97,FI.of Try.f97 true),(98,FI.of Try.f98 true),(99,FI.of Try.f99 false),(100,FI.of Try.f100 true),(108,FI.of Try.f108 true),(109,FI.of Try.f109 true),(110,FI.of Try.f110 true),(111,FI.of Try.f111 true),(113,FI.of Try.f113 true),(114,FI.of Try.f114 true),(115,FI.of Try.f115 true),(118,FI.of Try.f118 true),(119,FI.of Try.f119 true),(120,FI.of Try.f120 true),(121,FI.of Try.f121 true),(123,FI.of Try.f123 true),(128,FI.of Try.f128 true),(129,FI.of Try.f129 true),(130,FI.of Try.f130 true),(132,FI.of Try.f132 false),(133,FI.of Try.f133 true),(134,FI.of Try.f134 true),(135,FI.of Try.f135 true),(136,FI.of Try.f136 true),(137,FI.of Try.f137 true),(138,FI.of Try.f138 true),(139,FI.of Try.f139 true),(140,FI.of Try.f140 true),(141,FI.of Try.f141 true),(142,FI.of Try.f142 true),(148,FI.of Try.f148 true),(149,FI.of Try.f149 true),(150,FI.of Try.f150 false),(151,FI.of Try.f151 false),(152,FI.of Try.f152 true),(153,FI.of Try.f153 true),(154,FI.of Try.f154 true),(155,FI.of Try.f155 true),(158,FI.of Try.f158 false),(159,FI.of Try.f159 true),(161,FI.of Try.f161 true)]
noncomputable def tt:T TI:=(.node (.node (.node (.node (.node (.node (.node (.node .nil (some abR) .nil) (some x63) (.node .nil (some ab7) .nil)) none .nil) none (.node (.node (.node .nil (some abT) .nil) none .nil) (some x47) .nil)) none .nil) (some x3) (.node (.node (.node .nil (some x35) .nil) none (.node (.node .nil (some x83) (.node .nil (some ace) .nil)) none .nil)) none (.node (.node (.node .nil (some x75) (.node .nil (some acd) .nil)) none (.node (.node .nil (some ab2) .nil) none .nil)) none (.node (.node (.node .nil (some abW) .nil) none (.node .nil (some ach) .nil)) none .nil)))) none (.node (.node (.node (.node .nil (some x33) .nil) none (.node (.node (.node .nil (some abU) .nil) none .nil) none (.node (.node .nil (some ab4) .nil) none .nil))) (some x9) (.node .nil (some x25) .nil)) (some x5) (.node (.node (.node .nil none (.node (.node .nil (some abZ) .nil) none .nil)) none .nil) none (.node (.node (.node (.node .nil (some abS) .nil) none .nil) none (.node (.node .nil (some ab3) .nil) none .nil)) none (.node .nil (some x61) (.node (.node .nil (some ab6) .nil) none .nil)))))) none (.node (.node (.node (.node (.node (.node .nil (some x64) .nil) none (.node (.node .nil (some abY) .nil) none .nil)) none (.node .nil (some x48) .nil)) none (.node (.node (.node .nil none (.node .nil (some acb) .nil)) none (.node (.node .nil (some ab0) .nil) none .nil)) none (.node (.node .nil none (.node .nil (some acg) .nil)) none (.node .nil (some abP) .nil)))) (some x4) (.node (.node (.node (.node .nil none (.node .nil (some ab9) .nil)) none .nil) none (.node (.node .nil none (.node .nil (some acf) .nil)) none (.node (.node .nil (some ab5) .nil) none .nil))) none (.node .nil none (.node .nil none (.node .nil (some abQ) .nil))))) none (.node (.node (.node (.node (.node .nil none (.node .nil (some ab8) .nil)) none .nil) none (.node .nil (some x50) (.node .nil (some abO) .nil))) none (.node (.node .nil none (.node (.node .nil (some ab1) .nil) none .nil)) (some x26) (.node .nil (some x58) .nil))) none (.node (.node (.node (.node .nil none (.node .nil (some aca) .nil)) (some x38) .nil) (some x22) (.node (.node (.node .nil (some abV) .nil) none .nil) none .nil)) none (.node .nil none (.node (.node (.node .nil (some abX) .nil) none .nil) none .nil))))))
noncomputable def ft:T FI:=(.node (.node (.node (.node (.node (.node (.node .nil (some (FI.of Try.f63 true)) .nil) none (.node (.node .nil (some (FI.of Try.f159 true)) .nil) (some (FI.of Try.f95 false)) .nil)) none (.node .nil (some (FI.of Try.f47 true)) (.node .nil (some (FI.of Try.f111 true)) .nil))) none (.node (.node (.node (.node .nil (some (FI.of Try.f135 true)) .nil) none .nil) none .nil) (some (FI.of Try.f23 false)) (.node (.node (.node .nil (some (FI.of Try.f151 false)) .nil) (some (FI.of Try.f87 true)) .nil) none (.node .nil (some (FI.of Try.f119 true)) .nil)))) none (.node (.node (.node .nil none (.node .nil (some (FI.of Try.f99 false)) .nil)) (some (FI.of Try.f19 true)) (.node (.node .nil (some (FI.of Try.f83 true)) .nil) none (.node .nil (some (FI.of Try.f115 true)) .nil))) none (.node (.node (.node (.node .nil (some (FI.of Try.f139 true)) .nil) (some (FI.of Try.f75 false)) .nil) none .nil) none (.node (.node (.node .nil (some (FI.of Try.f155 true)) .nil) (some (FI.of Try.f91 true)) .nil) none (.node .nil (some (FI.of Try.f123 true)) .nil))))) none (.node (.node (.node (.node (.node (.node .nil (some (FI.of Try.f129 true)) .nil) none .nil) none (.node (.node .nil (some (FI.of Try.f161 true)) .nil) (some (FI.of Try.f97 true)) .nil)) (some (FI.of Try.f17 true)) (.node (.node .nil (some (FI.of Try.f81 true)) .nil) (some (FI.of Try.f49 true)) (.node .nil (some (FI.of Try.f113 true)) .nil))) none (.node (.node (.node (.node .nil (some (FI.of Try.f137 true)) .nil) (some (FI.of Try.f73 true)) .nil) none .nil) (some (FI.of Try.f25 true)) (.node (.node (.node .nil (some (FI.of Try.f153 true)) .nil) (some (FI.of Try.f89 true)) .nil) none (.node .nil (some (FI.of Try.f121 true)) .nil)))) none (.node (.node (.node (.node (.node .nil (some (FI.of Try.f133 true)) .nil) none .nil) (some (FI.of Try.f37 true)) .nil) none (.node (.node (.node .nil (some (FI.of Try.f149 true)) .nil) (some (FI.of Try.f85 false)) .nil) none .nil)) none (.node (.node (.node (.node .nil (some (FI.of Try.f141 true)) .nil) none .nil) (some (FI.of Try.f45 true)) (.node .nil (some (FI.of Try.f109 true)) .nil)) none (.node (.node .nil (some (FI.of Try.f93 true)) .nil) none .nil))))) none (.node (.node (.node (.node (.node (.node (.node .nil (some (FI.of Try.f128 true)) .nil) none .nil) (some (FI.of Try.f32 false)) (.node .nil (some (FI.of Try.f96 true)) .nil)) none .nil) none (.node (.node (.node (.node .nil (some (FI.of Try.f136 true)) .nil) none .nil) none .nil) (some (FI.of Try.f24 false)) (.node (.node (.node .nil (some (FI.of Try.f152 true)) .nil) (some (FI.of Try.f88 true)) .nil) (some (FI.of Try.f56 true)) (.node .nil (some (FI.of Try.f120 true)) .nil)))) none (.node (.node (.node (.node (.node .nil (some (FI.of Try.f132 false)) .nil) (some (FI.of Try.f68 true)) .nil) none (.node .nil (some (FI.of Try.f100 true)) .nil)) (some (FI.of Try.f20 false)) (.node (.node (.node .nil (some (FI.of Try.f148 true)) .nil) (some (FI.of Try.f84 true)) .nil) none .nil)) none (.node (.node (.node (.node .nil (some (FI.of Try.f140 true)) .nil) (some (FI.of Try.f76 false)) .nil) none (.node .nil (some (FI.of Try.f108 true)) .nil)) (some (FI.of Try.f28 true)) (.node (.node .nil (some (FI.of Try.f92 true)) .nil) (some (FI.of Try.f60 true)) .nil)))) none (.node (.node (.node (.node (.node (.node .nil (some (FI.of Try.f130 true)) .nil) none .nil) none (.node .nil (some (FI.of Try.f98 true)) .nil)) (some (FI.of Try.f18 true)) (.node (.node .nil (some (FI.of Try.f82 true)) .nil) (some (FI.of Try.f50 true)) (.node .nil (some (FI.of Try.f114 true)) .nil))) none (.node (.node (.node (.node .nil (some (FI.of Try.f138 true)) .nil) (some (FI.of Try.f74 true)) .nil) (some (FI.of Try.f42 true)) .nil) none (.node (.node (.node .nil (some (FI.of Try.f154 true)) .nil) (some (FI.of Try.f90 true)) .nil) none .nil))) none (.node (.node (.node (.node (.node .nil (some (FI.of Try.f134 true)) .nil) none .nil) (some (FI.of Try.f38 true)) .nil) (some (FI.of Try.f22 true)) (.node (.node (.node .nil (some (FI.of Try.f150 false)) .nil) (some (FI.of Try.f86 true)) .nil) none (.node .nil (some (FI.of Try.f118 true)) .nil))) none (.node (.node (.node (.node .nil (some (FI.of Try.f142 true)) .nil) (some (FI.of Try.f78 true)) .nil) (some (FI.of Try.f46 true)) (.node .nil (some (FI.of Try.f110 true)) .nil)) none (.node (.node (.node .nil (some (FI.of Try.f158 false)) .nil) (some (FI.of Try.f94 false)) .nil) none .nil))))))
theorem ok3:TI.Ok Try.prog 3 x3:=TI.ok_of Try.underlying3 rfl Try.type3 rfl rfl rfl (fun _ _=>rfl) rfl rfl (fun h=>absurd h (by decide)) (fun _=>⟨rfl,rfl⟩) (aK rfl)
theorem ok4:TI.Ok Try.prog 4 x4:=TI.ok_of Try.underlying4 rfl Try.type4 rfl rfl rfl (fun _ _=>rfl) rfl rfl (fun h=>absurd h (by decide)) (fun _=>⟨rfl,rfl⟩) (aK rfl)
theorem ok5:TI.Ok Try.prog 5 x5:=TI.ok_of Try.underlying5 rfl Try.type5 rfl rfl rfl (fun _ _=>rfl) rfl rfl (fun h=>absurd h (by decide)) (fun _=>⟨rfl,rfl⟩) (aK rfl)
theorem ok9:TI.Ok Try.prog 9 x9:=TI.ok_of Try.underlying9 rfl Try.type9 rfl rfl rfl (fun _ _=>rfl) rfl rfl (fun h=>absurd h (by decide)) (fun _=>⟨rfl,rfl⟩) (aK rfl)
theorem aeT:TI.Ok Try.prog 22 x22:=TI.ok_of Try.underlying22 rfl Try.type22 rfl rfl rfl (fun _ _=>rfl) rfl rfl (fun h=>absurd h (by decide)) (fun _=>⟨rfl,rfl⟩) (aK rfl)
theorem aeU:TI.Ok Try.prog 25 x25:=TI.ok_of Try.underlying25 rfl Try.type25 rfl rfl rfl (fun _ _=>rfl) rfl rfl (fun _=>rfl) (fun h=>absurd h (by decide)) (DA rfl (AF Try.eqGuardType25 Try.underlying25 Try.stoodInHeld25 ⟨by decide,rfl,⟨_,Try.underlying3,rfl⟩,⟨by decide,rfl,⟨_,Try.underlying3,rfl⟩,True.intro⟩⟩))
theorem aeV:TI.Ok Try.prog 26 x26:=TI.ok_of Try.underlying26 rfl Try.type26 rfl rfl rfl (fun _ _=>rfl) rfl rfl (fun h=>absurd h (by decide)) (fun _=>⟨rfl,rfl⟩) (aK rfl)
theorem aeW:TI.Ok Try.prog 33 x33:=TI.ok_of Try.underlying33 rfl Try.type33 rfl rfl rfl (fun _ _=>rfl) rfl rfl (fun h=>absurd h (by decide)) (fun _=>⟨rfl,rfl⟩) (aK rfl)
theorem aeX:TI.Ok Try.prog 35 x35:=TI.ok_of Try.underlying35 rfl Try.type35 rfl rfl rfl (fun _ _=>rfl) rfl rfl (fun _=>rfl) (fun h=>absurd h (by decide)) (aK rfl)
theorem aeY:TI.Ok Try.prog 38 x38:=TI.ok_of Try.underlying38 rfl Try.type38 rfl rfl rfl (fun _ _=>rfl) rfl rfl (fun _=>rfl) (fun h=>absurd h (by decide)) (aK rfl)
theorem aeZ:TI.Ok Try.prog 47 x47:=TI.ok_of Try.underlying47 rfl Try.type47 rfl rfl rfl (fun _ _=>rfl) rfl rfl (fun _=>rfl) (fun h=>absurd h (by decide)) (aK rfl)
theorem ae0:TI.Ok Try.prog 48 x48:=TI.ok_of Try.underlying48 rfl Try.type48 rfl rfl rfl (fun _ _=>rfl) rfl rfl (fun h=>absurd h (by decide)) (fun _=>⟨rfl,rfl⟩) (aK rfl)
theorem ae1:TI.Ok Try.prog 50 x50:=TI.ok_of Try.underlying50 rfl Try.type50 rfl rfl rfl (fun _ _=>rfl) rfl rfl (fun _=>rfl) (fun h=>absurd h (by decide)) (aK rfl)
theorem ae2:TI.Ok Try.prog 58 x58:=TI.ok_of Try.underlying58 rfl Try.type58 rfl rfl rfl (fun _ _=>rfl) rfl rfl (fun _=>rfl) (fun h=>absurd h (by decide)) (aK rfl)
theorem ae3:TI.Ok Try.prog 61 x61:=TI.ok_of Try.underlying61 rfl Try.type61 rfl rfl rfl (fun _ _=>rfl) rfl rfl (fun _=>rfl) (fun h=>absurd h (by decide)) (aK rfl)
theorem ae4:TI.Ok Try.prog 63 x63:=TI.ok_of Try.underlying63 rfl Try.type63 rfl rfl rfl (fun _ _=>rfl) rfl rfl (fun _=>rfl) (fun h=>absurd h (by decide)) (aK rfl)
theorem ae5:TI.Ok Try.prog 64 x64:=TI.ok_of Try.underlying64 rfl Try.type64 rfl rfl rfl (fun _ _=>rfl) rfl rfl (fun _=>rfl) (fun h=>absurd h (by decide)) (DA rfl (WT Try.eqGuardType64 Try.underlying64 Try.type3 rfl Try.underlying3 rfl))
theorem ae6:TI.Ok Try.prog 75 x75:=TI.ok_of Try.underlying75 rfl Try.type75 rfl rfl rfl (fun _ _=>rfl) rfl rfl (fun _=>rfl) (fun h=>absurd h (by decide)) (aK rfl)
theorem ae7:TI.Ok Try.prog 83 x83:=TI.ok_of Try.underlying83 rfl Try.type83 rfl rfl rfl (fun _ _=>rfl) rfl rfl (fun _=>rfl) (fun h=>absurd h (by decide)) (aK rfl)
theorem adD:TI.Ok Try.prog 114 abO:=TI.ok_of Try.underlying114 rfl Try.type114 rfl rfl rfl (fun _ _=>rfl) rfl rfl (fun _=>rfl) (fun h=>absurd h (by decide)) (aK rfl)
theorem adE:TI.Ok Try.prog 120 abP:=TI.ok_of Try.underlying120 rfl Try.type120 rfl rfl rfl (fun _ _=>rfl) rfl rfl (fun h=>absurd h (by decide)) (fun _=>⟨rfl,rfl⟩) (aK rfl)
theorem adF:TI.Ok Try.prog 124 abQ:=TI.ok_of Try.underlying124 rfl Try.type124 rfl rfl rfl (fun _ _=>rfl) rfl rfl (fun _=>rfl) (fun h=>absurd h (by decide)) (DA rfl (AF Try.eqGuardType124 Try.underlying124 Try.stoodInHeld124 ⟨by decide,rfl,⟨_,Try.underlying9,rfl⟩,⟨by decide,rfl,⟨_,Try.underlying4,rfl⟩,⟨by decide,rfl,⟨_,Try.underlying3,rfl⟩,True.intro⟩⟩⟩))
theorem adG:TI.Ok Try.prog 127 abR:=TI.ok_of Try.underlying127 rfl Try.type127 rfl rfl rfl (fun _ _=>rfl) rfl rfl (fun h=>absurd h (by decide)) (fun _=>⟨rfl,rfl⟩) (aK rfl)
theorem adH:TI.Ok Try.prog 141 abS:=TI.ok_of Try.underlying141 rfl Try.type141 rfl rfl rfl (fun _ _=>rfl) rfl rfl (fun h=>absurd h (by decide)) (fun _=>⟨rfl,rfl⟩) (aK rfl)
theorem adI:TI.Ok Try.prog 143 abT:=TI.ok_of Try.underlying143 rfl Try.type143 rfl rfl rfl (fun _ _=>rfl) rfl rfl (fun _=>rfl) (fun h=>absurd h (by decide)) (aK rfl)
theorem adJ:TI.Ok Try.prog 145 abU:=TI.ok_of Try.underlying145 rfl Try.type145 rfl rfl rfl (fun _ _=>rfl) rfl rfl (fun _=>rfl) (fun h=>absurd h (by decide)) (aK rfl)
theorem adK:TI.Ok Try.prog 150 abV:=TI.ok_of Try.underlying150 rfl Try.type150 rfl rfl rfl (fun _ _=>rfl) rfl rfl (fun h=>absurd h (by decide)) (fun _=>⟨rfl,rfl⟩) (aK rfl)
theorem adL:TI.Ok Try.prog 155 abW:=TI.ok_of Try.underlying155 rfl Try.type155 rfl rfl rfl (fun _ _=>rfl) rfl rfl (fun h=>absurd h (by decide)) (fun _=>⟨rfl,rfl⟩) (aK rfl)
theorem adM:TI.Ok Try.prog 158 abX:=TI.ok_of Try.underlying158 rfl Try.type158 rfl rfl rfl (fun _ _=>rfl) rfl rfl (fun _=>rfl) (fun h=>absurd h (by decide)) (aK rfl)
theorem adN:TI.Ok Try.prog 160 abY:=TI.ok_of Try.underlying160 rfl Try.type160 rfl rfl rfl (fun _ _=>rfl) rfl rfl (fun h=>absurd h (by decide)) (fun _=>⟨rfl,rfl⟩) (aK rfl)
theorem adO:TI.Ok Try.prog 165 abZ:=TI.ok_of Try.underlying165 rfl Try.type165 rfl rfl rfl (fun _ _=>rfl) rfl rfl (fun _=>rfl) (fun h=>absurd h (by decide)) (aK rfl)
theorem adP:TI.Ok Try.prog 168 ab0:=TI.ok_of Try.underlying168 rfl Try.type168 rfl rfl rfl (fun _ _=>rfl) rfl rfl (fun h=>absurd h (by decide)) (fun _=>⟨rfl,rfl⟩) (aK rfl)
theorem adQ:TI.Ok Try.prog 170 ab1:=TI.ok_of Try.underlying170 rfl Try.type170 rfl rfl rfl (fun _ _=>rfl) rfl rfl (fun _=>rfl) (fun h=>absurd h (by decide)) (aK rfl)
theorem adR:TI.Ok Try.prog 171 ab2:=TI.ok_of Try.underlying171 rfl Try.type171 rfl rfl rfl (fun _ _=>rfl) rfl rfl (fun _=>rfl) (fun h=>absurd h (by decide)) (aK rfl)
theorem adS:TI.Ok Try.prog 173 ab3:=TI.ok_of Try.underlying173 rfl Try.type173 rfl rfl rfl (fun _ _=>rfl) rfl rfl (fun _=>rfl) (fun h=>absurd h (by decide)) (aK rfl)
theorem adT:TI.Ok Try.prog 177 ab4:=TI.ok_of Try.underlying177 rfl Try.type177 rfl rfl rfl (fun _ _=>rfl) rfl rfl (fun h=>absurd h (by decide)) (fun _=>⟨rfl,rfl⟩) (aK rfl)
theorem adU:TI.Ok Try.prog 180 ab5:=TI.ok_of Try.underlying180 rfl Try.type180 rfl rfl rfl (fun _ _=>rfl) rfl rfl (fun _=>rfl) (fun h=>absurd h (by decide)) (aK rfl)
theorem adV:TI.Ok Try.prog 189 ab6:=TI.ok_of Try.underlying189 rfl Try.type189 rfl rfl rfl (fun _ _=>rfl) rfl rfl (fun h=>absurd h (by decide)) (fun _=>⟨rfl,rfl⟩) (aK rfl)
theorem adW:TI.Ok Try.prog 191 ab7:=TI.ok_of Try.underlying191 rfl Try.type191 rfl rfl rfl (fun _ _=>rfl) rfl rfl (fun h=>absurd h (by decide)) (fun _=>⟨rfl,rfl⟩) (aK rfl)
theorem adX:TI.Ok Try.prog 194 ab8:=TI.ok_of Try.underlying194 rfl Try.type194 rfl rfl rfl (fun _ _=>rfl) rfl rfl (fun h=>absurd h (by decide)) (fun _=>⟨rfl,rfl⟩) (aK rfl)
theorem adY:TI.Ok Try.prog 196 ab9:=TI.ok_of Try.underlying196 rfl Try.type196 rfl rfl rfl (fun _ _=>rfl) rfl rfl (fun _=>rfl) (fun h=>absurd h (by decide)) (aK rfl)
theorem adZ:TI.Ok Try.prog 198 aca:=TI.ok_of Try.underlying198 rfl Try.type198 rfl rfl rfl (fun _ _=>rfl) rfl rfl (fun h=>absurd h (by decide)) (fun _=>⟨rfl,rfl⟩) (aK rfl)
theorem ad0:TI.Ok Try.prog 200 acb:=TI.ok_of Try.underlying200 rfl Try.type200 rfl rfl rfl (fun _ _=>rfl) rfl rfl (fun h=>absurd h (by decide)) (fun _=>⟨rfl,rfl⟩) (aK rfl)
theorem ad1:TI.Ok Try.prog 203 acd:=TI.ok_of Try.underlying203 rfl Try.type203 rfl rfl rfl (fun _ _=>rfl) rfl rfl (fun h=>absurd h (by decide)) (fun _=>⟨rfl,rfl⟩) (aK rfl)
theorem ad2:TI.Ok Try.prog 211 ace:=TI.ok_of Try.underlying211 rfl Try.type211 rfl rfl rfl (fun _ _=>rfl) rfl rfl (fun h=>absurd h (by decide)) (fun _=>⟨rfl,rfl⟩) (aK rfl)
theorem ad3:TI.Ok Try.prog 212 acf:=TI.ok_of Try.underlying212 rfl Try.type212 rfl rfl rfl (fun _ _=>rfl) rfl rfl (fun h=>absurd h (by decide)) (fun _=>⟨rfl,rfl⟩) (aK rfl)
theorem ad4:TI.Ok Try.prog 216 acg:=TI.ok_of Try.underlying216 rfl Try.type216 rfl rfl rfl (fun _ _=>rfl) rfl rfl (fun h=>absurd h (by decide)) (fun _=>⟨rfl,rfl⟩) (aK rfl)
theorem ad5:TI.Ok Try.prog 219 ach:=TI.ok_of Try.underlying219 rfl Try.type219 rfl rfl rfl (fun _ _=>rfl) rfl rfl (fun h=>absurd h (by decide)) (fun _=>⟨rfl,rfl⟩) (aK rfl)
theorem tt_ok : ∀ t x,tt.get t=some x->TI.Ok Try.prog t x:=M2 (Q:=fun t x=>TI.Ok Try.prog t x) (l:=tl) (by kernel_rfl) (by kernel_rfl) (List.forall_mem_cons.2 ⟨ok3,(List.forall_mem_cons.2 ⟨ok4,(List.forall_mem_cons.2 ⟨ok5,(List.forall_mem_cons.2 ⟨ok9,(List.forall_mem_cons.2 ⟨aeT,(List.forall_mem_cons.2 ⟨aeU,(List.forall_mem_cons.2 ⟨aeV,(List.forall_mem_cons.2 ⟨aeW,(List.forall_mem_cons.2 ⟨aeX,(List.forall_mem_cons.2 ⟨aeY,(List.forall_mem_cons.2 ⟨aeZ,(List.forall_mem_cons.2 ⟨ae0,(List.forall_mem_cons.2 ⟨ae1,(List.forall_mem_cons.2 ⟨ae2,(List.forall_mem_cons.2 ⟨ae3,(List.forall_mem_cons.2 ⟨ae4,(List.forall_mem_cons.2 ⟨ae5,(List.forall_mem_cons.2 ⟨ae6,(List.forall_mem_cons.2 ⟨ae7,(List.forall_mem_cons.2 ⟨adD,(List.forall_mem_cons.2 ⟨adE,(List.forall_mem_cons.2 ⟨adF,(List.forall_mem_cons.2 ⟨adG,(List.forall_mem_cons.2 ⟨adH,(List.forall_mem_cons.2 ⟨adI,(List.forall_mem_cons.2 ⟨adJ,(List.forall_mem_cons.2 ⟨adK,(List.forall_mem_cons.2 ⟨adL,(List.forall_mem_cons.2 ⟨adM,(List.forall_mem_cons.2 ⟨adN,(List.forall_mem_cons.2 ⟨adO,(List.forall_mem_cons.2 ⟨adP,(List.forall_mem_cons.2 ⟨adQ,(List.forall_mem_cons.2 ⟨adR,(List.forall_mem_cons.2 ⟨adS,(List.forall_mem_cons.2 ⟨adT,(List.forall_mem_cons.2 ⟨adU,(List.forall_mem_cons.2 ⟨adV,(List.forall_mem_cons.2 ⟨adW,(List.forall_mem_cons.2 ⟨adX,(List.forall_mem_cons.2 ⟨adY,(List.forall_mem_cons.2 ⟨adZ,(List.forall_mem_cons.2 ⟨ad0,(List.forall_mem_cons.2 ⟨ad1,(List.forall_mem_cons.2 ⟨ad2,(List.forall_mem_cons.2 ⟨ad3,(List.forall_mem_cons.2 ⟨ad4,(List.forall_mem_cons.2 ⟨ad5,(fun _ h=>nomatch h)⟩)⟩)⟩)⟩)⟩)⟩)⟩)⟩)⟩)⟩)⟩)⟩)⟩)⟩)⟩)⟩)⟩)⟩)⟩)⟩)⟩)⟩)⟩)⟩)⟩)⟩)⟩)⟩)⟩)⟩)⟩)⟩)⟩)⟩)⟩)⟩)⟩)⟩)⟩)⟩)⟩)⟩)⟩)⟩)⟩)⟩)⟩)⟩)
theorem fok17:FI.Ok Try.prog 17 (FI.of Try.f17 true):=FI.ok_of Try.func17 rfl (by kernel_rfl)
theorem fok18:FI.Ok Try.prog 18 (FI.of Try.f18 true):=FI.ok_of Try.func18 rfl (by kernel_rfl)
theorem fok19:FI.Ok Try.prog 19 (FI.of Try.f19 true):=FI.ok_of Try.func19 rfl (by kernel_rfl)
theorem fok20:FI.Ok Try.prog 20 (FI.of Try.f20 false):=FI.ok_of Try.func20 rfl (by kernel_rfl)
theorem fok22:FI.Ok Try.prog 22 (FI.of Try.f22 true):=FI.ok_of Try.func22 rfl (by kernel_rfl)
theorem fok23:FI.Ok Try.prog 23 (FI.of Try.f23 false):=FI.ok_of Try.func23 rfl (by kernel_rfl)
theorem fok24:FI.Ok Try.prog 24 (FI.of Try.f24 false):=FI.ok_of Try.func24 rfl (by kernel_rfl)
theorem fok25:FI.Ok Try.prog 25 (FI.of Try.f25 true):=FI.ok_of Try.func25 rfl (by kernel_rfl)
theorem fok28:FI.Ok Try.prog 28 (FI.of Try.f28 true):=FI.ok_of Try.func28 rfl (by kernel_rfl)
theorem fok32:FI.Ok Try.prog 32 (FI.of Try.f32 false):=FI.ok_of Try.func32 rfl (by kernel_rfl)
theorem fok37:FI.Ok Try.prog 37 (FI.of Try.f37 true):=FI.ok_of Try.func37 rfl (by kernel_rfl)
theorem fok38:FI.Ok Try.prog 38 (FI.of Try.f38 true):=FI.ok_of Try.func38 rfl (by kernel_rfl)
theorem fok42:FI.Ok Try.prog 42 (FI.of Try.f42 true):=FI.ok_of Try.func42 rfl (by kernel_rfl)
theorem fok45:FI.Ok Try.prog 45 (FI.of Try.f45 true):=FI.ok_of Try.func45 rfl (by kernel_rfl)
theorem fok46:FI.Ok Try.prog 46 (FI.of Try.f46 true):=FI.ok_of Try.func46 rfl (by kernel_rfl)
theorem fok47:FI.Ok Try.prog 47 (FI.of Try.f47 true):=FI.ok_of Try.func47 rfl (by kernel_rfl)
theorem fok49:FI.Ok Try.prog 49 (FI.of Try.f49 true):=FI.ok_of Try.func49 rfl (by kernel_rfl)
theorem ad6:FI.Ok Try.prog 50 (FI.of Try.f50 true):=FI.ok_of Try.func50 rfl (by kernel_rfl)
theorem ad7:FI.Ok Try.prog 56 (FI.of Try.f56 true):=FI.ok_of Try.func56 rfl (by kernel_rfl)
theorem ad8:FI.Ok Try.prog 60 (FI.of Try.f60 true):=FI.ok_of Try.func60 rfl (by kernel_rfl)
theorem ad9:FI.Ok Try.prog 63 (FI.of Try.f63 true):=FI.ok_of Try.func63 rfl (by kernel_rfl)
theorem fok68:FI.Ok Try.prog 68 (FI.of Try.f68 true):=FI.ok_of Try.func68 rfl (by kernel_rfl)
theorem fok73:FI.Ok Try.prog 73 (FI.of Try.f73 true):=FI.ok_of Try.func73 rfl (by kernel_rfl)
theorem fok74:FI.Ok Try.prog 74 (FI.of Try.f74 true):=FI.ok_of Try.func74 rfl (by kernel_rfl)
theorem fok75:FI.Ok Try.prog 75 (FI.of Try.f75 false):=FI.ok_of Try.func75 rfl (by kernel_rfl)
theorem fok76:FI.Ok Try.prog 76 (FI.of Try.f76 false):=FI.ok_of Try.func76 rfl (by kernel_rfl)
theorem fok78:FI.Ok Try.prog 78 (FI.of Try.f78 true):=FI.ok_of Try.func78 rfl (by kernel_rfl)
theorem fok81:FI.Ok Try.prog 81 (FI.of Try.f81 true):=FI.ok_of Try.func81 rfl (by kernel_rfl)
theorem aea:FI.Ok Try.prog 82 (FI.of Try.f82 true):=FI.ok_of Try.func82 rfl (by kernel_rfl)
theorem fok83:FI.Ok Try.prog 83 (FI.of Try.f83 true):=FI.ok_of Try.func83 rfl (by kernel_rfl)
theorem aeb:FI.Ok Try.prog 84 (FI.of Try.f84 true):=FI.ok_of Try.func84 rfl (by kernel_rfl)
theorem aec:FI.Ok Try.prog 85 (FI.of Try.f85 false):=FI.ok_of Try.func85 rfl (by kernel_rfl)
theorem fok86:FI.Ok Try.prog 86 (FI.of Try.f86 true):=FI.ok_of Try.func86 rfl (by kernel_rfl)
theorem aed:FI.Ok Try.prog 87 (FI.of Try.f87 true):=FI.ok_of Try.func87 rfl (by kernel_rfl)
theorem fok88:FI.Ok Try.prog 88 (FI.of Try.f88 true):=FI.ok_of Try.func88 rfl (by kernel_rfl)
theorem fok89:FI.Ok Try.prog 89 (FI.of Try.f89 true):=FI.ok_of Try.func89 rfl (by kernel_rfl)
theorem fok90:FI.Ok Try.prog 90 (FI.of Try.f90 true):=FI.ok_of Try.func90 rfl (by kernel_rfl)
theorem fok91:FI.Ok Try.prog 91 (FI.of Try.f91 true):=FI.ok_of Try.func91 rfl (by kernel_rfl)
theorem fok92:FI.Ok Try.prog 92 (FI.of Try.f92 true):=FI.ok_of Try.func92 rfl (by kernel_rfl)
theorem fok93:FI.Ok Try.prog 93 (FI.of Try.f93 true):=FI.ok_of Try.func93 rfl (by kernel_rfl)
theorem fok94:FI.Ok Try.prog 94 (FI.of Try.f94 false):=FI.ok_of Try.func94 rfl (by kernel_rfl)
theorem fok95:FI.Ok Try.prog 95 (FI.of Try.f95 false):=FI.ok_of Try.func95 rfl (by kernel_rfl)
theorem fok96:FI.Ok Try.prog 96 (FI.of Try.f96 true):=FI.ok_of Try.func96 rfl (by kernel_rfl)
theorem fok97:FI.Ok Try.prog 97 (FI.of Try.f97 true):=FI.ok_of Try.func97 rfl (by kernel_rfl)
theorem aee:FI.Ok Try.prog 98 (FI.of Try.f98 true):=FI.ok_of Try.func98 rfl (by kernel_rfl)
theorem aef:FI.Ok Try.prog 99 (FI.of Try.f99 false):=FI.ok_of Try.func99 rfl (by kernel_rfl)
theorem fok100:FI.Ok Try.prog 100 (FI.of Try.f100 true):=FI.ok_of Try.func100 rfl (by kernel_rfl)
theorem aci:FI.Ok Try.prog 108 (FI.of Try.f108 true):=FI.ok_of Try.func108 rfl (by kernel_rfl)
theorem acj:FI.Ok Try.prog 109 (FI.of Try.f109 true):=FI.ok_of Try.func109 rfl (by kernel_rfl)
theorem fok110:FI.Ok Try.prog 110 (FI.of Try.f110 true):=FI.ok_of Try.func110 rfl (by kernel_rfl)
theorem fok111:FI.Ok Try.prog 111 (FI.of Try.f111 true):=FI.ok_of Try.func111 rfl (by kernel_rfl)
theorem fok113:FI.Ok Try.prog 113 (FI.of Try.f113 true):=FI.ok_of Try.func113 rfl (by kernel_rfl)
theorem ack:FI.Ok Try.prog 114 (FI.of Try.f114 true):=FI.ok_of Try.func114 rfl (by kernel_rfl)
theorem fok115:FI.Ok Try.prog 115 (FI.of Try.f115 true):=FI.ok_of Try.func115 rfl (by kernel_rfl)
theorem acl:FI.Ok Try.prog 118 (FI.of Try.f118 true):=FI.ok_of Try.func118 rfl (by kernel_rfl)
theorem acm:FI.Ok Try.prog 119 (FI.of Try.f119 true):=FI.ok_of Try.func119 rfl (by kernel_rfl)
theorem fok120:FI.Ok Try.prog 120 (FI.of Try.f120 true):=FI.ok_of Try.func120 rfl (by kernel_rfl)
theorem fok121:FI.Ok Try.prog 121 (FI.of Try.f121 true):=FI.ok_of Try.func121 rfl (by kernel_rfl)
theorem acn:FI.Ok Try.prog 123 (FI.of Try.f123 true):=FI.ok_of Try.func123 rfl (by kernel_rfl)
theorem fok128:FI.Ok Try.prog 128 (FI.of Try.f128 true):=FI.ok_of Try.func128 rfl (by kernel_rfl)
theorem fok129:FI.Ok Try.prog 129 (FI.of Try.f129 true):=FI.ok_of Try.func129 rfl (by kernel_rfl)
theorem fok130:FI.Ok Try.prog 130 (FI.of Try.f130 true):=FI.ok_of Try.func130 rfl (by kernel_rfl)
theorem fok132:FI.Ok Try.prog 132 (FI.of Try.f132 false):=FI.ok_of Try.func132 rfl (by kernel_rfl)
theorem fok133:FI.Ok Try.prog 133 (FI.of Try.f133 true):=FI.ok_of Try.func133 rfl (by kernel_rfl)
theorem aco:FI.Ok Try.prog 134 (FI.of Try.f134 true):=FI.ok_of Try.func134 rfl (by kernel_rfl)
theorem fok135:FI.Ok Try.prog 135 (FI.of Try.f135 true):=FI.ok_of Try.func135 rfl (by kernel_rfl)
theorem acp:FI.Ok Try.prog 136 (FI.of Try.f136 true):=FI.ok_of Try.func136 rfl (by kernel_rfl)
theorem acq:FI.Ok Try.prog 137 (FI.of Try.f137 true):=FI.ok_of Try.func137 rfl (by kernel_rfl)
theorem fok138:FI.Ok Try.prog 138 (FI.of Try.f138 true):=FI.ok_of Try.func138 rfl (by kernel_rfl)
theorem fok139:FI.Ok Try.prog 139 (FI.of Try.f139 true):=FI.ok_of Try.func139 rfl (by kernel_rfl)
theorem fok140:FI.Ok Try.prog 140 (FI.of Try.f140 true):=FI.ok_of Try.func140 rfl (by kernel_rfl)
theorem acr:FI.Ok Try.prog 141 (FI.of Try.f141 true):=FI.ok_of Try.func141 rfl (by kernel_rfl)
theorem fok142:FI.Ok Try.prog 142 (FI.of Try.f142 true):=FI.ok_of Try.func142 rfl (by kernel_rfl)
theorem acs:FI.Ok Try.prog 148 (FI.of Try.f148 true):=FI.ok_of Try.func148 rfl (by kernel_rfl)
theorem fok149:FI.Ok Try.prog 149 (FI.of Try.f149 true):=FI.ok_of Try.func149 rfl (by kernel_rfl)
theorem act:FI.Ok Try.prog 150 (FI.of Try.f150 false):=FI.ok_of Try.func150 rfl (by kernel_rfl)
theorem acu:FI.Ok Try.prog 151 (FI.of Try.f151 false):=FI.ok_of Try.func151 rfl (by kernel_rfl)
theorem fok152:FI.Ok Try.prog 152 (FI.of Try.f152 true):=FI.ok_of Try.func152 rfl (by kernel_rfl)
theorem fok153:FI.Ok Try.prog 153 (FI.of Try.f153 true):=FI.ok_of Try.func153 rfl (by kernel_rfl)
theorem acv:FI.Ok Try.prog 154 (FI.of Try.f154 true):=FI.ok_of Try.func154 rfl (by kernel_rfl)
theorem acw:FI.Ok Try.prog 155 (FI.of Try.f155 true):=FI.ok_of Try.func155 rfl (by kernel_rfl)
theorem fok158:FI.Ok Try.prog 158 (FI.of Try.f158 false):=FI.ok_of Try.func158 rfl (by kernel_rfl)
theorem acx:FI.Ok Try.prog 159 (FI.of Try.f159 true):=FI.ok_of Try.func159 rfl (by kernel_rfl)
theorem acy:FI.Ok Try.prog 161 (FI.of Try.f161 true):=FI.ok_of Try.func161 rfl (by kernel_rfl)
set_option maxRecDepth 100000 in
theorem ft_ok : ∀ f x,ft.get f=some x->FI.Ok Try.prog f x:=M2 (Q:=fun f x=>FI.Ok Try.prog f x) (l:=fl) (by kernel_rfl) (by kernel_rfl) (List.forall_mem_cons.2 ⟨fok17,(List.forall_mem_cons.2 ⟨fok18,(List.forall_mem_cons.2 ⟨fok19,(List.forall_mem_cons.2 ⟨fok20,(List.forall_mem_cons.2 ⟨fok22,(List.forall_mem_cons.2 ⟨fok23,(List.forall_mem_cons.2 ⟨fok24,(List.forall_mem_cons.2 ⟨fok25,(List.forall_mem_cons.2 ⟨fok28,(List.forall_mem_cons.2 ⟨fok32,(List.forall_mem_cons.2 ⟨fok37,(List.forall_mem_cons.2 ⟨fok38,(List.forall_mem_cons.2 ⟨fok42,(List.forall_mem_cons.2 ⟨fok45,(List.forall_mem_cons.2 ⟨fok46,(List.forall_mem_cons.2 ⟨fok47,(List.forall_mem_cons.2 ⟨fok49,(List.forall_mem_cons.2 ⟨ad6,(List.forall_mem_cons.2 ⟨ad7,(List.forall_mem_cons.2 ⟨ad8,(List.forall_mem_cons.2 ⟨ad9,(List.forall_mem_cons.2 ⟨fok68,(List.forall_mem_cons.2 ⟨fok73,(List.forall_mem_cons.2 ⟨fok74,(List.forall_mem_cons.2 ⟨fok75,(List.forall_mem_cons.2 ⟨fok76,(List.forall_mem_cons.2 ⟨fok78,(List.forall_mem_cons.2 ⟨fok81,(List.forall_mem_cons.2 ⟨aea,(List.forall_mem_cons.2 ⟨fok83,(List.forall_mem_cons.2 ⟨aeb,(List.forall_mem_cons.2 ⟨aec,(List.forall_mem_cons.2 ⟨fok86,(List.forall_mem_cons.2 ⟨aed,(List.forall_mem_cons.2 ⟨fok88,(List.forall_mem_cons.2 ⟨fok89,(List.forall_mem_cons.2 ⟨fok90,(List.forall_mem_cons.2 ⟨fok91,(List.forall_mem_cons.2 ⟨fok92,(List.forall_mem_cons.2 ⟨fok93,(List.forall_mem_cons.2 ⟨fok94,(List.forall_mem_cons.2 ⟨fok95,(List.forall_mem_cons.2 ⟨fok96,(List.forall_mem_cons.2 ⟨fok97,(List.forall_mem_cons.2 ⟨aee,(List.forall_mem_cons.2 ⟨aef,(List.forall_mem_cons.2 ⟨fok100,(List.forall_mem_cons.2 ⟨aci,(List.forall_mem_cons.2 ⟨acj,(List.forall_mem_cons.2 ⟨fok110,(List.forall_mem_cons.2 ⟨fok111,(List.forall_mem_cons.2 ⟨fok113,(List.forall_mem_cons.2 ⟨ack,(List.forall_mem_cons.2 ⟨fok115,(List.forall_mem_cons.2 ⟨acl,(List.forall_mem_cons.2 ⟨acm,(List.forall_mem_cons.2 ⟨fok120,(List.forall_mem_cons.2 ⟨fok121,(List.forall_mem_cons.2 ⟨acn,(List.forall_mem_cons.2 ⟨fok128,(List.forall_mem_cons.2 ⟨fok129,(List.forall_mem_cons.2 ⟨fok130,(List.forall_mem_cons.2 ⟨fok132,(List.forall_mem_cons.2 ⟨fok133,(List.forall_mem_cons.2 ⟨aco,(List.forall_mem_cons.2 ⟨fok135,(List.forall_mem_cons.2 ⟨acp,(List.forall_mem_cons.2 ⟨acq,(List.forall_mem_cons.2 ⟨fok138,(List.forall_mem_cons.2 ⟨fok139,(List.forall_mem_cons.2 ⟨fok140,(List.forall_mem_cons.2 ⟨acr,(List.forall_mem_cons.2 ⟨fok142,(List.forall_mem_cons.2 ⟨acs,(List.forall_mem_cons.2 ⟨fok149,(List.forall_mem_cons.2 ⟨act,(List.forall_mem_cons.2 ⟨acu,(List.forall_mem_cons.2 ⟨fok152,(List.forall_mem_cons.2 ⟨fok153,(List.forall_mem_cons.2 ⟨acv,(List.forall_mem_cons.2 ⟨acw,(List.forall_mem_cons.2 ⟨fok158,(List.forall_mem_cons.2 ⟨acx,(List.forall_mem_cons.2 ⟨acy,(fun _ h=>nomatch h)⟩)⟩)⟩)⟩)⟩)⟩)⟩)⟩)⟩)⟩)⟩)⟩)⟩)⟩)⟩)⟩)⟩)⟩)⟩)⟩)⟩)⟩)⟩)⟩)⟩)⟩)⟩)⟩)⟩)⟩)⟩)⟩)⟩)⟩)⟩)⟩)⟩)⟩)⟩)⟩)⟩)⟩)⟩)⟩)⟩)⟩)⟩)⟩)⟩)⟩)⟩)⟩)⟩)⟩)⟩)⟩)⟩)⟩)⟩)⟩)⟩)⟩)⟩)⟩)⟩)⟩)⟩)⟩)⟩)⟩)⟩)⟩)⟩)⟩)⟩)⟩)⟩)⟩)⟩)⟩)⟩)⟩)⟩)⟩)
theorem mixed:Try.prog.follows .mixedOrders=true:=by kernel_rfl
end Try
end Go.Ex
