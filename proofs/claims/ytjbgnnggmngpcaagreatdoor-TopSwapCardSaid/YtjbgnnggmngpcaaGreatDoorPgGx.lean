/- Pg: abstract values, what operations, regions, calls come to on them. -/
import Derived.Test.YtjbgnnggmngpcaaGreatDoorPgDat
import Derived.Below
set_option linter.unusedVariables false
set_option linter.unusedSimpArgs false
set_option linter.unusedSectionVars false
open List renaming getElem?_cons_zero → Qa,getElem?_toArray → Qb
namespace Go.Pg
open Go
variable [Syms]
theorem eql_nil {P:Program}(w:World)(t e:TypeId)(a:Option Addr)(n c:Nat)(h:P.underlying t=some (.slice e)) :
 (binOp .eql t (.slice a n c) (.slice none 0 0)).run P w= .ok (.bool a.isNone) w:=by
 have h1:∀d,(Op.equalIn (d+1) t (.slice a n c) (.slice none 0 0)).run P w= .ok a.isNone w:=by
  intro d
  cases a <;> simp [Op.equalIn,run_underlying h]
 simp only[binOp]
 simp [Op.equal,Op.maxDepth,h1 9999]
theorem AWp.isNil {P:Program}{N:Nat}{H0:AH}{E0:Env}{Q:APost}{ev:AEnv}{H:AH}{id x t3 t4 z T B T3:Nat}{vs:List AV}{p1 p2:String}{af1 af2:Array _}
 {e:TypeId} (hT:P.underlying T=some (.slice e)) (h3:t3<N) (h4:t4<N) (hx:look x ev= .sl z vs) (hQ:∀b:Bool,(b=true→vs=[])→Q .normal ((t4,.bool b) :: (t3,.sl z vs) :: ev) H) :
 AWp P N H0 E0 (.region id #[{ dst:=some t3,op:= .move (.tmp x),type:=T3,pos:=p1,after:=af1,guard:=none },
  { dst:=some t4,op:= .binOp .eql T (.tmp t3) (.const (.slice none 0 0)) T,type:=B,pos:=p2,after:=af2,guard:=none }] false) Q ev H:=by
 intro n E a ha hdf
 refine wpIn_wide.2 (wp_region ?_)
 have hv:=ha.env x
 rw[hx] at hv
 have ha1:=ha.put (P:=P) h3 hv
 obtain⟨ad,cap,hvv,hnil⟩:∃ad cap,a.tmps.getD x Go.undef= .slice ad vs.length cap∧(ad=none→vs=[]):=by
  generalize a.tmps.getD x Go.undef=v at hv
  cases hv with
  | sl sz vs ad cap f hc hs hv=>
   refine⟨ad,cap,rfl,fun h=>?_⟩
   subst h
   cases vs with
   | nil=>rfl
   | cons y r=>
    obtain⟨_,b,o,h,_⟩:=hs 0 y rfl
    cases h
 have hv1:(a.put (some t3) (.slice ad vs.length cap)).tmps.getD t3 Go.undef= .slice ad vs.length cap:=by
  rw[Array.getD_eq_getD_getElem?]
  simp [Act.put,ha.size,h3]
 show wpOps P _ _ [0,1] a E.W
 rw[wpOps_cons]
 unfold wpOp
 simp only[Qb,Qa,Region.wanted,if_true]
 refine .inl (wp_of_value (v:= .slice ad vs.length cap) (w':=E.W) ?_ ?_)
 ·show(execOp a.eval _).run P E.W=_
  simp [execOp,Act.eval,hvv]
 rw[wpOps_cons]
 unfold wpOp
 simp only[Qb,List.getElem?_cons_succ,Qa,Region.wanted,if_true]
 refine .inl (wp_of_value (v:= .bool ad.isNone) (w':=E.W) ?_ ?_)
 ·simp [execOp,Act.eval,hv1,eqGuard,eql_nil E.W T e ad vs.length cap hT]
 simp only[wpOps]
 rw[hvv] at ha1
 refine⟨_,_,E,hQ ad.isNone (fun h=>hnil (by simpa using h)),rfl,ha1.put (P:=P) h4 (.bool _),fun hh=>by cases hh⟩
end Go.Pg
namespace Go.Pg
open Go
variable [Syms]
theorem not_mem_nil (n:Nat):(n∈([]:List Nat))=False:=by simp
theorem length_ofBytes (l:List UInt8):(ofBytes l).length=l.length:=by simp [ofBytes]
theorem take_ofBytes (l:List UInt8)(n:Nat):(ofBytes l).take n=ofBytes (l.take n):=by simp [ofBytes]
theorem drop_ofBytes (l:List UInt8)(n:Nat):(ofBytes l).drop n=ofBytes (l.drop n):=by simp [ofBytes]
theorem getD_ofBytes (l:List UInt8)(i:Nat):(ofBytes l).getD i (.int .u8 0)= .int .u8 (l.getD i 0).toNat:=by
 have:=getD_map (fun b:UInt8=>AV.int .u8 b.toNat) l i 0
 exact this
theorem app1_ofBytes (l:List UInt8)(b:UInt8):ofBytes l ++ [.int .u8 b.toNat]=ofBytes (l ++ [b]):=by simp [ofBytes]
theorem app_strs (l m:List (List UInt8)):l.map AV.str ++ m.map AV.str=(l ++ m).map AV.str:=by simp
structure PureCaps (caps:List AV):Prop where
 res:∀H d,resL (res H (d+1)) caps=some (caps,[])
 res8:∀H,resL (Go.Pg.res8 H) caps=some (caps,[])
 pairs:pairsL (pairsC pairs0) caps caps=[]
 frz:∀H,frzL (frz0 H) caps caps=[]
 sub:∀H F pick d,subL (subV H F pick (d+1)) caps caps=True
end Go.Pg
namespace Go.Pg
open Go Go.RowKit
variable [Syms]
theorem callsR_below {P:Program}{f:FuncId}{args:List AV}{r:AV}(h:∀(E:Env)(vals:Array Value),VRs E args vals→Calls P f vals E.W fun e W'=>(∃v,e= .returned v∧∀E':Env,VR E' r v)∧Below E.W.heap.size E.W W') :
 CallsR P f args [] r []:=by
 intro E vals hr hv
 refine(h E vals hv).mono fun e W' ⟨⟨v,he,hvr⟩,hb⟩=>⟨v,{ E with W:=W' },he,rfl,hvr _,?_,?_⟩
 ·refine⟨hr.hl,hr.dom,fun id o m h=>by simp at h,fun id o b h=>by simp at h,fun id o b h=>by simp at h,fun id id' o o' b h=>by simp at h,fun b hb'=>Nat.lt_of_lt_of_le (hr.stlt b hb') hb.size⟩
 ·refine⟨⟨hb.os,hb.tape,hb.output,hb.size,fun b h1 _=>hb.block b h1,fun b c ty fz h1=>⟨c,fz,?_,rfl⟩,fun b _ h1=> .inl h1,fun b h1=>h1⟩,⟨fun _ h=>h,fun _ L _ h=>⟨L,h,Nat.le_refl _,fun _=>rfl⟩⟩,fun b h1=> .inl h1⟩
  show W'.heap[b]? =_
  rw[hb.block b (Array.getElem?_eq_some_iff.1 h1).1,h1]
theorem VRs.two {E:Env}{a b:AV}{vals:Array Value}(h:VRs E [a,b] vals):∃u v,vals= #[u,v]∧VR E a u∧VR E b v:=by
 obtain⟨h1,h2⟩:=h
 obtain⟨l⟩:=vals
 match l,h1 with
 | [u,v],_=>exact⟨u,v,rfl,h2 0 a rfl,h2 1 b rfl⟩
end Go.Pg
