/- Pg, part 19: data: how plain values are told as abstract ones, and read back; contracts by codecs. -/
import Derived.Test.YtjbgnnggmngpcaaGreatDoorPgEval
set_option linter.unusedVariables false
set_option linter.unusedSimpArgs false
set_option linter.unusedSectionVars false
namespace Go.Pg
open Go
variable [Syms]
structure Cd (α:Type) where
 enc:α→AV
 dec:AV→Option α
 ok:∀v a,dec v=some a→v=enc a
def decL {α:Type}(g:AV→Option α):List AV→Option (List α)
 | []=>some []
 | x :: r=>match g x,decL g r with
  | some a,some l=>some (a :: l)
  | _,_=>none
theorem decL_ok {α:Type}(c:Cd α):∀(vs:List AV)(l:List α),decL c.dec vs=some l→vs=l.map c.enc:=by
 intro vs
 induction vs with
 | nil=>intro l h;simp only[decL] at h;cases h;rfl
 | cons x r ih=>
  intro l h
  simp only[decL] at h
  split at h
  ·next a m h1 h2=>cases h;rw[List.map_cons,←ih m h2,←c.ok x a h1]
  ·cases h
theorem decL_map {α:Type}{g:AV→Option α}{f:α→AV}(h:∀a,g (f a)=some a)(l:List α):decL g (l.map f)=some l:=by
 induction l with
 | nil=>rfl
 | cons a l ih=>simp [decL,h,ih]
def cInt (k:IntKind):Cd Int where
 enc:= .int k
 dec
  | .int k' n=>if k'=k then some n else none
  | _=>none
 ok v a h:=by
  split at h
  ·split at h
   ·next e=>cases h;rw[e]
   ·cases h
  ·cases h
def cByte:Cd UInt8 where
 enc b:= .int .u8 b.toNat
 dec
  | .int .u8 n=>if 0≤n∧n<256 then some (UInt8.ofNat n.toNat) else none
  | _=>none
 ok v a h:=by
  split at h
  ·next n=>
   split at h
   ·next e=>
    cases h
    have:n.toNat<256:=by omega
    simp [UInt8.toNat_ofNat',Nat.mod_eq_of_lt this]
    omega
   ·cases h
  ·cases h
def cBool:Cd Bool where
 enc:= .bool
 dec
  | .bool b=>some b
  | _=>none
 ok v a h:=by split at h <;> cases h;rfl
def cStr:Cd (List UInt8) where
 enc:= .str
 dec
  | .str s=>some s
  | _=>none
 ok v a h:=by split at h <;> cases h;rfl
def cAny:Cd AV where
 enc:=id
 dec:=some
 ok v a h:=by cases h;rfl
def cSl {α:Type}(z:Nat)(c:Cd α):Cd (List α) where
 enc l:= .sl z (l.map c.enc)
 dec
  | .sl z' vs=>if z'=z then decL c.dec vs else none
  | _=>none
 ok v a h:=by
  split at h
  ·split at h
   ·next e=>rw[e,decL_ok c _ _ h]
   ·cases h
  ·cases h
abbrev cStrs:Cd (List (List UInt8)):=cSl 1 cStr
def dec2 {α β:Type}(a:Option α)(b:Option β):Option (α×β):=
 match a,b with
 | some x,some y=>some (x,y)
 | _,_=>none
structure CdL (α:Type) where
 enc:α→List AV
 dec:List AV→Option α
 ok:∀v a,dec v=some a→v=enc a
def lNil:CdL Unit where
 enc _:=[]
 dec
  | []=>some ()
  | _=>none
 ok v a h:=by split at h <;> cases h;rfl
def lCons {α β:Type}(c:Cd α)(r:CdL β):CdL (α×β) where
 enc p:=c.enc p.1 :: r.enc p.2
 dec
  | x :: xs=>dec2 (c.dec x) (r.dec xs)
  | []=>none
 ok v a h:=by
  split at h
  ·next x xs=>
   unfold dec2 at h
   split at h
   ·next h1 h2=>cases h;rw[c.ok _ _ h1,r.ok _ _ h2]
   ·cases h
  ·cases h
def lOne {α:Type}(c:Cd α):CdL α where
 enc a:=[c.enc a]
 dec
  | [x]=>c.dec x
  | _=>none
 ok v a h:=by
  split at h
  ·rw[c.ok _ _ h]
  ·cases h
def cAgg {α:Type}(l:CdL α):Cd α where
 enc a:= .agg (l.enc a)
 dec
  | .agg cs=>l.dec cs
  | _=>none
 ok v a h:=by
  split at h
  ·rw[l.ok _ _ h]
  ·cases h
def cRp {α:Type}(l:CdL α):Cd α where
 enc a:= .rp (l.enc a)
 dec
  | .rp cs=>l.dec cs
  | _=>none
 ok v a h:=by
  split at h
  ·rw[l.ok _ _ h]
  ·cases h
def cFn {α:Type}(f:FuncId)(l:CdL α):Cd α where
 enc a:= .fn f (l.enc a)
 dec
  | .fn g cs=>if g=f then l.dec cs else none
  | _=>none
 ok v a h:=by
  split at h
  ·split at h
   ·next e=>rw[e,l.ok _ _ h]
   ·cases h
  ·cases h
def C1.by {D:Type}(ns:List NS)(c:CdL D)(pre:D→Prop)(r:D→AV)(H:D→AH):C1 where
 ns:=ns
 pre as:=match c.dec as with
  | some d=>pre d
  | none=>False
 r as:=match c.dec as with
  | some d=>r d
  | none=> .top
 H as:=match c.dec as with
  | some d=>H d
  | none=>[]
theorem C1OK.by {P:Program}{f:FuncId}{D:Type}{ns:List NS}{c:CdL D}{pre:D→Prop}{r:D→AV}{H:D→AH}(hc:cal P f=true)
 (h:∀d,pre d→CallsR P f (c.enc d) [] (r d) (H d)) (h1:∀d,okRet (r d)=true) (h2:∀d,(H d).all okObj=true):C1OK P f (C1.by ns c pre r H):=by
 refine⟨hc,fun as hp=>?_⟩
 simp only[C1.by] at hp ⊢
 split at hp
 ·next d hd=>rw[c.ok _ _ hd];exact⟨h d hp,h1 d,h2 d⟩
 ·exact hp.elim
def C1.itBy {D:Type}(c:CdL D)(pre:D→Prop)(xs:D→List (List AV)):C1 where
 ns:=[]
 pre as:=match c.dec as with
  | some d=>pre d
  | none=>False
 r _:= .top
 H _:=[]
 it:=true
 xs as:=Tell.seq (match c.dec as with
  | some d=>xs d
  | none=>[])
def C1.itU {D:Type}(c:CdL D)(pre:D→Prop)(X:D→Tell):C1 where
 ns:=[]
 pre as:=match c.dec as with
  | some d=>pre d
  | none=>False
 r _:= .top
 H _:=[]
 it:=true
 xs as:=match c.dec as with
  | some d=>X d
  | none=>Tell.seq []
theorem C1OK.itU {P:Program}{f:FuncId}{D:Type}{c:CdL D}{pre:D→Prop}{X:D→Tell}(hc:cal P f=true)
 (h:∀d,pre d→ItR P f (c.enc d) (X d)):C1OK P f (C1.itU c pre X):=by
 refine⟨hc,fun as hp=>?_⟩
 simp only[C1.itU] at hp ⊢
 split at hp
 ·next d hd=>rw[c.ok _ _ hd];exact h d hp
 ·exact hp.elim
theorem C1OK.itBy {P:Program}{f:FuncId}{D:Type}{c:CdL D}{pre:D→Prop}{xs:D→List (List AV)}(hc:cal P f=true)
 (h:∀d,pre d→ItR P f (c.enc d) (Tell.seq (xs d))):C1OK P f (C1.itBy c pre xs):=by
 refine⟨hc,fun as hp=>?_⟩
 simp only[C1.itBy] at hp ⊢
 split at hp
 ·next d hd=>rw[c.ok _ _ hd];exact h d hp
 ·exact hp.elim
theorem cInt_dec (k:IntKind)(n:Int):(cInt k).dec (.int k n)=some n:=by simp [cInt]
theorem cByte_dec (b:UInt8):cByte.dec (.int .u8 b.toNat)=some b:=by
 have h:=b.toNat_lt
 have h1:(0:Int)≤b.toNat∧(b.toNat:Int)<256:=by omega
 simp only[cByte]
 rw[if_pos h1]
 simp
theorem cBool_dec (b:Bool):cBool.dec (.bool b)=some b:=(rfl)
theorem cStr_dec (s:List UInt8):cStr.dec (.str s)=some s:=(rfl)
theorem cAny_dec (v:AV):cAny.dec v=some v:=(rfl)
theorem cSl_dec {α:Type}(z:Nat)(c:Cd α)(vs:List AV):(cSl z c).dec (.sl z vs)=decL c.dec vs:=by simp [cSl]
theorem cAgg_dec {α:Type}(l:CdL α)(cs:List AV):(cAgg l).dec (.agg cs)=l.dec cs:=(rfl)
theorem cRp_dec {α:Type}(l:CdL α)(cs:List AV):(cRp l).dec (.rp cs)=l.dec cs:=(rfl)
theorem cFn_dec {α:Type}(f:FuncId)(l:CdL α)(cs:List AV):(cFn f l).dec (.fn f cs)=l.dec cs:=by simp [cFn]
theorem lNil_dec:lNil.dec []=some ():=(rfl)
theorem lOne_dec {α:Type}(c:Cd α)(x:AV):(lOne c).dec [x]=c.dec x:=(rfl)
theorem lCons_dec {α β:Type}(c:Cd α)(r:CdL β)(x:AV)(xs:List AV):(lCons c r).dec (x :: xs)=dec2 (c.dec x) (r.dec xs):=(rfl)
theorem dec2_some {α β:Type}(a:α)(b:β):dec2 (some a) (some b)=some (a,b):=(rfl)
theorem decL_nil {α:Type}(g:AV→Option α):decL g []=some []:=(rfl)
def consO {α:Type}:Option α→Option (List α)→Option (List α)
 | some a,some l=>some (a :: l)
 | _,_=>none
theorem decL_cons {α:Type}(g:AV→Option α)(x:AV)(r:List AV):decL g (x :: r)=consO (g x) (decL g r):=by
 simp only[decL,consO]
theorem consO_some {α:Type}(a:α)(l:List α):consO (some a) (some l)=some (a :: l):=(rfl)
theorem decL_str (l:List (List UInt8)):decL cStr.dec (l.map .str)=some l:=decL_map cStr_dec l
theorem decL_enc {α:Type}(c:Cd α)(h:∀a,c.dec (c.enc a)=some a)(l:List α):decL c.dec (l.map c.enc)=some l:=decL_map h l
theorem decL_byte (l:List UInt8):decL cByte.dec (ofBytes l)=some l:=decL_map cByte_dec l
theorem bytesOf_nil:bytesOf []=some []:=(rfl)
theorem C1by_ns {D:Type}{ns:List NS}{c:CdL D}{pre:D→Prop}{r:D→AV}{H:D→AH}:(C1.by ns c pre r H).ns=ns:=(rfl)
def optP {D:Type}(p:D→Prop):Option D→Prop
 | some d=>p d
 | none=>False
def optV {D:Type}(p:D→AV):Option D→AV
 | some d=>p d
 | none=> .top
def optH {D:Type}(p:D→AH):Option D→AH
 | some d=>p d
 | none=>[]
theorem optP_some {D:Type}(p:D→Prop)(d:D):optP p (some d)=p d:=(rfl)
theorem optV_some {D:Type}(p:D→AV)(d:D):optV p (some d)=p d:=(rfl)
theorem optH_some {D:Type}(p:D→AH)(d:D):optH p (some d)=p d:=(rfl)
theorem C1by_pre {D:Type}{ns:List NS}{c:CdL D}{pre:D→Prop}{r:D→AV}{H:D→AH}{as:List AV}:(C1.by ns c pre r H).pre as=optP pre (c.dec as):=by
 simp only[C1.by,optP]
theorem C1by_r {D:Type}{ns:List NS}{c:CdL D}{pre:D→Prop}{r:D→AV}{H:D→AH}{as:List AV}:(C1.by ns c pre r H).r as=optV r (c.dec as):=by
 simp only[C1.by,optV]
theorem C1by_H {D:Type}{ns:List NS}{c:CdL D}{pre:D→Prop}{r:D→AV}{H:D→AH}{as:List AV}:(C1.by ns c pre r H).H as=optH H (c.dec as):=by
 simp only[C1.by,optH]
theorem C1by_it {D:Type}{ns:List NS}{c:CdL D}{pre:D→Prop}{r:D→AV}{H:D→AH}:(C1.by ns c pre r H).it=false:=(rfl)
def optL {D:Type}(p:D→List (List AV)):Option D→List (List AV)
 | some d=>p d
 | none=>[]
theorem optL_some {D:Type}(p:D→List (List AV))(d:D):optL p (some d)=p d:=(rfl)
theorem C1itBy_it {D:Type}{c:CdL D}{pre:D→Prop}{xs:D→List (List AV)}:(C1.itBy c pre xs).it=true:=(rfl)
theorem C1itBy_pre {D:Type}{c:CdL D}{pre:D→Prop}{xs:D→List (List AV)}{as:List AV}:(C1.itBy c pre xs).pre as=optP pre (c.dec as):=by
 simp only[C1.itBy,optP]
theorem C1itBy_xs {D:Type}{c:CdL D}{pre:D→Prop}{xs:D→List (List AV)}{as:List AV}:(C1.itBy c pre xs).xs as=Tell.seq (optL xs (c.dec as)):=by
 simp only[C1.itBy,optL]
def optU {D:Type}(X:D→Tell):Option D→Tell
 | some d=>X d
 | none=>Tell.seq []
theorem optU_some {D:Type}{X:D→Tell}{d:D}:optU X (some d)=X d:=(rfl)
theorem C1itU_it {D:Type}{c:CdL D}{pre:D→Prop}{X:D→Tell}:(C1.itU c pre X).it=true:=(rfl)
theorem C1itU_pre {D:Type}{c:CdL D}{pre:D→Prop}{X:D→Tell}{as:List AV}:(C1.itU c pre X).pre as=optP pre (c.dec as):=by
 simp only[C1.itU,optP]
theorem C1itU_xs {D:Type}{c:CdL D}{pre:D→Prop}{X:D→Tell}{as:List AV}:(C1.itU c pre X).xs as=optU X (c.dec as):=by
 simp only[C1.itU,optU]
theorem C1itU_mu {D:Type}{c:CdL D}{pre:D→Prop}{X:D→Tell}:(C1.itU c pre X).mu=none:=(rfl)
theorem pureB_strs (l:List (List UInt8)):(l.map AV.str).all AV.pureB=true:=by simp [AV.pureB,AV.cells,AV.pureLeaf]
theorem leafy_strs (l:List (List UInt8)):(l.map AV.str).all AV.leafy=true:=by simp [AV.leafy,AV.cells,AV.leaf]
theorem pureB_bytes (l:List UInt8):(ofBytes l).all AV.pureB=true:=by simp [ofBytes,AV.pureB,AV.cells,AV.pureLeaf]
theorem leafy_bytes (l:List UInt8):(ofBytes l).all AV.leafy=true:=by simp [ofBytes,AV.leafy,AV.cells,AV.leaf]
theorem app1_str (l:List (List UInt8))(s:List UInt8):l.map AV.str ++ [.str s]=(l ++ [s]).map .str:=by simp
end Go.Pg
