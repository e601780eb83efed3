/- slices.Delete of the one piece that there is: the walk. What is given by hand for the chapter's example, and that it is right. The chapter's example runs: known() is true. Lists of strings are compared as they are. Chapter 35: lists are compared as they are. -/
import Derived.Test.YtddkekepoimcpaaGreatDoorProg
import Derived.Test.YtddkekepoimcpaaGreatDoorPgCpy
import Derived.Test.YtddkekepoimcpaaGreatDoorPgCut
import Derived.KernelRfl
import Derived.WalkKit
import Derived.Shelf.RegionOpenPlain
import Derived.Deep.LoopGhost
import Derived.Deep.RegionLaw
import Derived.Lib.Walk
import Derived.Sort.WalkB12
import Derived.Lib.SliceRun
import Derived.Test.YtddkekepoimcpaaGreatDoorPgFx1
import Derived.Test.YtddkekepoimcpaaGreatDoorPgGf
import Derived.Test.YtddkekepoimcpaaGreatDoorPgFx0
import Derived.Test.YtddkekepoimcpaaGreatDoorPgBs
import Derived.Test.YtddkekepoimcpaaGreatDoorPgHcd
import Derived.Test.YtddkekepoimcpaaGreatDoorPgLst
set_option linter.unusedVariables false
set_option linter.unusedSimpArgs false
namespace Go.Pg.Le
open Go Go.Pg Go.Proofs Go.RowKit Go.Lib Go.Sort

/-! ### slices.Delete of the one piece that there is -/
set_option maxHeartbeats 4000000 in
set_option maxRecDepth 1000000 in
theorem walk_Delete (b cap : Nat) (c : Array Value) (ty : TypeId) (fz : Nat × Nat) (w : World) (hb : w.heap[b]? = some (.cells c ty fz)) (hcap : 1 ≤ cap) (hm : cap ≤ maxLen) (hsz : c.size = cap * 3) (hth : Thaw fz c.size) :
    Calls Tryz.prog 436 #[.slice (some ⟨b, 0, none⟩) 1 cap, .int .i64 0, .int .i64 1] w fun e w' => e = .returned (.slice (some ⟨b, 0, none⟩) 0 cap) ∧
      w' = w.drew.setRow b (Value.bool false :: Value.int .i64 0 :: Value.int .i64 0 :: c.toList.drop 3).toArray := by
  obtain ⟨i0, z, hi0, hz, hs1, hc1, hv1⟩ : ∃ i0 z, Tryz.prog.info? 179 = some i0 ∧ i0.zero = some z ∧ i0.size = 3 ∧ z.cells.size = 3 ∧ ∀ u ∈ z.cells, u.oneCell' = true := by
    have h : (match Tryz.prog.info? 179 with
      | some i => match i.zero with
        | some z => i.size == 3 && z.cells.size == 3 && z.cells.toList.all Value.oneCell'
        | none => false
      | none => false) = true := by kernel_rfl
    split at h
    · next i hi =>
      split at h
      · next z hz =>
        simp only [Bool.and_eq_true, beq_iff_eq, List.all_eq_true] at h
        exact ⟨i, z, hi, hz, h.1.1, h.1.2, fun u hu => h.2 u (by simpa using hu)⟩
      · cases h
    · cases h
  have u1 := Tryz.underlying219
  have zv := Tryz.zeroValue179
  have hcl : ∀ ty, (Builtin.clear_ #[219] ty #[.slice (some ⟨b, 0, none⟩) 1 cap]).run Tryz.prog w.drew = .ok (.tuple #[]) (w.drew.setRow b (c.toList.take 0 ++ [Value.bool false, Value.int .i64 0, Value.int .i64 0] ++ c.toList.drop 3).toArray) := by
    intro ty'
    have hst := run_storeCells_thaw (P := Tryz.prog) b 0 ty fz [Value.bool false, Value.int .i64 0, Value.int .i64 0] 0 c w.drew hb hth (by simp; omega) (by simp [Value.oneCell'])
    simp only [Nat.zero_add, List.length_cons, List.length_nil] at hst
    have ez : (Builtin.zeroCells (Value.agg #[Value.bool false, Value.int .i64 0, Value.int .i64 0]).cells 1).toList = [Value.bool false, Value.int .i64 0, Value.int .i64 0] := by kernel_rfl
    simp [Builtin.clear_, run_underlying u1, zv, ez, hst]
  have mixed : Tryz.prog.follows .mixedOrders = true := by kernel_rfl
  obtain ⟨A, hA⟩ : ∃ A : Addr, (if cap = 1 then some (⟨b, 0, none⟩ : Addr) else some ⟨b, 3, none⟩) = some A := by split <;> exact ⟨_, rfl⟩
  go_enter Tryz.func436, Tryz.ntmps436
  go_wp2_with fail
  go_region_law_o (refine step_append_room rfl (.tmp 22) (.tmp 25) 219 rfl 179 i0 3 u1 hi0 hs1 b 0 0 cap (by simp [Act.eval, Act.put]) A 0 (cap - 1) [] (by simp [Act.eval, Act.put, hA]) (by simp) (by simp) (by simp) (by omega) (by simp) ?_)
  show Exit.then _ _ Exit.normal _ w.drew
  have hne : ¬ cap = 0 := by omega
  go_wp2
  go_ret
  exact ⟨rfl, rfl⟩

set_option maxHeartbeats 1000000 in
theorem leaf_Delete1 (v : AV) : CallsR Tryz.prog 436 [.own 0 3 1, .int .i64 0, .int .i64 1] [.arr 179 3 [v]] (.own 1 3 0) [.dead, .arr 179 3 []] := by
  intro E vals hr hv
  obtain ⟨u1, u2, u3, rfl, k1, k2, k3⟩ : ∃ u1 u2 u3, vals = #[u1, u2, u3] ∧ VR E (.own 0 3 1) u1 ∧ VR E (.int .i64 0) u2 ∧ VR E (.int .i64 1) u3 := by
    obtain ⟨hs, hv⟩ := hv
    match vals, hs with
    | ⟨[a, b, c]⟩, _ => exact ⟨a, b, c, rfl, hv 0 _ rfl, hv 1 _ rfl, hv 2 _ rfl⟩
  cases k2
  cases k3
  cases k1 with
  | own _ _ _ a cap q1 q2 q3 =>
    have h1 := (q3 1 (by rw [hr.hl]; rfl)).2 rfl
    rcases h1 with ⟨_, h, _⟩ | ⟨b, c, ty, fz, hm, rfl, hcap, hmax, hb, hsz⟩
    · cases h
    obtain ⟨b', c', fz', e1, e2, e3, hth, e5⟩ : ∃ b' c' fz', some b = some b' ∧ E.W.heap[b']? = some (.cells c' 179 fz') ∧ [v].length * 3 ≤ c'.size ∧ Thaw fz' c'.size ∧ True := by
      rcases hr.orow 0 _ _ rfl hm with ⟨h, _⟩ | ⟨b', c', fz', a1, a2, a3, a4, _⟩
      · cases h
      · exact ⟨b', c', fz', a1, a2, a3, a4, trivial⟩
    cases e1
    rw [hb] at e2
    cases e2
    refine (walk_Delete b cap c _ fz E.W hb hcap hmax hsz hth).mono fun e W' ⟨he, hW⟩ => ?_
    have hszz : (Value.bool false :: Value.int .i64 0 :: Value.int .i64 0 :: c.toList.drop 3).toArray.size = c.size := by simp; omega
    have hdr : E.W.drew.heap[b]? = some (.cells c 179 fz) := hb
    have hwb : (E.W.drew.setRow b (Value.bool false :: Value.int .i64 0 :: Value.int .i64 0 :: c.toList.drop 3).toArray).heap[b]? = some (.cells (Value.bool false :: Value.int .i64 0 :: Value.int .i64 0 :: c.toList.drop 3).toArray 179 fz) := setRow_heap E.W.drew b c _ _ fz hdr
    -- the heap with a place for the new object
    obtain ⟨E1, hr1, hW1, hM1, hst1⟩ := hr.le (H' := [.arr 179 3 [v], .arr 179 3 []]) (fun id o ho => by
      cases id with
      | zero => exact ⟨o, ho, .refl o⟩
      | succ n => simp at ho)
    obtain ⟨E2, hW2, hr2, hst2, hM2⟩ := write_gen hr1 (id := 0) (o := .arr 179 3 [v]) (o' := .arr 179 3 [.agg [.top, .top, .top]]) (b := b) rfl rfl (by simp) (by rw [hM1]; exact hm) (w' := W') (by rw [hW, hW1]; exact ⟨rfl, rfl, rfl⟩) (by rw [hW, hW1]; simp) (fun k hk => by rw [hW, hW1]; exact setRow_other E.W.drew b k _ hk)
      (fun c0 ty0 fz0 hk => by
        rw [hW1, hb] at hk
        cases hk
        exact ⟨_, by rw [hW]; exact hwb, hszz⟩) (fun L' h => ⟨L', h, Nat.le_refl _⟩) (fun E' hx hE' => .inr ⟨b, _, fz, rfl, by rw [hE', hW]; exact hwb, by rw [hszz]; simp; omega, by rw [hszz]; exact hth, fun i x hi => by
        match i, hi with
        | i + 1, hi => simp at hi
        | 0, hi =>
          cases hi
          refine ⟨rfl, fun j cc hj => ?_⟩
          match j, hj with
          | 0, hj => cases hj; exact ⟨_, by simp; rfl, .top _⟩
          | 1, hj => cases hj; exact ⟨_, by simp; rfl, .top _⟩
          | 2, hj => cases hj; exact ⟨_, by simp; rfl, .top _⟩
          | j + 3, hj => simp [AV.cells] at hj⟩)
    have hm2 : E2.M 0 = some (some b) := by rw [hM2, hM1]; exact hm
    obtain ⟨E3, hW3, hr3, hst3, _, hM3⟩ := adopt_rel hr2 (id := 0) (nid := 1) (n := 0) (m := some b) (e := 179) (sz := 3) (vs := [.agg [.top, .top, .top]]) rfl hm2 (by rw [hM2, hM1]; exact hr.dom 1 (Nat.le_refl _)) (o' := .arr 179 3 []) rfl (AOle.refl _)
    refine ⟨_, E3, he, by rw [hW3, hW2], .own 1 3 0 _ cap (by rw [hM3]; rfl) (fun h => by cases h) (fun L hL => ?_), hr3, (hst1.trans hst2).trans hst3⟩
    rw [hr3.hl] at hL
    cases hL
    refine ⟨Nat.le_refl _, fun _ => .inr ⟨b, _, _, fz, hM3, rfl, Nat.zero_le _, hmax, by rw [hW3, hW2, hW]; exact hwb, by rw [hszz]; exact hsz⟩⟩
end Go.Pg.Le
namespace Go.Pg.Le
open Go Go.Pg Go.Proofs Go.RowKit

def decPcs : List AV → Option (List Pc)
  | [] => some []
  | .agg [.bool a, .int .i64 b, .int .i64 c] :: r => (decPcs r).map fun l => (a, b, c) :: l
  | _ => none
theorem decPcs_ok : ∀ (vs : List AV) (l : List Pc), decPcs vs = some l → vs = l.map aPc := by
  intro vs
  induction vs with
  | nil => intro l h; cases h; rfl
  | cons v r ih =>
    intro l h
    unfold decPcs at h
    split at h
    · next e => cases e
    · next a b c r' e =>
      cases e
      cases hr : decPcs r with
      | none => rw [hr] at h; cases h
      | some l' => rw [hr] at h; cases h; rw [ih l' hr]; rfl
    · cases h
def decInts : List AV → Option (List Int)
  | [] => some []
  | .int .i64 b :: r => (decInts r).map fun l => b :: l
  | _ => none
theorem decInts_ok : ∀ (vs : List AV) (l : List Int), decInts vs = some l → vs = l.map aInt := by
  intro vs
  induction vs with
  | nil => intro l h; cases h; rfl
  | cons v r ih =>
    intro l h
    unfold decInts at h
    split at h
    · next e => cases e
    · next b r' e =>
      cases e
      cases hr : decInts r with
      | none => rw [hr] at h; cases h
      | some l' => rw [hr] at h; cases h; rw [ih l' hr]; rfl
    · cases h

def hRegs : AH := [.arr 137 1 [.mp 1], .mp (encE cByte cAny regs2)]
def hPos : AH := [.arr 140 1 [.mp 1], .mp []]

def isP0 : List AV → FuncId → Bool
  | [.fn g [.ptr 0 1 1 0 0]], f => Nat.beq g f
  | _, _ => false
theorem isP0_eq {xs : List AV} {f : FuncId} (h : isP0 xs f = true) : xs = [.fn f [.ptr 0 1 1 0 0]] := by
  unfold isP0 at h
  split at h
  · rw [Nat.eq_of_beq_eq_true h]
  · cases h

def kfn (f : FuncId) (xs : List AV) (H : AH) : Option (AV × AH) :=
  match Nat.beq f 309 with
  | true => match xs, H with
    | [.nls, .int .i64 1], [] => some (.own 0 1 0, [.arr 9 1 []])
    | _, _ => none
  | false => match Nat.beq f 436 with
    | true => match xs, H with
      | [.own 0 3 1, .int .i64 0, .int .i64 1], [.arr e 3 [v]] => match Nat.beq e 179 with
        | true => some (.own 1 3 0, [.dead, .arr 179 3 []])
        | false => none
      | _, _ => none
    | false => match Nat.beq f 128 with
      | true => match xs, H with
        | [.own 0 3 0], [.arr e 3 []] => match Nat.beq e 179 with
          | true => some (.sl 3 [], [.arr 179 3 []])
          | false => none
        | _, _ => none
      | false => match Nat.beq f 318 with
        | true => match xs, H with
          | [.mp 0], [.mp es] => some (.mp 1, [.mp es, .mp es])
          | _, _ => none
        | false => match Nat.beq f 84 with
          | true => match isP0 xs 123 && beqAH H hRegs with
            | true => some (.own 2 1 2, hRegs ++ [.arr 5 1 (ofBytes [34, 45])])
            | false => match isP0 xs 125 && beqAH H hPos with
              | true => some (.own 2 1 0, hPos ++ [.arr 5 1 []])
              | false => none
          | false => none

def ktl (f : FuncId) (xs : List AV) : Option (List (List AV)) :=
  match Nat.beq f 299 with
  | true => match xs with
    | [.rp [.sl 3 vs]] => match decPcs vs, Nat.ble vs.length 65536 with
      | some l, true => some (tellPcs 0 l)
      | _, _ => none
    | _ => none
  | false => match Nat.beq f 307 with
    | true => match xs with
      | [.rp [.sl 1 vs]] => match decInts vs, Nat.ble vs.length 65536 with
        | some l, true => some (tellInts 0 l)
        | _, _ => none
      | _ => none
    | false => match Nat.beq f 186 || Nat.beq f 427 with
      | true => match xs with
        | [.rp [.nls]] => some []
        | _ => none
      | false => none

def kL : Lf where
  fn := kfn
  tl := ktl
  kl := fun f => Nat.beq f 309 || Nat.beq f 43
  ext := extL

theorem ItR_nls {P : Program} {g : FuncId} {X : Tell} (h : ItR P g [.rp [.sl 2 []]] X) : ItR P g [.rp [.nls]] X := by
  intro W st lb h1 h2 h3
  refine h W st lb h1 h2 fun i c hc => ?_
  match i, hc with
  | i + 1, hc => simp at hc
  | 0, hc =>
    cases hc
    have := h3 0 _ rfl
    generalize hv : lb.getD 0 Go.undef = v at this
    cases this with
    | rp _ b o f q1 q2 q3 =>
      refine .rp _ b o f (fun _ => q1 (by simp)) (fun j c hj => ?_) (fun j c hj => ?_)
      · match j, hj with
        | j + 1, hj => simp at hj
        | 0, hj => exact q2 0 _ rfl
      · match j, hj with
        | j + 1, hj => simp at hj
        | 0, hj =>
          cases hj
          have := q3 0 _ rfl
          generalize hw : f 0 = w at this
          cases this
          exact .sl 2 [] none 0 (fun _ _ => Go.undef) (Nat.le_refl _) (fun i v hi => by simp at hi) (fun i v j c hi => by simp at hi)

theorem kfn_ok : ∀ fid xs H r H', kfn fid xs H = some (r, H') → CallsR Tryz.prog fid xs H r H' := by
  intro fid xs H r H' h
  unfold kfn at h
  split at h
  · next hf =>
    obtain rfl := Nat.eq_of_beq_eq_true hf
    split at h
    · cases h; exact calls_Grow 1 (by omega) (by omega)
    · cases h
  split at h
  · next hf =>
    obtain rfl := Nat.eq_of_beq_eq_true hf
    split at h
    · next e v =>
      split at h
      · next he =>
        obtain rfl := Nat.eq_of_beq_eq_true he
        cases h; exact leaf_Delete1 v
      · cases h
    · cases h
  split at h
  · next hf =>
    obtain rfl := Nat.eq_of_beq_eq_true hf
    split at h
    · next e =>
      split at h
      · next he =>
        obtain rfl := Nat.eq_of_beq_eq_true he
        cases h; exact leaf_CloneP
      · cases h
    · cases h
  split at h
  · next hf =>
    obtain rfl := Nat.eq_of_beq_eq_true hf
    split at h
    · cases h; exact calls_Clone _
    · cases h
  split at h
  · next hf =>
    obtain rfl := Nat.eq_of_beq_eq_true hf
    split at h
    · next hb =>
      cases h
      simp only [Bool.and_eq_true] at hb
      obtain rfl := isP0_eq hb.1
      obtain rfl := beqAH_eq _ _ hb.2
      exact leaf_SortedR
    · split at h
      · next hb =>
        cases h
        simp only [Bool.and_eq_true] at hb
        obtain rfl := isP0_eq hb.1
        obtain rfl := beqAH_eq _ _ hb.2
        exact leaf_SortedP
      · cases h
  · cases h

theorem ktl_ok : TlOK Tryz.prog ktl := by
  intro fid xs ys h
  unfold ktl at h
  split at h
  · next hf =>
    obtain rfl := Nat.eq_of_beq_eq_true hf
    split at h
    · next vs =>
      split at h
      · next l hd hn =>
        cases h
        obtain rfl := decPcs_ok _ _ hd
        exact it_All_pc l (by have := Nat.le_of_ble_eq_true hn; simpa using this)
      · cases h
    · cases h
  split at h
  · next hf =>
    obtain rfl := Nat.eq_of_beq_eq_true hf
    split at h
    · next vs =>
      split at h
      · next l hd hn =>
        cases h
        obtain rfl := decInts_ok _ _ hd
        exact it_All_int l (by have := Nat.le_of_ble_eq_true hn; simpa using this)
      · cases h
    · cases h
  split at h
  · next hf =>
    split at h
    · cases h
      rcases Bool.or_eq_true .. ▸ hf with hf | hf
      · obtain rfl := Nat.eq_of_beq_eq_true hf
        exact ItR_nls it_All_pos0
      · obtain rfl := Nat.eq_of_beq_eq_true hf
        exact ItR_nls it_Back_pos0
    · cases h
  · cases h

theorem kL_ok : LfOK Tryz.prog kL where
  fn := kfn_ok
  tl := ktl_ok
  idl := fun _ _ _ _ _ h => by cases h
  ext := extL_ok
end Go.Pg.Le
namespace Go.Pg.Le
open Go Go.Pg Go.Proofs Go.RowKit

def c0 : List AV := [.ptr 22 1 1 0 0, .ptr 23 1 1 0 0]
def h0 : AH := [.arr 29 16 [.agg [.nls, .int .i64 (0), .int .i64 (0), .int .i64 (0), .int .i64 (0), .int .i64 (0), .int .i64 (0), .bool false, .int .i64 (0), .nls, .nls, .nls, .nls, .nls, .int .i64 (0), .int .u8 (0)]],
  .arr 5 1 [.int .u8 (120)],
  .arr 9 1 [.str [97, 98]],
  .arr 79 7 [.agg [.ptr 4 32 1 0 0, .ptr 20 14 1 0 0, .ptr 21 4 1 0 0, .int .u8 (0), .nls, .int .u8 (0), .bool false]],
  .arr 106 32 [.agg [.int .i64 (0), .int .i64 (0), .int .i64 (0), .int .i64 (0), .int .u8 (0), .int .u8 (0), .str [], .bool false, .ptr 5 2 1 0 0, .int .i64 (0), .int .i64 (0), .int .i64 (0), .ptr 12 1 1 0 0, .ptr 14 1 1 0 0, .ptr 16 2 1 0 0, .ptr 18 3 1 0 0, .int .i64 (0), .int .i64 (0), .int .i64 (0), .nls, .bool false, .npt, .int .u8 (0), .int .i64 (0), .str [], .str [], .int .u8 (0), .str [], .nls, .bool false, .int .i64 (0), .int .i64 (0)]],
  .arr 136 2 [.agg [.ptr 6 6 1 0 0, .ptr 9 2 1 0 0]],
  .arr 181 6 [.agg [.str [97, 98], .nls, .ptr 7 1 1 0 0, .int .i64 (2), .int .i64 (4095), .int .i64 (0)]],
  .arr 222 1 [.agg [.own 8 3 1]],
  .arr 179 3 [.agg [.bool false, .int .i64 (0), .int .i64 (2)]],
  .arr 186 2 [.agg [.ptr 10 1 1 0 0, .int .i64 (2)]],
  .arr 227 1 [.agg [.own 11 1 1]],
  .arr 3 1 [.int .i64 (0)],
  .arr 139 1 [.agg [.mp 13]],
  .mp [],
  .arr 142 1 [.agg [.mp 15]],
  .mp [],
  .arr 146 2 [.agg [.ptr 17 1 1 0 0, .int .i64 (0)]],
  .arr 190 1 [.agg [.nls]],
  .arr 154 3 [.agg [.ptr 19 1 1 0 0, .int .i64 (0), .npt]],
  .arr 194 1 [.agg [.nls]],
  .arr 110 14 [.agg [.int .i64 (0), .bool false, .bool false, .bool false, .int .u8 (0), .int .i64 (0), .str [], .str [], .int .u8 (0), .str [], .int .i64 (0), .bool false, .int .i64 (0), .bool false]],
  .arr 113 4 [.agg [.nls, .int .i64 (2000), .int .i64 (2000), .int .i64 (20)]],
  .arr 25 1 [.own 1 1 1],
  .arr 48 1 [.ptr 3 7 1 0 0]]
def h1 : AH := [.arr 29 16 [.agg [.nls, .int .i64 (0), .int .i64 (0), .int .i64 (0), .int .i64 (0), .int .i64 (0), .int .i64 (0), .bool false, .int .i64 (0), .nls, .nls, .nls, .nls, .nls, .int .i64 (0), .int .u8 (0)]],
  .arr 5 1 [.int .u8 (120)],
  .arr 9 1 [.str [97, 98]],
  .arr 79 7 [.agg [.ptr 4 32 1 0 0, .ptr 20 14 1 0 0, .ptr 21 4 1 0 0, .int .u8 (0), .nls, .int .u8 (0), .bool false]],
  .arr 106 32 [.agg [.int .i64 (0), .int .i64 (0), .int .i64 (0), .int .i64 (0), .int .u8 (0), .int .u8 (0), .str [], .bool false, .ptr 5 2 1 0 0, .int .i64 (0), .int .i64 (0), .int .i64 (0), .ptr 12 1 1 0 0, .ptr 14 1 1 0 0, .ptr 16 2 1 0 0, .ptr 18 3 1 0 0, .int .i64 (0), .int .i64 (0), .int .i64 (0), .nls, .bool false, .npt, .int .u8 (0), .int .i64 (0), .str [], .str [120], .int .u8 (0), .str [], .nls, .bool true, .int .i64 (0), .int .i64 (0)]],
  .arr 136 2 [.agg [.ptr 6 6 1 0 0, .ptr 9 2 1 0 0]],
  .arr 181 6 [.agg [.str [97, 98], .own 24 1 1, .ptr 7 1 1 0 0, .int .i64 (1), .int .i64 (4095), .int .i64 (2)]],
  .arr 222 1 [.agg [.own 25 3 1]],
  .dead,
  .arr 186 2 [.agg [.ptr 10 1 1 0 0, .int .i64 (1)]],
  .arr 227 1 [.agg [.own 11 1 1]],
  .arr 3 1 [.int .i64 (0)],
  .arr 139 1 [.agg [.mp 13]],
  .mp [(.int .u8 (45), .agg [.int .i64 (0), .sl 1 [.str [97]]]), (.int .u8 (34), .agg [.int .i64 (0), .sl 1 [.str [97]]])],
  .arr 142 1 [.agg [.mp 15]],
  .mp [],
  .arr 146 2 [.agg [.ptr 17 1 1 0 0, .int .i64 (0)]],
  .arr 190 1 [.agg [.nls]],
  .arr 154 3 [.agg [.ptr 19 1 1 0 0, .int .i64 (1), .npt]],
  .arr 194 1 [.agg [.own 26 5 1]],
  .arr 110 14 [.agg [.int .i64 (0), .bool false, .bool false, .bool false, .int .u8 (0), .int .i64 (0), .str [], .str [], .int .u8 (0), .str [], .int .i64 (0), .bool false, .int .i64 (0), .bool false]],
  .arr 113 4 [.agg [.nls, .int .i64 (2000), .int .i64 (2000), .int .i64 (20)]],
  .arr 25 1 [.own 1 1 1],
  .arr 48 1 [.ptr 3 7 1 0 0],
  .arr 5 1 [.int .u8 (98)],
  .arr 179 3 [.agg [.bool true, .int .i64 (0), .int .i64 (1)]],
  .arr 151 5 [.agg [.int .i64 (0), .int .i64 (0), .int .i64 (0), .int .i64 (0), .own 27 3 1]],
  .arr 202 3 [.agg [.int .i64 (0), .own 28 1 1, .own 29 1 1]],
  .arr 9 1 [.str [97, 98]],
  .arr 9 1 [.str [98]]]

def kid (f : FuncId) (k : Nat) (cap : List AV) (H : AH) : Option AH :=
  match Nat.beq f 31 && (Nat.beq k 2 && (beqL cap c0 && beqAH H h0)) with
  | true => some h1
  | false => none
def kL1 : Lf := { kL with idl := kid }

theorem keys_run : ∀ l, chkY Tryz.prog kL 60 Tryz.f31 false 2 c0 h0 l = some (List.replicate 1 l, .tuple [], h1) := by
  intro l
  kernel_rfl

theorem kL1_ok : LfOK Tryz.prog kL1 where
  fn := kfn_ok
  tl := ktl_ok
  ext := extL_ok
  idl := by
    intro f k cap H H1 h
    have h : kid f k cap H = some H1 := h
    unfold kid at h
    split at h
    · next hb =>
      cases h
      simp only [Bool.and_eq_true] at hb
      obtain ⟨b1, b2, b3, b4⟩ := hb
      obtain rfl := Nat.eq_of_beq_eq_true b1
      obtain rfl := Nat.eq_of_beq_eq_true b2
      obtain rfl := beqL_eq _ _ b3
      obtain rfl := beqAH_eq _ _ b4
      exact callsY_chk kL_ok mixed Tryz.func31 rfl (by kernel_rfl) (Nat.le_of_ble_eq_true (by kernel_rfl)) keys_run
    · cases h

theorem known_run : evF Tryz.prog kL1 60 4 [] [] = .ok (.bool true, []) := by kernel_rfl
theorem calls_known : CallsR Tryz.prog 4 [] [] (.bool true) [] := evF_ok kL1_ok mixed _ _ _ _ _ _ known_run
def kKnown : C1 := C1.by [] lNil (fun _ => True) (fun _ => .bool true) (fun _ => [])
theorem ok_known : C1OK Tryz.prog 4 kKnown := C1OK.by (by kernel_rfl) (fun _ _ => calls_known) (fun _ => rfl) (fun _ => rfl)
end Go.Pg.Le
namespace Go.Pg
open Go Go.Proofs

theorem eq_of_takes {a b : List (List UInt8)} (h : a.length = b.length) (ht : a.take a.length = b.take a.length) : a = b := by
  rw [List.take_length] at ht
  rw [h, List.take_length] at ht
  exact ht

theorem take_succ_eq {a b : List (List UInt8)} {i : Nat} (h : a.take i = b.take i) (ha : i < a.length) (hb : i < b.length) (he : a.getD i [] = b.getD i []) : a.take (i + 1) = b.take (i + 1) := by
  simp only [List.getD_eq_getElem?_getD, List.getElem?_eq_getElem ha, List.getElem?_eq_getElem hb, Option.getD_some] at he
  rw [List.take_succ_eq_append_getElem ha, List.take_succ_eq_append_getElem hb, h, he]

def kStrings : C1 := C1.by [.sl 1 [], .sl 1 []] (lCons cStrs (lOne cStrs)) (fun d => d.1.length ≤ 140737488355328 ∧ d.2.length ≤ 140737488355328) (fun d => .bool (d.1 == d.2)) (fun _ => [])
end Go.Pg
namespace Go.Pg
open Go Go.Proofs

abbrev LsR := List (List UInt8)
abbrev RgV := Int × LsR
abbrev lRgV : CdL RgV := lCons (cInt .i64) (lOne cStrs)
abbrev cRgV : Cd RgV := cAgg lRgV
abbrev aRg (r : RgV) : AV := .agg [.int .i64 r.1, .sl 1 (r.2.map .str)]
theorem cRgV_dec (k : Int) (l : LsR) : cRgV.dec (.agg [.int .i64 k, .sl 1 (l.map .str)]) = some (k, l) := by
  show dec2 ((cInt .i64).dec (.int .i64 k)) (cStrs.dec (.sl 1 (l.map .str))) = _
  rw [cInt_dec, cSl_dec, decL_str]; rfl
def lsz (ls : LsR) : Int := (ls.map fun s => (s.length : Int) + 1).sum
/-- Not too many lines. -/
def fitR (ls : LsR) : Prop := ls.length ≤ 1000000 ∧ lsz ls ≤ 1152921504606846976
theorem lsz_take (ls : LsR) (i : Nat) (h : i < ls.length) : lsz (ls.take (i + 1)) = lsz (ls.take i) + ((ls.getD i []).length + 1) := by
  have e : ls.take (i + 1) = ls.take i ++ [ls.getD i []] := by
    rw [List.take_succ_eq_append_getElem h, List.getD_eq_getElem?_getD, List.getElem?_eq_getElem h]; rfl
  rw [e]
  simp only [lsz, List.map_append, List.sum_append, List.map_cons, List.map_nil, List.sum_cons, List.sum_nil]
  omega
theorem lsz_cons (a : List UInt8) (l : LsR) : lsz (a :: l) = (a.length : Int) + 1 + lsz l := by simp [lsz]
theorem lsz_app (a b : LsR) : lsz (a ++ b) = lsz a + lsz b := by simp [lsz]
theorem lsz_nonneg (l : LsR) : 0 ≤ lsz l := by
  induction l with
  | nil => exact Int.le_refl _
  | cons a l ih => rw [lsz_cons]; omega
theorem lsz_take_le (l : LsR) (i : Nat) : 0 ≤ lsz (l.take i) ∧ lsz (l.take i) ≤ lsz l := by
  have h := lsz_app (l.take i) (l.drop i)
  rw [List.take_append_drop] at h
  have h1 := lsz_nonneg (l.take i)
  have h2 := lsz_nonneg (l.drop i)
  omega
theorem lsz_getD (l : LsR) (i : Nat) : ((l.getD i []).length : Int) ≤ lsz l := by
  induction l generalizing i with
  | nil => simp [lsz]
  | cons a l ih =>
    have h0 := lsz_nonneg l
    rw [lsz_cons]
    cases i with
    | zero => simp only [List.getD_cons_zero]; omega
    | succ i => simp only [List.getD_cons_succ]; have := ih i; omega
theorem lsz_fit {ls : LsR} (hs : fitR ls) (i : Nat) (_hi : i ≤ ls.length) : 0 ≤ lsz (ls.take i) ∧ lsz (ls.take i) ≤ 1152921504606846976 := by
  have := lsz_take_le ls i
  have := hs.2
  omega
def kLSize : C1 := C1.by [.sl 1 []] (lOne cStrs) (fun d => fitR d) (fun d => .int .i64 (lsz d)) (fun _ => [])

theorem calls_LSizeR (ls : LsR) (hs : fitR ls) : CallsR Tryz.prog 8 [.sl 1 (ls.map .str)] [] (.int .i64 (lsz ls)) [] := by
  refine callsR_of (mrg := true) (dyn := []) (CtrOK.nil _) mixed Tryz.func8 rfl (by simp [Tryz.ntmps8, AV.cells]) (by kernel_rfl) ?_
  rw [show Tryz.f8.results.toList = [.tmp 2] from by kernel_rfl]
  simp (maxSteps := 4000000) only [go_sem, Int.reduceBEq, Int.reduceBNe, Int.reduceLE, Int.reduceLT, Int.reduceToNat, Nat.reduceAdd, Nat.reduceBEq, Nat.reduceBNe, Nat.reduceEqDiff, Nat.reduceLT, Nat.reduceLeDiff, Nat.reduceMul, Nat.reducePow, Nat.reduceSub, UInt8.reduceOfNat, reduceCtorEq, reduceIte]
  have hl := hs.1
  refine loopH_intro (α := Nat) (fun i => ([(0, .sl 1 (ls.map .str)), (2, .int .i64 0), (3, .int .i64 (lsz (ls.take i))), (4, .int .i64 i)], [])) (fun i => i ≤ ls.length) (fun i => ls.length - i) 0 ?_ ?_ ?_
  · simp
  · simp (maxSteps := 4000000) only [go_sem, Int.reduceBEq, Int.reduceBNe, Int.reduceLE, Int.reduceLT, Int.reduceToNat, Nat.reduceAdd, Nat.reduceBEq, Nat.reduceBNe, Nat.reduceEqDiff, Nat.reduceLT, Nat.reduceLeDiff, Nat.reduceMul, Nat.reducePow, Nat.reduceSub, UInt8.reduceOfNat, reduceCtorEq, reduceIte]
    all_goals simp [lsz]
  · intro i hi
    simp (maxSteps := 4000000) only [go_sem, Int.reduceBEq, Int.reduceBNe, Int.reduceLE, Int.reduceLT, Int.reduceToNat, Nat.reduceAdd, Nat.reduceBEq, Nat.reduceBNe, Nat.reduceEqDiff, Nat.reduceLT, Nat.reduceLeDiff, Nat.reduceMul, Nat.reducePow, Nat.reduceSub, UInt8.reduceOfNat, reduceCtorEq, reduceIte]
    have h1 := lsz_fit hs i hi
    refine ⟨fun h => ⟨⟨by omega, by omega⟩, i + 1, by omega, by omega, ?_⟩, fun h => ?_⟩
    · have h2 := lsz_getD ls i
      have h3 := hs.2
      rw [lsz_take ls i (by omega), wrap64 (n := ((ls.getD i []).length : Int) + 1) (by omega) (by omega), wrap64 (by omega) (by omega), wrap64 (by omega) (by omega)]
      simp
    · have : i = ls.length := by omega
      subst this
      rw [List.take_length]
theorem ok_LSizeR : C1OK Tryz.prog 8 kLSize := C1OK.by (by kernel_rfl) (fun d h => calls_LSizeR d h) (fun _ => rfl) (fun _ => rfl)

abbrev PoV := Int × Int
abbrev aPo (p : PoV) : AV := .agg [.int .i64 p.1, .int .i64 p.2]
theorem getD_aPos (l : List PoV) (i : Nat) : (l.map aPo).getD i (.agg [.int .i64 0, .int .i64 0]) = aPo (l.getD i (0, 0)) := getD_map aPo l i (0, 0)
theorem eq_of_takesG {α : Type} {a b : List α} (h : a.length = b.length) (ht : a.take a.length = b.take a.length) : a = b := by
  rw [List.take_length] at ht
  rw [h, List.take_length] at ht
  exact ht
theorem take_succ_eqG {α : Type} {a b : List α} {i : Nat} (d : α) (h : a.take i = b.take i) (ha : i < a.length) (hb : i < b.length) (he : a.getD i d = b.getD i d) : a.take (i + 1) = b.take (i + 1) := by
  simp only [List.getD_eq_getElem?_getD, List.getElem?_eq_getElem ha, List.getElem?_eq_getElem hb, Option.getD_some] at he
  rw [List.take_succ_eq_append_getElem ha, List.take_succ_eq_append_getElem hb, h, he]

theorem calls_EqS (a b : LsR) (ha : a.length ≤ 140737488355328) (hb : b.length ≤ 140737488355328) :
    CallsR Tryz.prog 11 [.sl 1 (a.map .str), .sl 1 (b.map .str)] [] (.bool (a == b)) [] := by
  refine callsR_of (mrg := true) (dyn := []) (CtrOK.nil _) mixed Tryz.func11 rfl (by simp [Tryz.ntmps11, AV.cells]) (by kernel_rfl) ?_
  rw [show Tryz.f11.results.toList = [.tmp 4] from by kernel_rfl]
  simp (maxSteps := 4000000) only [go_sem, Int.reduceBEq, Int.reduceBNe, Int.reduceLE, Int.reduceLT, Int.reduceToNat, Nat.reduceAdd, Nat.reduceBEq, Nat.reduceBNe, Nat.reduceEqDiff, Nat.reduceLT, Nat.reduceLeDiff, Nat.reduceMul, Nat.reducePow, Nat.reduceSub, UInt8.reduceOfNat, reduceCtorEq, reduceIte]
  refine ⟨fun h => ?_, fun h => ?_⟩
  · symm
    rw [beq_eq_false_iff_ne]
    intro e
    subst e
    simp at h
  have hlen : a.length = b.length := by
    simp at h
    omega
  refine loopH_intro (α := Nat) (fun i => ([(0, .sl 1 (a.map .str)), (1, .sl 1 (b.map .str)), (4, .bool false), (12, .int .i64 a.length), (13, .int .i64 i)], [])) (fun i => i ≤ a.length ∧ a.take i = b.take i) (fun i => a.length - i) 0 ?_ ?_ ?_
  · simp
  · simp (maxSteps := 4000000) only [go_sem, Int.reduceBEq, Int.reduceBNe, Int.reduceLE, Int.reduceLT, Int.reduceToNat, Nat.reduceAdd, Nat.reduceBEq, Nat.reduceBNe, Nat.reduceEqDiff, Nat.reduceLT, Nat.reduceLeDiff, Nat.reduceMul, Nat.reducePow, Nat.reduceSub, UInt8.reduceOfNat, reduceCtorEq, reduceIte]
    all_goals simp
  · intro i hi
    simp (maxSteps := 4000000) only [go_sem, Int.reduceBEq, Int.reduceBNe, Int.reduceLE, Int.reduceLT, Int.reduceToNat, Nat.reduceAdd, Nat.reduceBEq, Nat.reduceBNe, Nat.reduceEqDiff, Nat.reduceLT, Nat.reduceLeDiff, Nat.reduceMul, Nat.reducePow, Nat.reduceSub, UInt8.reduceOfNat, reduceCtorEq, reduceIte]
    refine ⟨fun h1 => ⟨⟨by omega, by omega⟩, ⟨by omega, by omega⟩, fun h2 => ?_, fun h2 => ⟨i + 1, ⟨by omega, take_succ_eq hi.2 (by omega) (by omega) (by simpa using h2)⟩, by omega, by rw [wrap64 (by omega) (by omega)]; omega⟩⟩, fun h1 => ?_⟩
    · symm
      rw [beq_eq_false_iff_ne]
      intro e
      subst e
      simp at h2
    · symm
      rw [beq_iff_eq]
      have : i = a.length := by omega
      subst this
      exact eq_of_takes hlen hi.2
theorem ok_EqS : C1OK Tryz.prog 11 kStrings :=
  C1OK.by (by kernel_rfl) (fun d h => calls_EqS d.1 d.2 h.1 h.2) (fun _ => rfl) (fun _ => rfl)

theorem calls_EqB (a b : List UInt8) (ha : a.length ≤ 140737488355328) (hb : b.length ≤ 140737488355328) :
    CallsR Tryz.prog 12 [.sl 1 (ofBytes a), .sl 1 (ofBytes b)] [] (.bool (a == b)) [] := by
  refine callsR_of (mrg := true) (dyn := []) (CtrOK.nil _) mixed Tryz.func12 rfl (by simp [Tryz.ntmps12, AV.cells]) (by kernel_rfl) ?_
  rw [show Tryz.f12.results.toList = [.tmp 4] from by kernel_rfl]
  simp (maxSteps := 4000000) only [go_sem, Int.reduceBEq, Int.reduceBNe, Int.reduceLE, Int.reduceLT, Int.reduceToNat, Nat.reduceAdd, Nat.reduceBEq, Nat.reduceBNe, Nat.reduceEqDiff, Nat.reduceLT, Nat.reduceLeDiff, Nat.reduceMul, Nat.reducePow, Nat.reduceSub, UInt8.reduceOfNat, reduceCtorEq, reduceIte, length_ofBytes]
  refine ⟨fun h => ?_, fun h => ?_⟩
  · symm
    rw [beq_eq_false_iff_ne]
    intro e
    subst e
    simp at h
  have hlen : a.length = b.length := by
    simp at h
    omega
  refine loopH_intro (α := Nat) (fun i => ([(0, .sl 1 (ofBytes a)), (1, .sl 1 (ofBytes b)), (4, .bool false), (12, .int .i64 a.length), (13, .int .i64 i)], [])) (fun i => i ≤ a.length ∧ a.take i = b.take i) (fun i => a.length - i) 0 ?_ ?_ ?_
  · simp
  · simp (maxSteps := 4000000) only [go_sem, Int.reduceBEq, Int.reduceBNe, Int.reduceLE, Int.reduceLT, Int.reduceToNat, Nat.reduceAdd, Nat.reduceBEq, Nat.reduceBNe, Nat.reduceEqDiff, Nat.reduceLT, Nat.reduceLeDiff, Nat.reduceMul, Nat.reducePow, Nat.reduceSub, UInt8.reduceOfNat, reduceCtorEq, reduceIte, length_ofBytes]
    all_goals simp
  · intro i hi
    simp (maxSteps := 4000000) only [go_sem, Int.reduceBEq, Int.reduceBNe, Int.reduceLE, Int.reduceLT, Int.reduceToNat, Nat.reduceAdd, Nat.reduceBEq, Nat.reduceBNe, Nat.reduceEqDiff, Nat.reduceLT, Nat.reduceLeDiff, Nat.reduceMul, Nat.reducePow, Nat.reduceSub, UInt8.reduceOfNat, reduceCtorEq, reduceIte, length_ofBytes]
    refine ⟨fun h1 => ⟨⟨by omega, by omega⟩, ⟨by omega, by omega⟩, fun h2 => ?_, fun h2 => ⟨i + 1, ⟨by omega, take_succ_eqG 0 hi.2 (by omega) (by omega) (UInt8.toNat_inj.1 (Int.ofNat_inj.1 (by simpa using h2)))⟩, by omega, by rw [wrap64 (by omega) (by omega)]; omega⟩⟩, fun h1 => ?_⟩
    · symm
      rw [beq_eq_false_iff_ne]
      intro e
      subst e
      simp at h2
    · symm
      rw [beq_iff_eq]
      have : i = a.length := by omega
      subst this
      exact eq_of_takesG hlen hi.2
abbrev cBytes : Cd (List UInt8) := cSl 1 cByte
def kEqB : C1 := C1.by [.sl 1 [], .sl 1 []] (lCons cBytes (lOne cBytes)) (fun d => d.1.length ≤ 140737488355328 ∧ d.2.length ≤ 140737488355328) (fun d => .bool (d.1 == d.2)) (fun _ => [])
theorem ok_EqB : C1OK Tryz.prog 12 kEqB :=
  C1OK.by (by kernel_rfl) (fun d h => calls_EqB d.1 d.2 h.1 h.2) (fun _ => rfl) (fun _ => rfl)

theorem calls_EqP (a b : List PoV) (ha : a.length ≤ 140737488355328) (hb : b.length ≤ 140737488355328) :
    CallsR Tryz.prog 15 [.sl 2 (a.map aPo), .sl 2 (b.map aPo)] [] (.bool (a == b)) [] := by
  refine callsR_of (mrg := true) (dyn := []) (CtrOK.nil _) mixed Tryz.func15 rfl (by simp [Tryz.ntmps15, AV.cells]) (by kernel_rfl) ?_
  rw [show Tryz.f15.results.toList = [.tmp 4] from by kernel_rfl]
  simp (maxSteps := 4000000) only [go_sem, Int.reduceBEq, Int.reduceBNe, Int.reduceLE, Int.reduceLT, Int.reduceToNat, Nat.reduceAdd, Nat.reduceBEq, Nat.reduceBNe, Nat.reduceEqDiff, Nat.reduceLT, Nat.reduceLeDiff, Nat.reduceMul, Nat.reducePow, Nat.reduceSub, UInt8.reduceOfNat, reduceCtorEq, reduceIte, getD_aPos, aPo]
  refine ⟨fun h => ?_, fun h => ?_⟩
  · symm
    rw [beq_eq_false_iff_ne]
    intro e
    subst e
    simp at h
  have hlen : a.length = b.length := by
    simp at h
    omega
  refine loopH_intro (α := Nat) (fun i => ([(0, .sl 2 (a.map aPo)), (1, .sl 2 (b.map aPo)), (4, .bool false), (12, .int .i64 a.length), (13, .int .i64 i)], [])) (fun i => i ≤ a.length ∧ a.take i = b.take i) (fun i => a.length - i) 0 ?_ ?_ ?_
  · simp
  · simp (maxSteps := 4000000) only [go_sem, Int.reduceBEq, Int.reduceBNe, Int.reduceLE, Int.reduceLT, Int.reduceToNat, Nat.reduceAdd, Nat.reduceBEq, Nat.reduceBNe, Nat.reduceEqDiff, Nat.reduceLT, Nat.reduceLeDiff, Nat.reduceMul, Nat.reducePow, Nat.reduceSub, UInt8.reduceOfNat, reduceCtorEq, reduceIte, getD_aPos, aPo]
    all_goals simp
  · intro i hi
    simp (maxSteps := 4000000) only [go_sem, Int.reduceBEq, Int.reduceBNe, Int.reduceLE, Int.reduceLT, Int.reduceToNat, Nat.reduceAdd, Nat.reduceBEq, Nat.reduceBNe, Nat.reduceEqDiff, Nat.reduceLT, Nat.reduceLeDiff, Nat.reduceMul, Nat.reducePow, Nat.reduceSub, UInt8.reduceOfNat, reduceCtorEq, reduceIte, getD_aPos, aPo]
    refine ⟨fun h1 => ⟨⟨by omega, by omega⟩, ⟨by omega, by omega⟩, fun h2 => ?_, fun h2 => ⟨i + 1, ⟨by omega, take_succ_eqG (0, 0) hi.2 (by omega) (by omega) ?_⟩, by omega, by rw [wrap64 (by omega) (by omega)]; omega⟩⟩, fun h1 => ?_⟩
    · symm
      rw [beq_eq_false_iff_ne]
      intro e
      subst e
      simp at h2
    · simp only [Bool.not_eq_false', Bool.and_eq_true, beq_iff_eq] at h2
      exact Prod.ext h2.1 h2.2
    · symm
      rw [beq_iff_eq]
      have : i = a.length := by omega
      subst this
      exact eq_of_takesG hlen hi.2
abbrev lPo : CdL PoV := lCons (cInt .i64) (lOne (cInt .i64))
abbrev cPo : Cd PoV := cAgg lPo
theorem cPo_dec (a b : Int) : cPo.dec (.agg [.int .i64 a, .int .i64 b]) = some (a, b) := by
  show dec2 ((cInt .i64).dec (.int .i64 a)) ((cInt .i64).dec (.int .i64 b)) = _
  rw [cInt_dec, cInt_dec]; rfl
theorem decL_aPo (l : List PoV) : decL cPo.dec (l.map aPo) = some l := decL_map (fun p => cPo_dec p.1 p.2) l
def kEqP : C1 := C1.by [.sl 2 [], .sl 2 []] (lCons (cSl 2 cPo) (lOne (cSl 2 cPo))) (fun d => d.1.length ≤ 140737488355328 ∧ d.2.length ≤ 140737488355328) (fun d => .bool (d.1 == d.2)) (fun _ => [])
theorem ok_EqP : C1OK Tryz.prog 15 kEqP :=
  C1OK.by (by kernel_rfl) (fun d h => calls_EqP d.1 d.2 h.1 h.2) (fun _ => rfl) (fun _ => rfl)

/-! ### Registers -/
theorem calls_reg (a b : RgV) (ha : a.2.length ≤ 140737488355328) (hb : b.2.length ≤ 140737488355328) :
    CallsR Tryz.prog 14 [aRg a, aRg b] [] (.bool (a == b)) [] := by
  obtain ⟨k, l⟩ := a
  obtain ⟨k2, l2⟩ := b
  refine callsR_of (mrg := true) (dyn := []) (CtrOK.cons ok_EqS (CtrOK.nil _)) mixed Tryz.func14 rfl (by simp [Tryz.ntmps14, AV.cells]) (by kernel_rfl) ?_
  rw [show Tryz.f14.results.toList = [.tmp 4] from by kernel_rfl]
  simp (maxSteps := 4000000) only [go_sem, Int.reduceBEq, Int.reduceBNe, Int.reduceLE, Int.reduceLT, Int.reduceToNat, Nat.reduceAdd, Nat.reduceBEq, Nat.reduceBNe, Nat.reduceEqDiff, Nat.reduceLT, Nat.reduceLeDiff, Nat.reduceMul, Nat.reducePow, Nat.reduceSub, UInt8.reduceOfNat, reduceCtorEq, reduceIte, kStrings, aRg]
  exact ⟨fun h => ⟨h, ha, hb⟩, rfl⟩
def kReg : C1 := C1.by [.ag [none, some 1], .ag [none, some 1]] (lCons cRgV (lOne cRgV)) (fun d => d.1.2.length ≤ 140737488355328 ∧ d.2.2.length ≤ 140737488355328) (fun d => .bool (d.1 == d.2)) (fun _ => [])
theorem ok_reg : C1OK Tryz.prog 14 kReg := C1OK.by (by kernel_rfl) (fun d h => calls_reg d.1 d.2 h.1 h.2) (fun _ => rfl) (fun _ => rfl)

/-- A register whose lines may be none at all. -/
abbrev RgN := Int × Option LsR
def aRgN (r : RgN) : AV := .agg [.int .i64 r.1, match r.2 with
  | some l => .sl 1 (l.map .str)
  | none => .nls]
def rgv (r : RgN) : RgV := (r.1, r.2.getD [])
def lift (r : RgV) : RgN := (r.1, some r.2)
theorem aRgN_lift (l : List RgV) : (l.map lift).map aRgN = l.map aRg := by simp [lift, aRgN, Function.comp_def]
def cRgN : Cd RgN where
  enc := aRgN
  dec
    | .agg [.int .i64 k, .nls] => some (k, none)
    | .agg [.int .i64 k, .sl 1 vs] => (decL cStr.dec vs).map fun l => (k, some l)
    | _ => none
  ok v a h := by
    split at h
    · cases h; rfl
    · next k vs =>
      cases hd : decL cStr.dec vs with
      | none => rw [hd] at h; cases h
      | some l => rw [hd] at h; cases h; rw [decL_ok cStr _ _ hd]; rfl
    · cases h
theorem cRgN_nil (k : Int) : cRgN.dec (.agg [.int .i64 k, .nls]) = some (k, none) := rfl
theorem cRgN_sl (k : Int) (l : LsR) : cRgN.dec (.agg [.int .i64 k, .sl 1 (l.map .str)]) = some (k, some l) := by
  show (decL cStr.dec (l.map .str)).map _ = _
  rw [decL_str]; rfl
theorem cRgN_ed (r : RgN) : cRgN.dec (aRgN r) = some r := by
  obtain ⟨k, o⟩ := r
  cases o with
  | none => rfl
  | some l => exact cRgN_sl k l
theorem decL_aRgN (l : List RgN) : decL cRgN.dec (l.map aRgN) = some l := decL_map cRgN_ed l

theorem getD_aRgN (l : List RgN) (i : Nat) : (l.map aRgN).getD i (.agg [.int .i64 0, .sl 1 []]) = aRgN (l.getD i (0, some [])) := getD_map aRgN l i (0, some [])
def fitRs (l : List RgN) : Prop := l.length ≤ 140737488355328 ∧ ∀ r ∈ l, (rgv r).2.length ≤ 140737488355328
theorem fitRs_getD {l : List RgN} (h : fitRs l) (i : Nat) : (rgv (l.getD i (0, some []))).2.length ≤ 140737488355328 := by
  rw [List.getD_eq_getElem?_getD]
  cases hi : l[i]? with
  | none => simp [rgv]
  | some r => exact h.2 r (List.mem_of_getElem? hi)
theorem take_step {a b : List RgN} {i : Nat} (h : (a.take i).map rgv = (b.take i).map rgv) (ha : i < a.length) (hb : i < b.length) (he : rgv (a.getD i (0, some [])) = rgv (b.getD i (0, some []))) : (a.take (i + 1)).map rgv = (b.take (i + 1)).map rgv := by
  simp only [List.getD_eq_getElem?_getD, List.getElem?_eq_getElem ha, List.getElem?_eq_getElem hb, Option.getD_some] at he
  rw [List.take_succ_eq_append_getElem ha, List.take_succ_eq_append_getElem hb, List.map_append, List.map_append, h]
  simp [he]
theorem map_getD (l : List RgN) (i : Nat) : (l.map rgv).getD i (0, []) = rgv (l.getD i (0, some [])) := getD_map rgv l i (0, some [])

set_option maxHeartbeats 4000000 in
theorem calls_EqF (a b : List RgN) (ha : fitRs a) (hb : fitRs b) :
    CallsR Tryz.prog 13 [.sl 2 (a.map aRgN), .sl 2 (b.map aRgN), .fn 14 []] [] (.bool (a.map rgv == b.map rgv)) [] := by
  have ha1 := ha.1
  have hb1 := hb.1
  refine callsR_of (mrg := true) (dyn := []) (CtrOK.cons ok_reg (CtrOK.nil _)) mixed Tryz.func13 rfl (by simp [Tryz.ntmps13, AV.cells]) (by kernel_rfl) ?_
  rw [show Tryz.f13.results.toList = [.tmp 6] from by kernel_rfl]
  simp (maxSteps := 4000000) only [go_sem, Int.reduceBEq, Int.reduceBNe, Int.reduceLE, Int.reduceLT, Int.reduceToNat, Nat.reduceAdd, Nat.reduceBEq, Nat.reduceBNe, Nat.reduceEqDiff, Nat.reduceLT, Nat.reduceLeDiff, Nat.reduceMul, Nat.reducePow, Nat.reduceSub, UInt8.reduceOfNat, reduceCtorEq, reduceIte, kReg]
  refine ⟨fun h => ?_, fun h => ?_⟩
  · symm
    rw [beq_eq_false_iff_ne]
    intro e
    have := congrArg List.length e
    simp at this
    simp [this] at h
  have hlen : a.length = b.length := by
    simp at h
    omega
  refine loopH_intro (α := Nat) (fun i => ([(1, .sl 2 (b.map aRgN)), (2, .fn 14 []), (6, .bool false), (15, .sl 2 (a.map aRgN)), (16, .int .i64 a.length), (17, .int .i64 i)], [])) (fun i => i ≤ a.length ∧ (a.take i).map rgv = (b.take i).map rgv) (fun i => a.length - i) 0 ?_ ?_ ?_
  · simp
  · simp (maxSteps := 4000000) only [go_sem, Int.reduceBEq, Int.reduceBNe, Int.reduceLE, Int.reduceLT, Int.reduceToNat, Nat.reduceAdd, Nat.reduceBEq, Nat.reduceBNe, Nat.reduceEqDiff, Nat.reduceLT, Nat.reduceLeDiff, Nat.reduceMul, Nat.reducePow, Nat.reduceSub, UInt8.reduceOfNat, reduceCtorEq, reduceIte, kReg]
    all_goals simp
  · intro i hi
    by_cases hlt : i < a.length
    · have hct : decide ((i : Int) < (a.length : Int)) = true := decide_eq_true (by omega)
      have ga := getD_aRgN a i
      have gb := getD_aRgN b i
      have fa := fitRs_getD ha i
      have fb := fitRs_getD hb i
      have hstep := take_step hi.2 hlt (by omega)
      have hab : rgv (a.getD i (0, some [])) ≠ rgv (b.getD i (0, some [])) → a.map rgv ≠ b.map rgv := fun h e => h (by rw [← map_getD, ← map_getD, e])
      generalize a.getD i (0, some []) = x at ga fa hstep hab
      generalize b.getD i (0, some []) = y at gb fb hstep hab
      obtain ⟨x1, x2⟩ := x
      obtain ⟨y1, y2⟩ := y
      have fin : ∀ l1 l2 : LsR, (∀ z : LsR, rgv (x1, x2) = (x1, l1)) → (∀ z : LsR, rgv (y1, y2) = (y1, l2)) →
          (((x1, l1) == (y1, l2)) = false → false = (a.map rgv == b.map rgv)) ∧ ((!(x1, l1) == (y1, l2)) = false → ∃ y, (y ≤ a.length ∧ (a.take y).map rgv = (b.take y).map rgv) ∧ a.length - y < a.length - i ∧ IntKind.i64.wrap ((i : Int) + 1) = (y : Int)) := by
        intro l1 l2 e1 e2
        refine ⟨fun h2 => ?_, fun h2 => ⟨i + 1, ⟨by omega, hstep ?_⟩, by omega, by rw [wrap64 (by omega) (by omega)]; omega⟩⟩
        · symm
          rw [beq_eq_false_iff_ne] at h2 ⊢
          exact hab (by rw [e1 [], e2 []]; exact h2)
        · rw [Bool.not_eq_false'] at h2
          rw [e1 [], e2 []]
          exact eq_of_beq h2
      cases x2 <;> cases y2
      all_goals
        simp only [aRgN] at ga gb
        simp (maxSteps := 4000000) only [go_sem, Int.reduceBEq, Int.reduceBNe, Int.reduceLE, Int.reduceLT, Int.reduceToNat, Nat.reduceAdd, Nat.reduceBEq, Nat.reduceBNe, Nat.reduceEqDiff, Nat.reduceLT, Nat.reduceLeDiff, Nat.reduceMul, Nat.reducePow, Nat.reduceSub, UInt8.reduceOfNat, reduceCtorEq, reduceIte, kReg, hct, ga, gb, cRgV_dec]
      all_goals
        refine ⟨⟨by omega, hlt⟩, ⟨by omega, by omega⟩, ?_⟩
        first
          | exact fin _ _ (fun _ => rfl) (fun _ => rfl)
          | exact ⟨fa, fin _ _ (fun _ => rfl) (fun _ => rfl)⟩
          | exact ⟨fb, fin _ _ (fun _ => rfl) (fun _ => rfl)⟩
          | exact ⟨⟨fa, fb⟩, fin _ _ (fun _ => rfl) (fun _ => rfl)⟩
    · have hct : decide ((i : Int) < (a.length : Int)) = false := decide_eq_false (by omega)
      simp (maxSteps := 4000000) only [go_sem, Int.reduceBEq, Int.reduceBNe, Int.reduceLE, Int.reduceLT, Int.reduceToNat, Nat.reduceAdd, Nat.reduceBEq, Nat.reduceBNe, Nat.reduceEqDiff, Nat.reduceLT, Nat.reduceLeDiff, Nat.reduceMul, Nat.reducePow, Nat.reduceSub, UInt8.reduceOfNat, reduceCtorEq, reduceIte, kReg, hct]
      have : i = a.length := by omega
      subst this
      symm
      rw [beq_iff_eq]
      have h2 := hi.2
      rw [List.take_length] at h2
      rw [hlen, List.take_length] at h2
      exact h2
def kEqF : C1 := C1.by [.sl 2 [], .sl 2 [], .id] (lCons (cSl 2 cRgN) (lCons (cSl 2 cRgN) (lOne (cFn 14 lNil)))) (fun d => fitRs d.1 ∧ fitRs d.2.1) (fun d => .bool (d.1.map rgv == d.2.1.map rgv)) (fun _ => [])
theorem ok_EqF : C1OK Tryz.prog 13 kEqF :=
  C1OK.by (by kernel_rfl) (fun d h => calls_EqF d.1 d.2.1 h.1 h.2) (fun _ => rfl) (fun _ => rfl)
end Go.Pg
