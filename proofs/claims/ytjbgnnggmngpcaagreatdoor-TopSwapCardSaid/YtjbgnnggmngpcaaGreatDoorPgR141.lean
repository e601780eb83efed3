/- The statement TopSwapCardSaid holds: a line that is cut and put again goes one further down, and comes back by P. For every input, what the listed package-level variables hold being what the program's text lays. -/
import Derived.Test.YtjbgnnggmngpcaaGreatDoorPgHx9
import Derived.Test.YtjbgnnggmngpcaaGreatDoorPgRb
import Derived.Test.YtjbgnnggmngpcaaGreatDoorTie
import Derived.Test.YtjbgnnggmngpcaaGreatDoorCards
import Derived.Lay
import Derived.LaidMore
import Derived.SevenTiedAt
import Derived.Test.YtjbgnnggmngpcaaGreatDoorPgGz
import Derived.Test.YtjbgnnggmngpcaaGreatDoorPgGy
set_option linter.unusedVariables false
set_option linter.unusedSimpArgs false
set_option linter.unusedSectionVars false
namespace Go.Proofs.YtjbgnnggmngpcaaGreatDoor
open Go Go.Pg
instance symsNil:Syms:=Le.sNil
set_option maxRecDepth 100000 in
theorem topSwap_lifted (os:Os)(started:os.Started)(H:Type)(enc:TypeId×Value→H) :
 ReturnsInHanded {} Tryz.checked os 3 .any (fun w args=>(Rows.topSwapSpec.pre enc Tryz.prog Tryz.f3 [] false w args∧laidMetH Tryz.prog Rows.topSwapRow.laid w)∧sizedMet enc Tryz.prog Tryz.f3 (OpenSpec.ofChange Rows.topSwapSpec) false w args)
  (Rows.topSwapSpec.post enc Tryz.prog Tryz.f3 false true false false):=by
 refine row_of_laid (X:=fun w=>laidMetH Tryz.prog Rows.topSwapRow.laid w) (fun _ _ hh h=>h.of_heap hh) (P:=Tryz.prog) (C:=Tryz.checked) (tb:=4) rfl Tryz.own started (by kernel_rfl) Tryz.func3
  (ChangeSpec.witness_shaped (enc:=enc) (C:=Tryz.checked) (os:=os) (X:=fun w _=>laidMetH Tryz.prog Rows.topSwapRow.laid w) false (World.laidAll Tryz.prog os Rows.topSwapRow.laid) #[.slice none 0 0,.int .u8 0] 8 (World.laidAll_os _ _ _)
    (World.shaped_of_ZipB (by kernel_rfl) (by kernel_rfl)) (by kernel_rfl) (by kernel_rfl) (by kernel_rfl)
    (by rw[MakeChecks.laidMetH_plain _ _ _ (by kernel_rfl)];exact laidMet_laidAll _ (by kernel_rfl) (by kernel_rfl)))
  rfl (by kernel_rfl) Tryz.underlying4 ?_ laidOut (by kernel_rfl) ?_
 ·intro ds hds
  rw[Tryz.params3] at hds
  match ds,hds with
  | [_,_],_=>exact⟨rfl,rfl,rfl⟩
 ·intro W base vs ds p h
  rw[Tryz.params3] at h
  obtain⟨v0,vs,_,_,_,_,rfl,i0,h⟩:=h.cons
  obtain⟨v1,vs,_,_,_,_,rfl,i1,h⟩:=h.cons
  obtain rfl:=h.nil
  obtain⟨n0,a0,b0⟩:=i0.bytes Tryz.underlying22 Tryz.underlying5 (by kernel_rfl) (by kernel_rfl)
  obtain⟨n1,a1⟩:=i1.byte Tryz.underlying5
  exact⟨_,calls_TopSwap n0 n1,.cons a0 (.cons a1 .nil)⟩
theorem topSwap_holds:Rows.TopSwapSaid:=
 OpenClaim.holds_of_wide 3 Tryz.f3 rfl rfl rfl rfl rfl rfl rfl ⟨rfl,rfl,rfl,rfl,rfl⟩ rfl rfl rfl rfl rfl (by kernel_rfl) Tryz.func3 topSwap_closed
  (of_decide_eq_true (by kernel_rfl)) (by unfold Func.isWrapper;rw[if_neg (by decide +kernel)];exact⟨rfl,rfl⟩)
  (fun os started H enc _=>topSwap_lifted os started H enc)
theorem topSwap_card:Rows.TopSwapCardSaid:=
 Claim7.holds_tied_plain_at .later [] [.data,.pinned] true (true, "9a6c05035d335df8c8173364429c11a609ab0f27de4e0857deaefc46403fe535") true topSwap_holds (fun _ h=>by cases h) (by kernel_rfl) (fun _ h=>by cases h) topSwap_row_tie rfl ⟨rfl,rfl⟩ (by kernel_rfl) rfl
  (fun f fn hf hfn=>by
    obtain rfl:f=3:=Option.some.inj ((show Tryz.prog.funcNamed "foolscap/foolscaptop.TopSwap" =some 3 by kernel_rfl).symm.trans hf) |>.symm
    obtain rfl:fn=Tryz.f3:=(Option.some.inj (Tryz.func3.symm.trans hfn)).symm
    exact⟨by kernel_rfl,fun j t ht=>by
     have hall:(Tryz.f3.params.toList.all fun u=>!Tryz.prog.wantsStandIn u)=true:=by kernel_rfl
     have hm:t∈Tryz.f3.params.toList:=by simpa using Array.mem_of_getElem? ht
     exact(show Tryz.prog.wantsStandIn t=false by simpa using List.all_eq_true.1 hall t hm)⟩)
  (goesBy_none (by kernel_rfl) rfl)
end Go.Proofs.YtjbgnnggmngpcaaGreatDoor
