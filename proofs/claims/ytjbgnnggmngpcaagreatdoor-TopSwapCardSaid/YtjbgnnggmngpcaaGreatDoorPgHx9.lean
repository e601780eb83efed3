/- A new engine. (Printed by mkfw.py.) The key j. (Printed by mkfw.py.) The keys d, d, p. (Printed by mkfw.py.) The keys d, d, P. (Printed by mkfw.py.) State is told. (Printed by mkfw.py.) The text is told. (Printed by mkfw.py.) foolscapseat.Text: lines of a table. TopSwap: whatever the text and the place. -/
import Derived.Test.YtjbgnnggmngpcaaGreatDoorPgZab
import Derived.Test.YtjbgnnggmngpcaaGreatDoorPgHx3
import Derived.Test.YtjbgnnggmngpcaaGreatDoorPgHx7
import Derived.Test.YtjbgnnggmngpcaaGreatDoorPgHx8
set_option linter.unusedVariables false
set_option linter.unusedSimpArgs false
set_option linter.unusedSectionVars false
open List renaming length_take → Qa,not_mem_nil → Qb,getD_eq_getElem?_getD → Qc,mem_cons → Qd,length_drop → Qe,getElem?_eq_getElem → Qf,length_append → Qg,getElem?_map → Qh,length_cons → Qi,all_cons → Qj,all_nil → Ql,length_nil → Qm,getElem?_eq_none → Qp,mem_map → Qq,map_append → Qr,length_map → Qs,mem_range → Qt
open Bool renaming and_self → Qk,and_true → Qo,true_and → Qu
open Int renaming tmod_eq_emod_of_nonneg → Qn
namespace Go.Pg
open Go Go.Proofs
theorem tamen (A A2:Tb.Bs)(c0 c1 c2:List Pc)(t0 t1 t2:List Int):tameAs [⟨5,1,ofBytes A⟩,⟨209,3,c0.map aPc⟩,⟨3,1,t0.map bInt⟩,⟨209,3,c1.map aPc⟩,⟨3,1,t1.map bInt⟩,⟨5,1,ofBytes A2⟩,⟨209,3,c2.map aPc⟩,⟨3,1,t2.map bInt⟩]=true:=by
 simp only[tameAs,Qj,Ql,tame_bytes,tame_pcs,tame_bints,Qk]
@[reducible] def sn (F s t A A2:Tb.Bs) (ls l1 l2 p0 q0 p1 q1 p2 q2:List Tb.Bs) (c0 c1 c2:List Pc) (t0 t1 t2:List Int) (k n sl tl fc fs top size top2 ed ah:Int):Syms:=
 mkS [.nls,.str s,.str t,.int .i64 ah,.nls,.nls,.nls,.nls,.nls,.nls,.str F,.nls,.nls,.nls,.nls,.nls,.nls,.nls,.nls,.nls,.sl 1 (ls.map .str),.sl 1 (l1.map .str),.sl 1 (l2.map .str),.sl 1 (p0.map .str),.sl 1 (q0.map .str),.sl 1 (p1.map .str),.sl 1 (q1.map .str),.sl 1 (p2.map .str),.sl 1 (q2.map .str),.nls,.int .i64 (size)]
  [⟨5,1,ofBytes A⟩,⟨209,3,c0.map aPc⟩,⟨3,1,t0.map bInt⟩,⟨209,3,c1.map aPc⟩,⟨3,1,t1.map bInt⟩,⟨5,1,ofBytes A2⟩,⟨209,3,c2.map aPc⟩,⟨3,1,t2.map bInt⟩] [A.length,c0.length,t0.length,c1.length,t1.length,A2.length,c2.length,t2.length] [] rfl (tamen A A2 c0 c1 c2 t0 t1 t2)
theorem buf_new {ls:List Tb.Bs}(hn:ls≠[])(hc:Tb.clean ls)(hj:Tb.joinL ls≠[])(hl:(Tb.joinL ls).length≤4000):BufOK (Tb.joinL ls) [] [⟨false,0,(Tb.joinL ls).length⟩] ls:=by
 refine⟨?_,?_,hc,hn,by omega,by simp,by simp,by omega⟩
 ·intro p hp
  simp only[List.mem_singleton] at hp
  subst hp
  simp [Tb.fits,List.length_pos_iff.2 hj]
 ·simp [Tb.whole,Tb.text]
set_option maxRecDepth 100000 in
theorem calls_ENew [S:Syms] (ls:List Tb.Bs)(hn:ls≠[])(hc:Tb.clean ls)(hj:Tb.joinL ls≠[])(hl:(Tb.joinL ls).length≤4000) :
 CallsR Tryz.prog 13 [.sl 1 (ls.map .str)] [] (.tuple [Z36,.int .i64 0]) (eJ (Tb.joinL ls) [] (pcs [⟨false,0,(Tb.joinL ls).length⟩]) (cN (Tb.starts (Tb.joinL ls))) 0 0 ((Tb.joinL ls).length) 0 0):=by
 let S1:=sn (Tb.joinL ls) [] [] [] [] ls [] [] [] [] [] [] [] [] [(false,0,((Tb.joinL ls).length:Int))] [] [] (cN (Tb.starts (Tb.joinL ls))) [] [] 0 0 0 0 0 0 0 (Tb.joinL ls).length 0 0 0
 have q45:= @calls_BNew S1 ls hn hc hj (by omega)
 have hrun: @evF S1 Tryz.prog (@Lf.rows [⟨45,[Z77],[],.tuple [Z63,Z1],[.arr 146 2 [.agg [.ptr 1 6 1 0 0,.ptr 4 2 1 0 0]],.arr 211 6 [.agg [Z62,.ows 7 1 0,.ptr 2 1 1 0 0,Z22,Z10,Z1]],.arr 283 1 [.agg [.ows 3 3 1]],.tok 1,.arr 216 2 [.agg [Z29,Z22]],.arr 288 1 [.agg [.ows 6 1 2]],.tok 2,Z94]⟩] kB) 60 13 [Z77] []= .ok (.tuple [Z36,Z1],[.arr 49 7 [.agg [Z21,Z54,Z58,Z3,.nls,Z3,Z2]],.arr 83 32 [.agg [Z1,Z1,Z1,Z1,Z3,Z3,Z7,Z2,Z23,Z1,Z1,Z1,Z28,Z27,Z26,Z24,Z1,Z1,Z1,.nls,Z2,.npt,Z3,Z1,Z7,Z7,Z3,Z7,.nls,Z2,Z1,Z1]],Z5,.arr 211 6 [.agg [Z62,.ows 4 1 0,Z29,Z22,Z10,Z1]],Z94,Z74,.tok 1,.arr 216 2 [.agg [Z30,Z22]],Z73,.tok 2,Z15,Z44,Z14,Z44,.arr 135 2 [.agg [Z25,Z1]],Z13,.arr 155 3 [.agg [Z59,Z1,.npt]],Z41,.arr 103 14 [.agg [Z1,Z2,Z2,Z2,Z3,Z1,Z7,Z7,Z3,Z7,Z1,Z2,Z1,Z2]],Z4]):=by kernel_rfl
 have h2:= @run_rows S1 _ _ _ (@kB_ok S1 (@tblOK_of S1 _ (fun r hr=>by cases hr))) (fun c hc=>by
  simp only[Qd,Qb,or_false] at hc
  rcases hc with rfl
  ·exact q45) mixed _ _ _ _ _ _ hrun
 refine tr_calls S1 S ?_ rfl rfl (@nt_eJ S1 _ _ _ _ _ _ _ _ _) h2
 simp only[nt,ntL,Qo,Qu]
 exact ntL_map _ (fun _=>rfl) _
end Go.Pg
namespace Go.Pg
open Go Go.Proofs
def tblj:List (OpK×List AV×AV):=
 [(.len 24,[Z77],Z22),
  (.bin .eql 3,[Z22,Z1],Z2),
  (.bin .geq 3,[Z66,Z1],Z18),
  (.bin .lss 3,[Z66,Z22],Z18),
  (.idx 24,[Z77,Z66],.rp [Z99]),
  (.len 9,[Z99],Z68),
  (.bin .leq 3,[Z1,Z68],Z18),
  (.mn,[Z17,Z22],Z17),
  (.bin .add 3,[Z66,Z17],Z78),
  (.bin .sub 3,[Z22,Z66],Z65),
  (.bin .lss 3,[Z17,Z65],Z18),
  (.idx 24,[Z77,Z78],.rp [.sym 2]),
  (.len 9,[.sym 2],Z51),
  (.bin .sub 3,[Z51,Z17],.sym 36),
  (.mx,[.sym 36,Z1],.sym 37),
  (.mn,[Z1,.sym 37],Z1),
  (.mx,[Z78,Z1],Z78),
  (.bin .sub 3,[Z22,Z17],.sym 38),
  (.mn,[Z78,.sym 38],Z78)]
theorem tamej (A A2:Tb.Bs)(c0 c1 c2:List Pc)(t0 t1 t2:List Int):tameAs [⟨5,1,ofBytes A⟩,⟨209,3,c0.map aPc⟩,⟨3,1,t0.map bInt⟩,⟨209,3,c1.map aPc⟩,⟨3,1,t1.map bInt⟩,⟨5,1,ofBytes A2⟩,⟨209,3,c2.map aPc⟩,⟨3,1,t2.map bInt⟩]=true:=by
 simp only[tameAs,Qj,Ql,tame_bytes,tame_pcs,tame_bints,Qk]
@[reducible] def sj (F s t A A2:Tb.Bs) (ls l1 l2 p0 q0 p1 q1 p2 q2:List Tb.Bs) (c0 c1 c2:List Pc) (t0 t1 t2:List Int) (k n sl tl fc fs top size top2 ed ah:Int):Syms:=
 mkS [.nls,.str s,.str t,.int .i64 ah,.nls,.nls,.nls,.nls,.nls,.nls,.str F,.nls,.nls,.nls,.nls,.nls,.nls,.nls,.nls,.nls,.sl 1 (ls.map .str),.sl 1 (l1.map .str),.sl 1 (l2.map .str),.sl 1 (p0.map .str),.sl 1 (q0.map .str),.sl 1 (p1.map .str),.sl 1 (q1.map .str),.sl 1 (p2.map .str),.sl 1 (q2.map .str),.nls,.int .i64 (n),.int .i64 (k),.int .i64 (sl),.int .i64 (k+1),.int .i64 (-k+n),.int .i64 (tl),.int .i64 (tl - 1),.int .i64 ((max (tl - 1) 0)),.int .i64 (n - 1),.int .i64 (size),.int .i64 (ed),.int .i64 (top),.int .i64 (top2)]
  [⟨5,1,ofBytes A⟩,⟨209,3,c0.map aPc⟩,⟨3,1,t0.map bInt⟩,⟨209,3,c1.map aPc⟩,⟨3,1,t1.map bInt⟩,⟨5,1,ofBytes A2⟩,⟨209,3,c2.map aPc⟩,⟨3,1,t2.map bInt⟩] [A.length,c0.length,t0.length,c1.length,t1.length,A2.length,c2.length,t2.length] tblj rfl (tamej A A2 c0 c1 c2 t0 t1 t2)
set_option maxRecDepth 100000 in
theorem tblOKj (F s t A A2:Tb.Bs)(ls l1 l2 p0 q0 p1 q1 p2 q2:List Tb.Bs)(c0 c1 c2:List Pc)(t0 t1 t2:List Int)(k n sl tl fc fs top size top2 ed ah:Int)(h1:0≤k∧k+1<n∧n≤4000)(hs1:(s.length:Int)=sl)(ht1:(t.length:Int)=tl)(h2:0≤size∧size≤4000∧sl≤size∧tl≤size)(h3:0≤fc∧fc≤max (tl - 1) 0)(h4:0≤fs∧fs≤max (sl - 1) 0)(h5:0≤ed∧ed≤4000)
 (hr0:opkV Tryz.prog (.len 24) [.sl 1 (ls.map .str)]=some (.int .i64 (n)))
 (hr1:opkV Tryz.prog (.idx 24) [.sl 1 (ls.map .str),.int .i64 (k)]=some (.rp [.str s]))
 (hr2:opkV Tryz.prog (.idx 24) [.sl 1 (ls.map .str),.int .i64 (k+1)]=some (.rp [.str t])) :
 @TblOK (sj F s t A A2 ls l1 l2 p0 q0 p1 q1 p2 q2 c0 c1 c2 t0 t1 t2 k n sl tl fc fs top size top2 ed ah) Tryz.prog:=by
 letI:=sj F s t A A2 ls l1 l2 p0 q0 p1 q1 p2 q2 c0 c1 c2 t0 t1 t2 k n sl tl fc fs top size top2 ed ah
 have hs0:0≤sl:=by omega
 have ht0:0≤tl:=by omega
 refine tblOK_of fun r hr=>?_
 change r∈tblj at hr
 simp only[tblj,Qd,Qb,or_false] at hr
 rcases hr with rfl | rfl | rfl | rfl | rfl | rfl | rfl | rfl | rfl | rfl | rfl | rfl | rfl | rfl | rfl | rfl | rfl | rfl | rfl
 ·exact hr0
 ·exact row_eql (P:=Tryz.prog) (n) (0) false (beq_eq_false_iff_ne.2 (by omega))
 ·exact row_geq (P:=Tryz.prog) (k) (0) true (decide_eq_true (by omega))
 ·exact row_lss (P:=Tryz.prog) (k) (n) true (decide_eq_true (by omega))
 ·exact hr1
 ·exact row_lenS (P:=Tryz.prog) tkT9 s _ hs1
 ·exact row_leq (P:=Tryz.prog) (0) (sl) true (decide_eq_true (by omega))
 ·exact row_mn (P:=Tryz.prog) (1) (n) (1) (by omega)
 ·exact row_add (P:=Tryz.prog) (k) (1) (k+1) (by omega) (by omega) (by omega)
 ·exact row_sub (P:=Tryz.prog) (n) (k) (-k+n) (by omega) (by omega) (by omega)
 ·exact row_lss (P:=Tryz.prog) (1) (-k+n) true (decide_eq_true (by omega))
 ·exact hr2
 ·exact row_lenS (P:=Tryz.prog) tkT9 t _ ht1
 ·exact row_sub (P:=Tryz.prog) (tl) (1) (tl - 1) (by omega) (by omega) (by omega)
 ·exact row_mx (P:=Tryz.prog) (tl - 1) (0) ((max (tl - 1) 0)) (by omega)
 ·exact row_mn (P:=Tryz.prog) (0) ((max (tl - 1) 0)) (0) (by omega)
 ·exact row_mx (P:=Tryz.prog) (k+1) (0) (k+1) (by omega)
 ·exact row_sub (P:=Tryz.prog) (n) (1) (n - 1) (by omega) (by omega) (by omega)
 ·exact row_mn (P:=Tryz.prog) (k+1) (n - 1) (k+1) (by omega)
set_option maxRecDepth 100000 in
theorem calls_j [S:Syms] {F:Tb.Bs}{L:List Tb.Pc}{ls:List Tb.Bs}(h:BufOK F [] L ls)(hT:(Tb.joinL ls).length≤4000)(hn:ls.length≤4000)(k:Nat)(hk:k+1<ls.length)(top ah:Int)(htop:0≤top∧top≤4000) :
 CallsR Tryz.prog 7 [Z36,.int .u8 106] (eJ F [] (pcs L) (cN (Tb.starts (Tb.joinL ls))) k top ((Tb.joinL ls).length) 0 ah) (Z18) (eJ F [] (pcs L) (cN (Tb.starts (Tb.joinL ls))) ((k:Int)+1) (scr top ((k:Int)+1) ls.length) ((Tb.joinL ls).length) 0 k):=by
 obtain⟨s,hs⟩:∃s,s=ls.getD k []:=⟨_,rfl⟩
 obtain⟨t,ht⟩:∃t,t=ls.getD (k+1) []:=⟨_,rfl⟩
 have hsz:=few_join ls h.ne k
 have htz:=few_join ls h.ne (k+1)
 rw[←hs] at hsz
 rw[←ht] at htz
 have g_ls_N:=hs.symm
 have g_ls_S:=ht.symm
 let S1:=sj F s t [] [] ls [] [] [] [] [] [] [] [] (pcs L) [] [] (cN (Tb.starts (Tb.joinL ls))) [] [] k ls.length s.length t.length 0 0 top (Tb.joinL ls).length (scr top ((k:Int)+1) ls.length) 0 ah
 have q67a:= @calls_LinesB S1 _ _ _ _ h 0
 have q91b:= @calls_Scroll S1 top ((k:Int)+1) ls.length (by omega) (by omega) (by omega)
 have hrun: @evF S1 Tryz.prog (@Lf.rows [⟨67,[Z63],[Z6,.arr 211 6 [.agg [Z62,Z76,Z35,.sym 39,Z10,Z82]],Z94,Z48,.tok 1,.arr 216 2 [.agg [Z108,.sym 39]],Z46,.tok 2],Z77,[Z6,.arr 211 6 [.agg [Z62,Z76,Z35,.sym 39,Z10,Z82]],Z94,Z48,.tok 1,.arr 216 2 [.agg [Z108,.sym 39]],Z46,.tok 2]⟩,
  ⟨91,[.sym 41,Z78,Z22],[],.sym 42,[]⟩] kB) 60 7 [Z36,.int .u8 (106)] [.arr 49 7 [.agg [Z21,Z54,Z58,Z3,.nls,Z3,Z2]],.arr 83 32 [.agg [Z66,Z1,Z1,.sym 41,Z3,Z3,Z7,Z2,Z23,Z1,Z1,Z1,Z28,Z27,Z26,Z24,Z1,Z1,Z1,.nls,Z2,.npt,Z3,Z1,Z7,Z7,Z3,Z7,.nls,Z2,.sym 3,Z1]],Z5,.arr 211 6 [.agg [Z62,.ows 4 1 0,Z29,.sym 39,Z10,Z82]],Z94,Z74,.tok 1,.arr 216 2 [.agg [Z30,.sym 39]],Z73,.tok 2,Z15,Z44,Z14,Z44,.arr 135 2 [.agg [Z25,Z1]],Z13,.arr 155 3 [.agg [Z59,Z1,.npt]],Z41,.arr 103 14 [.agg [Z1,Z2,Z2,Z2,Z3,Z1,Z7,Z7,Z3,Z7,Z1,Z2,Z1,Z2]],Z4]= .ok (Z18,[.arr 49 7 [.agg [Z21,Z54,Z58,Z3,.nls,Z3,Z2]],.arr 83 32 [.agg [Z78,Z1,Z1,.sym 42,Z3,Z3,Z7,Z2,Z23,Z1,Z1,Z1,Z28,Z27,Z26,Z24,Z1,Z1,Z1,.nls,Z2,.npt,Z3,Z1,Z7,Z7,Z3,Z7,.nls,Z2,Z66,Z1]],Z5,.arr 211 6 [.agg [Z62,.ows 4 1 0,Z29,.sym 39,Z10,Z82]],Z94,Z74,.tok 1,.arr 216 2 [.agg [Z30,.sym 39]],Z73,.tok 2,Z15,Z44,Z14,Z44,.arr 135 2 [.agg [Z25,Z1]],Z13,.arr 155 3 [.agg [Z59,Z1,.npt]],Z41,.arr 103 14 [.agg [Z1,Z2,Z2,Z2,Z3,Z1,Z7,Z7,Z3,Z7,Z1,Z2,Z1,Z2]],Z4]):=by kernel_rfl
 have h2:= @run_rows S1 _ _ _ (@kB_ok S1 (tblOKj F s t [] [] ls [] [] [] [] [] [] [] [] (pcs L) [] [] (cN (Tb.starts (Tb.joinL ls))) [] [] k ls.length s.length t.length 0 0 top (Tb.joinL ls).length (scr top ((k:Int)+1) ls.length) 0 ah (by omega) rfl rfl (by omega) (by omega) (by omega) (by omega) (@row_len24 S1 ls _ (by omega)) (@row_idxN S1 ls k s (by omega) g_ls_N) (@row_idxS S1 ls k t (by omega) g_ls_S))) (fun c hc=>by
  simp only[Qd,Qb,or_false] at hc
  rcases hc with rfl | rfl
  ·exact q67a
  ·exact q91b) mixed _ _ _ _ _ _ hrun
 exact tr_calls S1 S rfl (@nt_eJ S1 _ _ _ _ _ _ _ _ _) rfl (@nt_eJ S1 _ _ _ _ _ _ _ _ _) h2
end Go.Pg
namespace Go.Pg
open Go Go.Proofs
def tblp:List (OpK×List AV×AV):=
 [(.bin .geq 3,[Z22,Z1],Z18),
  (.len 24,[Z77],Z66),
  (.bin .lss 3,[Z22,Z66],Z18),
  (.idx 24,[Z77,Z22],.rp [Z99]),
  (.len 9,[Z99],Z68),
  (.bin .leq 3,[Z1,Z68],Z18),
  (.bin .sub 3,[Z66,Z22],Z78),
  (.bin .gtr 3,[Z17,Z78],Z2),
  (.bin .add 3,[Z22,Z17],Z65),
  (.bin .sub 3,[Z65,Z17],Z22),
  (.bin .lss 3,[Z22,Z1],Z2),
  (.bin .gtr 3,[Z22,Z22],Z2),
  (.bin .geq 3,[Z22,Z66],Z2),
  (.bin .sub 3,[Z22,Z22],Z1),
  (.bin .eql 3,[Z17,Z66],Z2),
  (.sub 24 3,[Z77,Z22,Z65],Z49),
  (.bin .gtr 3,[Z22,Z66],Z2),
  (.bin .sub 3,[Z66,Z17],Z51),
  (.bin .add 3,[Z51,Z1],Z51),
  (.bin .eql 3,[Z51,Z1],Z2),
  (.bin .neq 9,[Z99,Z99],Z2),
  (.sub 24 2,[Z77,Z22],.sym 23),
  (.sub 24 1,[Z77,Z65],.sym 24),
  (.len 24,[Z87],Z51),
  (.bin .sub 3,[Z51,Z17],.sym 36),
  (.mn,[Z22,.sym 36],Z22),
  (.idx 24,[Z87,Z22],.rp [.sym 2]),
  (.mx,[Z22,Z1],Z22),
  (.len 9,[.sym 2],.sym 37),
  (.bin .sub 3,[.sym 37,Z17],.sym 38),
  (.mx,[.sym 38,Z1],.sym 39),
  (.mx,[Z82,Z1],Z82),
  (.mn,[Z82,.sym 39],Z82),
  (.bin .leq 3,[Z22,Z22],Z18),
  (.sub 9 3,[Z99,Z1,Z68],Z99),
  (.bin .leq 3,[Z65,Z22],Z2),
  (.bin .add 3,[Z68,Z17],.sym 41),
  (.bin .add 3,[Z1,.sym 41],.sym 41),
  (.bin .gtr 3,[.sym 41,Z95],Z2),
  (.bin .gtr 3,[.sym 42,Z95],Z2),
  (.bin .lss 3,[Z22,Z51],Z18),
  (.bin .geq 3,[Z82,Z1],Z18),
  (.bin .leq 3,[Z82,.sym 37],Z18),
  (.bin .lss 3,[Z65,Z1],Z2),
  (.bin .gtr 3,[Z65,Z51],Z2),
  (.bin .sub 3,[Z51,Z65],.sym 43),
  (.bin .gtr 3,[Z1,.sym 43],Z2),
  (.bin .sub 3,[Z51,Z1],Z51),
  (.bin .add 3,[Z51,Z17],Z66),
  (.bin .eql 3,[Z66,Z1],Z2),
  (.bin .add 3,[Z65,Z1],Z65),
  (.sub 24 3,[Z87,Z65,Z65],.sl 1 []),
  (.sub 24 2,[Z87,Z65],.sym 25),
  (.sub 24 1,[Z87,Z65],.sym 26),
  (.len 24,[.sym 22],Z66),
  (.mx,[Z65,Z1],Z65),
  (.mn,[Z65,Z51],Z65),
  (.idx 24,[.sym 22,Z65],.rp [Z99]),
  (.bin .sub 3,[Z68,Z17],.sym 44),
  (.mx,[.sym 44,Z1],.sym 45),
  (.mx,[Z98,Z1],Z98),
  (.mn,[Z98,.sym 45],Z98),
  (.bin .gtr 3,[.sym 47,Z95],Z2)]
theorem tamep (A A2:Tb.Bs)(c0 c1 c2:List Pc)(t0 t1 t2:List Int):tameAs [⟨5,1,ofBytes A⟩,⟨209,3,c0.map aPc⟩,⟨3,1,t0.map bInt⟩,⟨209,3,c1.map aPc⟩,⟨3,1,t1.map bInt⟩,⟨5,1,ofBytes A2⟩,⟨209,3,c2.map aPc⟩,⟨3,1,t2.map bInt⟩]=true:=by
 simp only[tameAs,Qj,Ql,tame_bytes,tame_pcs,tame_bints,Qk]
@[reducible] def sp (F s t A A2:Tb.Bs) (ls l1 l2 p0 q0 p1 q1 p2 q2:List Tb.Bs) (c0 c1 c2:List Pc) (t0 t1 t2:List Int) (k n sl tl fc fs top size top2 ed ah:Int):Syms:=
 mkS [.nls,.str s,.str t,.int .i64 ah,.nls,.nls,.nls,.nls,.nls,.nls,.str F,.nls,.nls,.nls,.nls,.nls,.nls,.nls,.nls,.nls,.sl 1 (ls.map .str),.sl 1 (l1.map .str),.sl 1 (l2.map .str),.sl 1 (p0.map .str),.sl 1 (q0.map .str),.sl 1 (p1.map .str),.sl 1 (q1.map .str),.sl 1 (p2.map .str),.sl 1 (q2.map .str),.nls,.int .i64 (k),.int .i64 (n),.int .i64 (sl),.int .i64 (-k+n),.int .i64 (k+1),.int .i64 (n - 1),.int .i64 (n - 2),.int .i64 (tl),.int .i64 (tl - 1),.int .i64 ((max (tl - 1) 0)),.int .i64 (fc),.int .i64 (sl+1),.int .i64 (-sl+size),.int .i64 (-k+n - 2),.int .i64 (sl - 1),.int .i64 ((max (sl - 1) 0)),.int .i64 (fs),.int .i64 (size+1),.int .i64 (size),.int .i64 (ed),.int .i64 (-sl+size - 1),.int .i64 (ed+1),.int .i64 (top),.int .i64 (ed+2),.int .i64 (top2)]
  [⟨5,1,ofBytes A⟩,⟨209,3,c0.map aPc⟩,⟨3,1,t0.map bInt⟩,⟨209,3,c1.map aPc⟩,⟨3,1,t1.map bInt⟩,⟨5,1,ofBytes A2⟩,⟨209,3,c2.map aPc⟩,⟨3,1,t2.map bInt⟩] [A.length,c0.length,t0.length,c1.length,t1.length,A2.length,c2.length,t2.length] tblp rfl (tamep A A2 c0 c1 c2 t0 t1 t2)
set_option maxRecDepth 100000 in
theorem tblOKp (F s t A A2:Tb.Bs)(ls l1 l2 p0 q0 p1 q1 p2 q2:List Tb.Bs)(c0 c1 c2:List Pc)(t0 t1 t2:List Int)(k n sl tl fc fs top size top2 ed ah:Int)(h1:0≤k∧k+1<n∧n≤4000)(hs1:(s.length:Int)=sl)(ht1:(t.length:Int)=tl)(h2:0≤size∧size≤4000∧sl≤size∧tl≤size)(h3:0≤fc∧fc≤max (tl - 1) 0)(h4:0≤fs∧fs≤max (sl - 1) 0)(h5:0≤ed∧ed≤4000)
 (hr0:opkV Tryz.prog (.len 24) [.sl 1 (ls.map .str)]=some (.int .i64 (n)))
 (hr1:opkV Tryz.prog (.idx 24) [.sl 1 (ls.map .str),.int .i64 (k)]=some (.rp [.str s]))
 (hr2:opkV Tryz.prog (.sub 24 3) [.sl 1 (ls.map .str),.int .i64 (k),.int .i64 (k+1)]=some (.sl 1 [.str s]))
 (hr3:opkV Tryz.prog (.sub 24 2) [.sl 1 (ls.map .str),.int .i64 (k)]=some (.sl 1 (p0.map .str)))
 (hr4:opkV Tryz.prog (.sub 24 1) [.sl 1 (ls.map .str),.int .i64 (k+1)]=some (.sl 1 (q0.map .str)))
 (hr5:opkV Tryz.prog (.len 24) [.sl 1 (l1.map .str)]=some (.int .i64 (n - 1)))
 (hr6:opkV Tryz.prog (.idx 24) [.sl 1 (l1.map .str),.int .i64 (k)]=some (.rp [.str t]))
 (hr7:opkV Tryz.prog (.sub 24 3) [.sl 1 (l1.map .str),.int .i64 (k+1),.int .i64 (k+1)]=some (.sl 1 []))
 (hr8:opkV Tryz.prog (.sub 24 2) [.sl 1 (l1.map .str),.int .i64 (k+1)]=some (.sl 1 (p1.map .str)))
 (hr9:opkV Tryz.prog (.sub 24 1) [.sl 1 (l1.map .str),.int .i64 (k+1)]=some (.sl 1 (q1.map .str)))
 (hr10:opkV Tryz.prog (.len 24) [.sl 1 (l2.map .str)]=some (.int .i64 (n)))
 (hr11:opkV Tryz.prog (.idx 24) [.sl 1 (l2.map .str),.int .i64 (k+1)]=some (.rp [.str s])) :
 @TblOK (sp F s t A A2 ls l1 l2 p0 q0 p1 q1 p2 q2 c0 c1 c2 t0 t1 t2 k n sl tl fc fs top size top2 ed ah) Tryz.prog:=by
 letI:=sp F s t A A2 ls l1 l2 p0 q0 p1 q1 p2 q2 c0 c1 c2 t0 t1 t2 k n sl tl fc fs top size top2 ed ah
 have hs0:0≤sl:=by omega
 have ht0:0≤tl:=by omega
 refine tblOK_of fun r hr=>?_
 change r∈tblp at hr
 simp only[tblp,Qd,Qb,or_false] at hr
 rcases hr with rfl | rfl | rfl | rfl | rfl | rfl | rfl | rfl | rfl | rfl | rfl | rfl | rfl | rfl | rfl | rfl | rfl | rfl | rfl | rfl | rfl | rfl | rfl | rfl | rfl | rfl | rfl | rfl | rfl | rfl | rfl | rfl | rfl | rfl | rfl | rfl | rfl | rfl | rfl | rfl | rfl | rfl | rfl | rfl | rfl | rfl | rfl | rfl | rfl | rfl | rfl | rfl | rfl | rfl | rfl | rfl | rfl | rfl | rfl | rfl | rfl | rfl | rfl
 ·exact row_geq (P:=Tryz.prog) (k) (0) true (decide_eq_true (by omega))
 ·exact hr0
 ·exact row_lss (P:=Tryz.prog) (k) (n) true (decide_eq_true (by omega))
 ·exact hr1
 ·exact row_lenS (P:=Tryz.prog) tkT9 s _ hs1
 ·exact row_leq (P:=Tryz.prog) (0) (sl) true (decide_eq_true (by omega))
 ·exact row_sub (P:=Tryz.prog) (n) (k) (-k+n) (by omega) (by omega) (by omega)
 ·exact row_gtr (P:=Tryz.prog) (1) (-k+n) false (decide_eq_false (by omega))
 ·exact row_add (P:=Tryz.prog) (k) (1) (k+1) (by omega) (by omega) (by omega)
 ·exact row_sub (P:=Tryz.prog) (k+1) (1) (k) (by omega) (by omega) (by omega)
 ·exact row_lss (P:=Tryz.prog) (k) (0) false (decide_eq_false (by omega))
 ·exact row_gtr (P:=Tryz.prog) (k) (k) false (decide_eq_false (by omega))
 ·exact row_geq (P:=Tryz.prog) (k) (n) false (decide_eq_false (by omega))
 ·exact row_sub (P:=Tryz.prog) (k) (k) (0) (by omega) (by omega) (by omega)
 ·exact row_eql (P:=Tryz.prog) (1) (n) false (beq_eq_false_iff_ne.2 (by omega))
 ·exact hr2
 ·exact row_gtr (P:=Tryz.prog) (k) (n) false (decide_eq_false (by omega))
 ·exact row_sub (P:=Tryz.prog) (n) (1) (n - 1) (by omega) (by omega) (by omega)
 ·exact row_add (P:=Tryz.prog) (n - 1) (0) (n - 1) (by omega) (by omega) (by omega)
 ·exact row_eql (P:=Tryz.prog) (n - 1) (0) false (beq_eq_false_iff_ne.2 (by omega))
 ·exact row_neqS (P:=Tryz.prog) s s false (by simp)
 ·exact hr3
 ·exact hr4
 ·exact hr5
 ·exact row_sub (P:=Tryz.prog) (n - 1) (1) (n - 2) (by omega) (by omega) (by omega)
 ·exact row_mn (P:=Tryz.prog) (k) (n - 2) (k) (by omega)
 ·exact hr6
 ·exact row_mx (P:=Tryz.prog) (k) (0) (k) (by omega)
 ·exact row_lenS (P:=Tryz.prog) tkT9 t _ ht1
 ·exact row_sub (P:=Tryz.prog) (tl) (1) (tl - 1) (by omega) (by omega) (by omega)
 ·exact row_mx (P:=Tryz.prog) (tl - 1) (0) ((max (tl - 1) 0)) (by omega)
 ·exact row_mx (P:=Tryz.prog) (fc) (0) (fc) (by omega)
 ·exact row_mn (P:=Tryz.prog) (fc) ((max (tl - 1) 0)) (fc) (by omega)
 ·exact row_leq (P:=Tryz.prog) (k) (k) true (decide_eq_true (by omega))
 ·exact row_s3 s _ hs1
 ·exact row_leq (P:=Tryz.prog) (k+1) (k) false (decide_eq_false (by omega))
 ·exact row_add (P:=Tryz.prog) (sl) (1) (sl+1) (by omega) (by omega) (by omega)
 ·exact row_add (P:=Tryz.prog) (0) (sl+1) (sl+1) (by omega) (by omega) (by omega)
 ·exact row_gtr (P:=Tryz.prog) (sl+1) (4096) false (decide_eq_false (by omega))
 ·exact row_gtr (P:=Tryz.prog) (-sl+size) (4096) false (decide_eq_false (by omega))
 ·exact row_lss (P:=Tryz.prog) (k) (n - 1) true (decide_eq_true (by omega))
 ·exact row_geq (P:=Tryz.prog) (fc) (0) true (decide_eq_true (by omega))
 ·exact row_leq (P:=Tryz.prog) (fc) (tl) true (decide_eq_true (by omega))
 ·exact row_lss (P:=Tryz.prog) (k+1) (0) false (decide_eq_false (by omega))
 ·exact row_gtr (P:=Tryz.prog) (k+1) (n - 1) false (decide_eq_false (by omega))
 ·exact row_sub (P:=Tryz.prog) (n - 1) (k+1) (-k+n - 2) (by omega) (by omega) (by omega)
 ·exact row_gtr (P:=Tryz.prog) (0) (-k+n - 2) false (decide_eq_false (by omega))
 ·exact row_sub (P:=Tryz.prog) (n - 1) (0) (n - 1) (by omega) (by omega) (by omega)
 ·exact row_add (P:=Tryz.prog) (n - 1) (1) (n) (by omega) (by omega) (by omega)
 ·exact row_eql (P:=Tryz.prog) (n) (0) false (beq_eq_false_iff_ne.2 (by omega))
 ·exact row_add (P:=Tryz.prog) (k+1) (0) (k+1) (by omega) (by omega) (by omega)
 ·exact hr7
 ·exact hr8
 ·exact hr9
 ·exact hr10
 ·exact row_mx (P:=Tryz.prog) (k+1) (0) (k+1) (by omega)
 ·exact row_mn (P:=Tryz.prog) (k+1) (n - 1) (k+1) (by omega)
 ·exact hr11
 ·exact row_sub (P:=Tryz.prog) (sl) (1) (sl - 1) (by omega) (by omega) (by omega)
 ·exact row_mx (P:=Tryz.prog) (sl - 1) (0) ((max (sl - 1) 0)) (by omega)
 ·exact row_mx (P:=Tryz.prog) (fs) (0) (fs) (by omega)
 ·exact row_mn (P:=Tryz.prog) (fs) ((max (sl - 1) 0)) (fs) (by omega)
 ·exact row_gtr (P:=Tryz.prog) (size+1) (4096) false (decide_eq_false (by omega))
set_option maxRecDepth 100000 in
set_option maxHeartbeats 4000000 in
theorem calls_ddp [S:Syms] {F:Tb.Bs}{L:List Tb.Pc}{ls:List Tb.Bs}(h:BufOK F [] L ls)(hT:(Tb.joinL ls).length≤4000)(hn:ls.length≤4000)(hL:L.length≤400)(hold:∀p∈L,p.added=false)(k:Nat)(hk:k+1<ls.length)(top ah:Int)(htop:0≤top∧top≤4000)
 (hscr:scr top k ((ls.length:Int) - 1)=top) (s t:Tb.Bs) (hs:s=ls.getD k []) (ht:t=ls.getD (k+1) []) (l1 l2:List Tb.Bs) (hl1:l1=ls.take k ++ ls.drop (k+1)) (hl2:l2=l1.take (k+1) ++ s :: l1.drop (k+1)) :
 ∃(A2:Tb.Bs) (L2:List Tb.Pc),BufOK F A2 L2 l2∧CallsR Tryz.prog 8 [Z36,.own 20 1 3] (eJ F [] (pcs L) (cN (Tb.starts (Tb.joinL ls))) k top ((Tb.joinL ls).length) 0 ah ++ [.arr 5 1 [Z97,Z97,.int .u8 112]]) (Z18) (eP F s A2 (pcs L2) (cN (Tb.starts (Tb.joinL l2))) k (firstC t) (firstC s) (((Tb.joinL l2).length:Nat)) (scr top ((k:Int)+1) ls.length) 0):=by
 have hsz:=few_join ls h.ne k
 have htz:=few_join ls h.ne (k+1)
 rw[←hs] at hsz
 rw[←ht] at htz
 have g_ls_N:=hs.symm
 have g_ls_S:=ht.symm
 have g_l1_N:l1.getD k []=t:=by rw[hl1,getD_cut_lt ls hk,←ht]
 have hl1len:l1.length+1=ls.length:=by rw[hl1,Qg,Qa,Qe];omega
 have hl2len:l2.length=ls.length:=by rw[hl2,Qg,Qa,Qi,Qe];omega
 have hs1:size l1=size ls - (s.length+1):=by rw[hl1,size_cut ls (by omega),←hs]
 have hs2:size l2=size l1+(s.length+1):=by rw[hl2,size_put]
 have hsn:(10:UInt8)∉s:=by rw[hs];exact clean_getD h.clean k
 have g_l2_S:l2.getD (k+1) []=s:=by rw[hl2];exact getD_put l1 (k+1) s (by omega)
 obtain⟨L1,b1,hL1,hold1,q208a⟩:= @calls_RdelB S F [] L ls h hL hold 0 (by omega) k hk
 rw[←hl1] at b1 q208a
 have z1:=size_joinL l1 b1.ne
 have z0:=size_joinL ls h.ne
 have e1:(((Tb.joinL l1).length:Nat):Int)= -(s.length:Int)+(Tb.joinL ls).length - 1:=by omega
 obtain⟨A2,L2,b2,q208b⟩:= @calls_RputB S F [] L1 l1 b1 (by simp) hL1 hold1 (0+1) (by omega) (k+1) (by omega) s hsn (by omega)
 rw[←hl2] at b2 q208b
 have z2:=size_joinL l2 b2.ne
 have e2:(Tb.joinL l2).length=(Tb.joinL ls).length:=by omega
 refine⟨A2,L2,b2,?_⟩
 let S1:=sp F s t [] A2 ls l1 l2 (ls.take k) (ls.drop (k+1)) (l1.take (k+1)) (l1.drop (k+1)) [] [] (pcs L) (pcs L1) (pcs L2) (cN (Tb.starts (Tb.joinL ls))) (cN (Tb.starts (Tb.joinL l1))) (cN (Tb.starts (Tb.joinL l2))) k ls.length s.length t.length (firstC t) (firstC s) top (Tb.joinL ls).length (scr top ((k:Int)+1) ls.length) 0 ah
 have q67a:= @calls_LinesB S1 _ _ _ _ h 0
 have q67b:= @calls_LinesB S1 _ _ _ _ b1 (0+1)
 have q67c:= @calls_LinesB S1 _ _ _ _ b2 (0+2)
 replace q208a:=tr_calls S S1 (by simp [ntL,nt]) (nt_bH _ _ _ _ _ _) rfl (@nt_bHU S _ _ _ _ _ _) q208a
 replace q208b:=tr_calls S S1 (by simp [ntL,nt]) (nt_bH1 _ _ _ _ _ _ _) rfl (@nt_bHV S _ _ _ _ _ _ _) q208b
 unfold bHL at q67a q67b q67c q208a q208b
 rw[e1] at q67b q208a q208b
 rw[e2] at q67c q208b
 rw[e2]
 have q127a:= @calls_CloneS S1 ls (by omega)
 have q127b:= @calls_CloneS S1 l1 (by omega)
 have q127c:= @calls_CloneS S1 [s] (by simp)
 have q133:= @calls_Contains S1 s hsn
 have q143a:= @calls_CSize S1 ls (few_buf h hn)
 have q143b:= @calls_CSize S1 l1 (few_buf b1 (by omega))
 have q143c:= @calls_CSize S1 l2 (few_buf b2 (by omega))
 rw[show size ls=((Tb.joinL ls).length:Int)+1 by omega] at q143a
 rw[show size l1= -(s.length:Int)+(Tb.joinL ls).length by omega] at q143b
 rw[show size l2=((Tb.joinL ls).length:Int)+1 by omega] at q143c
 have q201a:= @calls_Concat0 S1 (ls.take k) (ls.drop (k+1)) (by rw[Qa,Qe];omega) (by rw[Qa,Qe];omega)
 rw[←hl1] at q201a
 have q201b:= @calls_Concat1 S1 (l1.take (k+1)) (l1.drop (k+1)) s (by rw[Qa,Qe];omega)
 rw[←hl2] at q201b
 have fS:=firstC_ok s
 have fT:=firstC_ok t
 have q246s:= @calls_First S1 s (by omega)
 have q246t:= @calls_First S1 t (by omega)
 have q284:= @Le.calls_Clone S1 []
 have q91a:= @calls_Scroll S1 top k ((ls.length:Int) - 1) (by omega) (by omega) (by omega)
 rw[hscr] at q91a
 have q91b:= @calls_Scroll S1 top ((k:Int)+1) ls.length (by omega) (by omega) (by omega)
 have hrun: @evF S1 Tryz.prog (@Lf.rows [⟨67,[Z63],[Z6,.arr 211 6 [.agg [Z62,Z76,Z35,Z86,Z10,.sym 49]],Z94,Z48,.tok 1,Z20,Z46,.tok 2],Z77,[Z6,.arr 211 6 [.agg [Z62,Z76,Z35,Z86,Z10,.sym 49]],Z94,Z48,.tok 1,Z20,Z46,.tok 2]⟩,
  ⟨127,[Z49],[],Z49,[]⟩,
  ⟨127,[Z77],[],Z77,[]⟩,
  ⟨201,[.own 0 1 3],[Z81],Z87,[Z81]⟩,
  ⟨246,[.sym 2],[],Z82,[]⟩,
  ⟨143,[Z87],[],.sym 42,[]⟩,
  ⟨208,[Z63,Z22,Z17,.nls],[Z6,.arr 211 6 [.agg [Z62,Z76,Z35,Z86,Z10,.sym 49]],Z94,Z48,.tok 1,Z20,Z46,.tok 2],Z1,[Z6,.arr 211 6 [.agg [Z62,Z76,Z35,.sym 50,Z10,.sym 51]],Z94,.arr 283 1 [.agg [.ows 8 3 3]],.dead,Z34,Z84,.dead,.tok 3,.tok 4]⟩,
  ⟨284,[.mp 0],[Z44],.mp 1,[Z44,Z44]⟩,
  ⟨67,[Z63],[Z6,.arr 211 6 [.agg [Z62,Z76,Z35,.sym 50,Z10,.sym 51]],Z94,Z71,.tok 3,Z34,Z69,.tok 4],Z87,[Z6,.arr 211 6 [.agg [Z62,Z76,Z35,.sym 50,Z10,.sym 51]],Z94,Z71,.tok 3,Z34,Z69,.tok 4]⟩,
  ⟨91,[.sym 52,Z22,Z51],[],.sym 52,[]⟩,
  ⟨133,[Z99,.str [10]],[],Z2,[]⟩,
  ⟨246,[Z99],[],Z98,[]⟩,
  ⟨127,[Z87],[],Z87,[]⟩,
  ⟨201,[.own 0 1 3],[.arr 24 1 [.sym 25,.own 1 1 1,.sym 26],Z50],.sym 22,[.arr 24 1 [.sym 25,.own 1 1 1,.sym 26],Z50]⟩,
  ⟨143,[.sym 22],[],.sym 47,[]⟩,
  ⟨208,[Z63,Z65,Z1,.own 8 1 1],[Z6,.arr 211 6 [.agg [Z62,Z76,Z35,.sym 50,Z10,.sym 51]],Z94,Z71,.tok 3,Z34,Z69,.tok 4,Z50],Z1,[Z6,.arr 211 6 [.agg [Z62,Z96,Z35,Z86,Z10,.sym 53]],.tok 5,.arr 283 1 [.agg [.ows 9 3 6]],.dead,Z20,.arr 288 1 [.agg [.ows 10 1 7]],.dead,Z50,.tok 6,.tok 7]⟩,
  ⟨67,[Z63],[Z6,.arr 211 6 [.agg [Z62,Z96,Z35,Z86,Z10,.sym 53]],.tok 5,Z47,.tok 6,Z20,Z45,.tok 7],.sym 22,[Z6,.arr 211 6 [.agg [Z62,Z96,Z35,Z86,Z10,.sym 53]],.tok 5,Z47,.tok 6,Z20,Z45,.tok 7]⟩,
  ⟨91,[.sym 52,Z65,Z66],[],.sym 54,[]⟩] kB) 60 8 [Z36,.own 20 1 3] [.arr 49 7 [.agg [Z21,Z54,Z58,Z3,.nls,Z3,Z2]],.arr 83 32 [.agg [Z22,Z1,Z1,.sym 52,Z3,Z3,Z7,Z2,Z23,Z1,Z1,Z1,Z28,Z27,Z26,Z24,Z1,Z1,Z1,.nls,Z2,.npt,Z3,Z1,Z7,Z7,Z3,Z7,.nls,Z2,.sym 3,Z1]],Z5,.arr 211 6 [.agg [Z62,.ows 4 1 0,Z29,Z86,Z10,.sym 49]],Z94,Z74,.tok 1,.arr 216 2 [.agg [Z30,Z86]],Z73,.tok 2,Z15,Z44,Z14,Z44,.arr 135 2 [.agg [Z25,Z1]],Z13,.arr 155 3 [.agg [Z59,Z1,.npt]],Z41,.arr 103 14 [.agg [Z1,Z2,Z2,Z2,Z3,Z1,Z7,Z7,Z3,Z7,Z1,Z2,Z1,Z2]],Z4,.arr 5 1 [Z52,Z52,.int .u8 (112)]]= .ok (Z18,[.arr 49 7 [.agg [Z21,Z54,Z58,Z3,.nls,Z3,Z2]],.arr 83 32 [.agg [Z65,Z98,Z98,.sym 54,Z3,Z3,Z7,Z2,Z23,Z1,Z1,Z1,Z28,Z27,Z26,Z24,Z1,Z1,Z1,.nls,Z2,.npt,Z3,Z1,Z7,Z75,Z3,Z7,.nls,Z18,Z22,Z82]],Z5,.arr 211 6 [.agg [Z62,Z101,Z29,Z86,Z10,.sym 53]],.tok 5,Z104,.dead,.arr 216 2 [.agg [Z30,Z86]],.arr 288 1 [.agg [.ows 22 1 7]],.dead,Z15,Z9,Z14,Z44,.arr 135 2 [.agg [Z25,Z1]],Z13,Z8,Z67,.arr 103 14 [.agg [Z1,Z2,Z2,Z2,Z3,Z1,Z7,Z7,Z3,Z7,Z1,Z2,Z1,Z2]],Z4,.arr 5 1 [Z52,Z52,.int .u8 (112)],.tok 6,.tok 7,.arr 152 5 [.agg [Z22,Z1,Z22,Z82,.own 24 3 1],.agg [Z22,Z82,Z65,Z98,.own 25 3 1]],.arr 107 3 [.agg [Z22,Z49,.nls]],.arr 107 3 [.agg [Z65,.nls,.own 26 1 1]],Z50]):=by kernel_rfl
 have h2:= @run_rows S1 _ _ _ (@kB_ok S1 (tblOKp F s t [] A2 ls l1 l2 (ls.take k) (ls.drop (k+1)) (l1.take (k+1)) (l1.drop (k+1)) [] [] (pcs L) (pcs L1) (pcs L2) (cN (Tb.starts (Tb.joinL ls))) (cN (Tb.starts (Tb.joinL l1))) (cN (Tb.starts (Tb.joinL l2))) k ls.length s.length t.length (firstC t) (firstC s) top (Tb.joinL ls).length (scr top ((k:Int)+1) ls.length) 0 ah (by omega) rfl rfl (by omega) (by omega) (by omega) (by omega) (@row_len24 S1 ls _ (by omega)) (@row_idxN S1 ls k s (by omega) g_ls_N) (@row_sl3L S1 ls k s (by omega) g_ls_N) (@row_sl2N S1 ls k (by omega)) (@row_sl1S S1 ls k (by omega)) (@row_len24 S1 l1 _ (by omega)) (@row_idxN S1 l1 k t (by omega) g_l1_N) (@row_sl3E S1 l1 (k+1) (by omega)) (@row_sl2S S1 l1 k (by omega)) (@row_sl1S S1 l1 k (by omega)) (@row_len24 S1 l2 _ (by omega)) (@row_idxS S1 l2 k s (by omega) g_l2_S))) (fun c hc=>by
  simp only[Qd,Qb,or_false] at hc
  rcases hc with rfl | rfl | rfl | rfl | rfl | rfl | rfl | rfl | rfl | rfl | rfl | rfl | rfl | rfl | rfl | rfl | rfl | rfl
  ·exact q67a
  ·exact q127c
  ·exact q127a
  ·exact q201a
  ·exact q246t
  ·exact q143b
  ·exact q208a
  ·exact q284
  ·exact q67b
  ·exact q91a
  ·exact q133
  ·exact q246s
  ·exact q127b
  ·exact q201b
  ·exact q143c
  ·exact q208b
  ·exact q67c
  ·exact q91b) mixed _ _ _ _ _ _ hrun
 exact tr_calls S1 S rfl (@nt_keys S1 _ _ _ _ _ _ _ _ _ [100,100,112]) rfl (@nt_eP S1 _ _ _ _ _ _ _ _ _ _ _) h2
end Go.Pg
namespace Go.Pg
open Go Go.Proofs
def tblP:List (OpK×List AV×AV):=
 [(.bin .geq 3,[Z22,Z1],Z18),
  (.len 24,[Z77],Z66),
  (.bin .lss 3,[Z22,Z66],Z18),
  (.idx 24,[Z77,Z22],.rp [Z99]),
  (.len 9,[Z99],Z68),
  (.bin .leq 3,[Z1,Z68],Z18),
  (.bin .sub 3,[Z66,Z22],Z78),
  (.bin .gtr 3,[Z17,Z78],Z2),
  (.bin .add 3,[Z22,Z17],Z65),
  (.bin .sub 3,[Z65,Z17],Z22),
  (.bin .lss 3,[Z22,Z1],Z2),
  (.bin .gtr 3,[Z22,Z22],Z2),
  (.bin .geq 3,[Z22,Z66],Z2),
  (.bin .sub 3,[Z22,Z22],Z1),
  (.bin .eql 3,[Z17,Z66],Z2),
  (.sub 24 3,[Z77,Z22,Z65],Z49),
  (.bin .gtr 3,[Z22,Z66],Z2),
  (.bin .sub 3,[Z66,Z17],Z51),
  (.bin .add 3,[Z51,Z1],Z51),
  (.bin .eql 3,[Z51,Z1],Z2),
  (.bin .neq 9,[Z99,Z99],Z2),
  (.sub 24 2,[Z77,Z22],.sym 23),
  (.sub 24 1,[Z77,Z65],.sym 24),
  (.len 24,[Z87],Z51),
  (.bin .sub 3,[Z51,Z17],.sym 36),
  (.mn,[Z22,.sym 36],Z22),
  (.idx 24,[Z87,Z22],.rp [.sym 2]),
  (.mx,[Z22,Z1],Z22),
  (.len 9,[.sym 2],.sym 37),
  (.bin .sub 3,[.sym 37,Z17],.sym 38),
  (.mx,[.sym 38,Z1],.sym 39),
  (.mx,[Z82,Z1],Z82),
  (.mn,[Z82,.sym 39],Z82),
  (.bin .leq 3,[Z22,Z22],Z18),
  (.sub 9 3,[Z99,Z1,Z68],Z99),
  (.bin .leq 3,[Z65,Z22],Z2),
  (.bin .add 3,[Z68,Z17],.sym 41),
  (.bin .add 3,[Z1,.sym 41],.sym 41),
  (.bin .gtr 3,[.sym 41,Z95],Z2),
  (.bin .gtr 3,[.sym 42,Z95],Z2),
  (.bin .lss 3,[Z22,Z51],Z18),
  (.bin .geq 3,[Z82,Z1],Z18),
  (.bin .leq 3,[Z82,.sym 37],Z18),
  (.bin .gtr 3,[Z22,Z51],Z2),
  (.bin .sub 3,[Z51,Z22],.sym 43),
  (.bin .gtr 3,[Z1,.sym 43],Z2),
  (.bin .sub 3,[Z51,Z1],Z51),
  (.bin .add 3,[Z51,Z17],Z66),
  (.bin .eql 3,[Z66,Z1],Z2),
  (.bin .add 3,[Z22,Z1],Z22),
  (.sub 24 3,[Z87,Z22,Z22],.sl 1 []),
  (.sub 24 2,[Z87,Z22],.sym 27),
  (.sub 24 1,[Z87,Z22],.sym 28),
  (.mn,[Z22,Z51],Z22),
  (.bin .sub 3,[Z68,Z17],.sym 44),
  (.mx,[.sym 44,Z1],.sym 45),
  (.mx,[Z98,Z1],Z98),
  (.mn,[Z98,.sym 45],Z98),
  (.bin .gtr 3,[.sym 47,Z95],Z2)]
theorem tameP (A A2:Tb.Bs)(c0 c1 c2:List Pc)(t0 t1 t2:List Int):tameAs [⟨5,1,ofBytes A⟩,⟨209,3,c0.map aPc⟩,⟨3,1,t0.map bInt⟩,⟨209,3,c1.map aPc⟩,⟨3,1,t1.map bInt⟩,⟨5,1,ofBytes A2⟩,⟨209,3,c2.map aPc⟩,⟨3,1,t2.map bInt⟩]=true:=by
 simp only[tameAs,Qj,Ql,tame_bytes,tame_pcs,tame_bints,Qk]
@[reducible] def sP (F s t A A2:Tb.Bs) (ls l1 l2 p0 q0 p1 q1 p2 q2:List Tb.Bs) (c0 c1 c2:List Pc) (t0 t1 t2:List Int) (k n sl tl fc fs top size top2 ed ah:Int):Syms:=
 mkS [.nls,.str s,.str t,.int .i64 ah,.nls,.nls,.nls,.nls,.nls,.nls,.str F,.nls,.nls,.nls,.nls,.nls,.nls,.nls,.nls,.nls,.sl 1 (ls.map .str),.sl 1 (l1.map .str),.sl 1 (l2.map .str),.sl 1 (p0.map .str),.sl 1 (q0.map .str),.sl 1 (p1.map .str),.sl 1 (q1.map .str),.sl 1 (p2.map .str),.sl 1 (q2.map .str),.nls,.int .i64 (k),.int .i64 (n),.int .i64 (sl),.int .i64 (-k+n),.int .i64 (k+1),.int .i64 (n - 1),.int .i64 (n - 2),.int .i64 (tl),.int .i64 (tl - 1),.int .i64 ((max (tl - 1) 0)),.int .i64 (fc),.int .i64 (sl+1),.int .i64 (-sl+size),.int .i64 (-k+n - 1),.int .i64 (sl - 1),.int .i64 ((max (sl - 1) 0)),.int .i64 (fs),.int .i64 (size+1),.int .i64 (size),.int .i64 (ed),.int .i64 (-sl+size - 1),.int .i64 (ed+1),.int .i64 (top),.int .i64 (ed+2)]
  [⟨5,1,ofBytes A⟩,⟨209,3,c0.map aPc⟩,⟨3,1,t0.map bInt⟩,⟨209,3,c1.map aPc⟩,⟨3,1,t1.map bInt⟩,⟨5,1,ofBytes A2⟩,⟨209,3,c2.map aPc⟩,⟨3,1,t2.map bInt⟩] [A.length,c0.length,t0.length,c1.length,t1.length,A2.length,c2.length,t2.length] tblP rfl (tameP A A2 c0 c1 c2 t0 t1 t2)
set_option maxRecDepth 100000 in
theorem tblOKP (F s t A A2:Tb.Bs)(ls l1 l2 p0 q0 p1 q1 p2 q2:List Tb.Bs)(c0 c1 c2:List Pc)(t0 t1 t2:List Int)(k n sl tl fc fs top size top2 ed ah:Int)(h1:0≤k∧k+1<n∧n≤4000)(hs1:(s.length:Int)=sl)(ht1:(t.length:Int)=tl)(h2:0≤size∧size≤4000∧sl≤size∧tl≤size)(h3:0≤fc∧fc≤max (tl - 1) 0)(h4:0≤fs∧fs≤max (sl - 1) 0)(h5:0≤ed∧ed≤4000)
 (hr0:opkV Tryz.prog (.len 24) [.sl 1 (ls.map .str)]=some (.int .i64 (n)))
 (hr1:opkV Tryz.prog (.idx 24) [.sl 1 (ls.map .str),.int .i64 (k)]=some (.rp [.str s]))
 (hr2:opkV Tryz.prog (.sub 24 3) [.sl 1 (ls.map .str),.int .i64 (k),.int .i64 (k+1)]=some (.sl 1 [.str s]))
 (hr3:opkV Tryz.prog (.sub 24 2) [.sl 1 (ls.map .str),.int .i64 (k)]=some (.sl 1 (p0.map .str)))
 (hr4:opkV Tryz.prog (.sub 24 1) [.sl 1 (ls.map .str),.int .i64 (k+1)]=some (.sl 1 (q0.map .str)))
 (hr5:opkV Tryz.prog (.len 24) [.sl 1 (l1.map .str)]=some (.int .i64 (n - 1)))
 (hr6:opkV Tryz.prog (.idx 24) [.sl 1 (l1.map .str),.int .i64 (k)]=some (.rp [.str t]))
 (hr7:opkV Tryz.prog (.sub 24 3) [.sl 1 (l1.map .str),.int .i64 (k),.int .i64 (k)]=some (.sl 1 []))
 (hr8:opkV Tryz.prog (.sub 24 2) [.sl 1 (l1.map .str),.int .i64 (k)]=some (.sl 1 (p2.map .str)))
 (hr9:opkV Tryz.prog (.sub 24 1) [.sl 1 (l1.map .str),.int .i64 (k)]=some (.sl 1 (q2.map .str))) :
 @TblOK (sP F s t A A2 ls l1 l2 p0 q0 p1 q1 p2 q2 c0 c1 c2 t0 t1 t2 k n sl tl fc fs top size top2 ed ah) Tryz.prog:=by
 letI:=sP F s t A A2 ls l1 l2 p0 q0 p1 q1 p2 q2 c0 c1 c2 t0 t1 t2 k n sl tl fc fs top size top2 ed ah
 have hs0:0≤sl:=by omega
 have ht0:0≤tl:=by omega
 refine tblOK_of fun r hr=>?_
 change r∈tblP at hr
 simp only[tblP,Qd,Qb,or_false] at hr
 rcases hr with rfl | rfl | rfl | rfl | rfl | rfl | rfl | rfl | rfl | rfl | rfl | rfl | rfl | rfl | rfl | rfl | rfl | rfl | rfl | rfl | rfl | rfl | rfl | rfl | rfl | rfl | rfl | rfl | rfl | rfl | rfl | rfl | rfl | rfl | rfl | rfl | rfl | rfl | rfl | rfl | rfl | rfl | rfl | rfl | rfl | rfl | rfl | rfl | rfl | rfl | rfl | rfl | rfl | rfl | rfl | rfl | rfl | rfl | rfl
 ·exact row_geq (P:=Tryz.prog) (k) (0) true (decide_eq_true (by omega))
 ·exact hr0
 ·exact row_lss (P:=Tryz.prog) (k) (n) true (decide_eq_true (by omega))
 ·exact hr1
 ·exact row_lenS (P:=Tryz.prog) tkT9 s _ hs1
 ·exact row_leq (P:=Tryz.prog) (0) (sl) true (decide_eq_true (by omega))
 ·exact row_sub (P:=Tryz.prog) (n) (k) (-k+n) (by omega) (by omega) (by omega)
 ·exact row_gtr (P:=Tryz.prog) (1) (-k+n) false (decide_eq_false (by omega))
 ·exact row_add (P:=Tryz.prog) (k) (1) (k+1) (by omega) (by omega) (by omega)
 ·exact row_sub (P:=Tryz.prog) (k+1) (1) (k) (by omega) (by omega) (by omega)
 ·exact row_lss (P:=Tryz.prog) (k) (0) false (decide_eq_false (by omega))
 ·exact row_gtr (P:=Tryz.prog) (k) (k) false (decide_eq_false (by omega))
 ·exact row_geq (P:=Tryz.prog) (k) (n) false (decide_eq_false (by omega))
 ·exact row_sub (P:=Tryz.prog) (k) (k) (0) (by omega) (by omega) (by omega)
 ·exact row_eql (P:=Tryz.prog) (1) (n) false (beq_eq_false_iff_ne.2 (by omega))
 ·exact hr2
 ·exact row_gtr (P:=Tryz.prog) (k) (n) false (decide_eq_false (by omega))
 ·exact row_sub (P:=Tryz.prog) (n) (1) (n - 1) (by omega) (by omega) (by omega)
 ·exact row_add (P:=Tryz.prog) (n - 1) (0) (n - 1) (by omega) (by omega) (by omega)
 ·exact row_eql (P:=Tryz.prog) (n - 1) (0) false (beq_eq_false_iff_ne.2 (by omega))
 ·exact row_neqS (P:=Tryz.prog) s s false (by simp)
 ·exact hr3
 ·exact hr4
 ·exact hr5
 ·exact row_sub (P:=Tryz.prog) (n - 1) (1) (n - 2) (by omega) (by omega) (by omega)
 ·exact row_mn (P:=Tryz.prog) (k) (n - 2) (k) (by omega)
 ·exact hr6
 ·exact row_mx (P:=Tryz.prog) (k) (0) (k) (by omega)
 ·exact row_lenS (P:=Tryz.prog) tkT9 t _ ht1
 ·exact row_sub (P:=Tryz.prog) (tl) (1) (tl - 1) (by omega) (by omega) (by omega)
 ·exact row_mx (P:=Tryz.prog) (tl - 1) (0) ((max (tl - 1) 0)) (by omega)
 ·exact row_mx (P:=Tryz.prog) (fc) (0) (fc) (by omega)
 ·exact row_mn (P:=Tryz.prog) (fc) ((max (tl - 1) 0)) (fc) (by omega)
 ·exact row_leq (P:=Tryz.prog) (k) (k) true (decide_eq_true (by omega))
 ·exact row_s3 s _ hs1
 ·exact row_leq (P:=Tryz.prog) (k+1) (k) false (decide_eq_false (by omega))
 ·exact row_add (P:=Tryz.prog) (sl) (1) (sl+1) (by omega) (by omega) (by omega)
 ·exact row_add (P:=Tryz.prog) (0) (sl+1) (sl+1) (by omega) (by omega) (by omega)
 ·exact row_gtr (P:=Tryz.prog) (sl+1) (4096) false (decide_eq_false (by omega))
 ·exact row_gtr (P:=Tryz.prog) (-sl+size) (4096) false (decide_eq_false (by omega))
 ·exact row_lss (P:=Tryz.prog) (k) (n - 1) true (decide_eq_true (by omega))
 ·exact row_geq (P:=Tryz.prog) (fc) (0) true (decide_eq_true (by omega))
 ·exact row_leq (P:=Tryz.prog) (fc) (tl) true (decide_eq_true (by omega))
 ·exact row_gtr (P:=Tryz.prog) (k) (n - 1) false (decide_eq_false (by omega))
 ·exact row_sub (P:=Tryz.prog) (n - 1) (k) (-k+n - 1) (by omega) (by omega) (by omega)
 ·exact row_gtr (P:=Tryz.prog) (0) (-k+n - 1) false (decide_eq_false (by omega))
 ·exact row_sub (P:=Tryz.prog) (n - 1) (0) (n - 1) (by omega) (by omega) (by omega)
 ·exact row_add (P:=Tryz.prog) (n - 1) (1) (n) (by omega) (by omega) (by omega)
 ·exact row_eql (P:=Tryz.prog) (n) (0) false (beq_eq_false_iff_ne.2 (by omega))
 ·exact row_add (P:=Tryz.prog) (k) (0) (k) (by omega) (by omega) (by omega)
 ·exact hr7
 ·exact hr8
 ·exact hr9
 ·exact row_mn (P:=Tryz.prog) (k) (n - 1) (k) (by omega)
 ·exact row_sub (P:=Tryz.prog) (sl) (1) (sl - 1) (by omega) (by omega) (by omega)
 ·exact row_mx (P:=Tryz.prog) (sl - 1) (0) ((max (sl - 1) 0)) (by omega)
 ·exact row_mx (P:=Tryz.prog) (fs) (0) (fs) (by omega)
 ·exact row_mn (P:=Tryz.prog) (fs) ((max (sl - 1) 0)) (fs) (by omega)
 ·exact row_gtr (P:=Tryz.prog) (size+1) (4096) false (decide_eq_false (by omega))
set_option maxRecDepth 100000 in
set_option maxHeartbeats 4000000 in
theorem calls_ddP [S:Syms] {F:Tb.Bs}{L:List Tb.Pc}{ls:List Tb.Bs}(h:BufOK F [] L ls)(hT:(Tb.joinL ls).length≤4000)(hn:ls.length≤4000)(hL:L.length≤400)(hold:∀p∈L,p.added=false)(k:Nat)(hk:k+1<ls.length)(top ah:Int)(htop:0≤top∧top≤4000)
 (hscr:scr top k ((ls.length:Int) - 1)=top) (hscr2:scr top k ls.length=top) (s t:Tb.Bs) (hs:s=ls.getD k []) (ht:t=ls.getD (k+1) []) (l1 l2:List Tb.Bs) (hl1:l1=ls.take k ++ ls.drop (k+1)) (hl2:l2=l1.take (k) ++ s :: l1.drop (k)) :
 ∃(A2:Tb.Bs) (L2:List Tb.Pc),BufOK F A2 L2 ls∧CallsR Tryz.prog 8 [Z36,.own 20 1 3] (eJ F [] (pcs L) (cN (Tb.starts (Tb.joinL ls))) k top ((Tb.joinL ls).length) 0 ah ++ [.arr 5 1 [Z97,Z97,.int .u8 80]]) (Z18) (eQ F s A2 (pcs L2) (cN (Tb.starts (Tb.joinL ls))) k (firstC t) (firstC s) top (((Tb.joinL ls).length:Nat)) 0):=by
 have hsz:=few_join ls h.ne k
 have htz:=few_join ls h.ne (k+1)
 rw[←hs] at hsz
 rw[←ht] at htz
 have g_ls_N:=hs.symm
 have g_ls_S:=ht.symm
 have g_l1_N:l1.getD k []=t:=by rw[hl1,getD_cut_lt ls hk,←ht]
 have hl1len:l1.length+1=ls.length:=by rw[hl1,Qg,Qa,Qe];omega
 have hl2len:l2.length=ls.length:=by rw[hl2,Qg,Qa,Qi,Qe];omega
 have hs1:size l1=size ls - (s.length+1):=by rw[hl1,size_cut ls (by omega),←hs]
 have hs2:size l2=size l1+(s.length+1):=by rw[hl2,size_put]
 have hsn:(10:UInt8)∉s:=by rw[hs];exact clean_getD h.clean k
 have hl2e:l2=ls:=by
  rw[hl2,hl1,hs]
  have e1:(ls.take k ++ ls.drop (k+1)).take k=ls.take k:=by rw[List.take_append_of_le_length (by rw[Qa];omega),List.take_take,Nat.min_self]
  have e2:(ls.take k ++ ls.drop (k+1)).drop k=ls.drop (k+1):=by rw[List.drop_append,List.drop_of_length_le (by rw[Qa];omega),Qa,show k - min k ls.length=0 by omega];rfl
  rw[e1,e2,←Tb.drop_line (show k<ls.length by omega),List.take_append_drop]
 obtain⟨L1,b1,hL1,hold1,q208a⟩:= @calls_RdelB S F [] L ls h hL hold 0 (by omega) k hk
 rw[←hl1] at b1 q208a
 have z1:=size_joinL l1 b1.ne
 have z0:=size_joinL ls h.ne
 have e1:(((Tb.joinL l1).length:Nat):Int)= -(s.length:Int)+(Tb.joinL ls).length - 1:=by omega
 obtain⟨A2,L2,b2,q208b⟩:= @calls_RputB S F [] L1 l1 b1 (by simp) hL1 hold1 (0+1) (by omega) (k) (by omega) s hsn (by omega)
 rw[←hl2,hl2e] at b2 q208b
 refine⟨A2,L2,b2,?_⟩
 let S1:=sP F s t [] A2 ls l1 l2 (ls.take k) (ls.drop (k+1)) [] [] (l1.take k) (l1.drop k) (pcs L) (pcs L1) (pcs L2) (cN (Tb.starts (Tb.joinL ls))) (cN (Tb.starts (Tb.joinL l1))) (cN (Tb.starts (Tb.joinL ls))) k ls.length s.length t.length (firstC t) (firstC s) top (Tb.joinL ls).length top 0 ah
 have q67a:= @calls_LinesB S1 _ _ _ _ h 0
 have q67b:= @calls_LinesB S1 _ _ _ _ b1 (0+1)
 have q67c:= @calls_LinesB S1 _ _ _ _ b2 (0+2)
 replace q208a:=tr_calls S S1 (by simp [ntL,nt]) (nt_bH _ _ _ _ _ _) rfl (@nt_bHU S _ _ _ _ _ _) q208a
 replace q208b:=tr_calls S S1 (by simp [ntL,nt]) (nt_bH1 _ _ _ _ _ _ _) rfl (@nt_bHV S _ _ _ _ _ _ _) q208b
 unfold bHL at q67a q67b q67c q208a q208b
 rw[e1] at q67b q208a q208b
 have q127a:= @calls_CloneS S1 ls (by omega)
 have q127b:= @calls_CloneS S1 l1 (by omega)
 have q127c:= @calls_CloneS S1 [s] (by simp)
 have q133:= @calls_Contains S1 s hsn
 have q143a:= @calls_CSize S1 ls (few_buf h hn)
 have q143b:= @calls_CSize S1 l1 (few_buf b1 (by omega))
 rw[show size ls=((Tb.joinL ls).length:Int)+1 by omega] at q143a
 rw[show size l1= -(s.length:Int)+(Tb.joinL ls).length by omega] at q143b
 have q201a:= @calls_Concat0 S1 (ls.take k) (ls.drop (k+1)) (by rw[Qa,Qe];omega) (by rw[Qa,Qe];omega)
 rw[←hl1] at q201a
 have q201b:= @calls_Concat1 S1 (l1.take (k)) (l1.drop (k)) s (by rw[Qa,Qe];omega)
 rw[←hl2,hl2e] at q201b
 have fS:=firstC_ok s
 have fT:=firstC_ok t
 have q246s:= @calls_First S1 s (by omega)
 have q246t:= @calls_First S1 t (by omega)
 have q284:= @Le.calls_Clone S1 []
 have q91a:= @calls_Scroll S1 top k ((ls.length:Int) - 1) (by omega) (by omega) (by omega)
 rw[hscr] at q91a
 have q91b:= @calls_Scroll S1 top k ls.length (by omega) (by omega) (by omega)
 rw[hscr2] at q91b
 have hrun: @evF S1 Tryz.prog (@Lf.rows [⟨67,[Z63],[Z6,.arr 211 6 [.agg [Z62,Z76,Z35,Z86,Z10,.sym 49]],Z94,Z48,.tok 1,Z20,Z46,.tok 2],Z77,[Z6,.arr 211 6 [.agg [Z62,Z76,Z35,Z86,Z10,.sym 49]],Z94,Z48,.tok 1,Z20,Z46,.tok 2]⟩,
  ⟨127,[Z49],[],Z49,[]⟩,
  ⟨127,[Z77],[],Z77,[]⟩,
  ⟨201,[.own 0 1 3],[Z81],Z87,[Z81]⟩,
  ⟨246,[.sym 2],[],Z82,[]⟩,
  ⟨143,[Z87],[],.sym 42,[]⟩,
  ⟨208,[Z63,Z22,Z17,.nls],[Z6,.arr 211 6 [.agg [Z62,Z76,Z35,Z86,Z10,.sym 49]],Z94,Z48,.tok 1,Z20,Z46,.tok 2],Z1,[Z6,.arr 211 6 [.agg [Z62,Z76,Z35,.sym 50,Z10,.sym 51]],Z94,.arr 283 1 [.agg [.ows 8 3 3]],.dead,Z34,Z84,.dead,.tok 3,.tok 4]⟩,
  ⟨284,[.mp 0],[Z44],.mp 1,[Z44,Z44]⟩,
  ⟨67,[Z63],[Z6,.arr 211 6 [.agg [Z62,Z76,Z35,.sym 50,Z10,.sym 51]],Z94,Z71,.tok 3,Z34,Z69,.tok 4],Z87,[Z6,.arr 211 6 [.agg [Z62,Z76,Z35,.sym 50,Z10,.sym 51]],Z94,Z71,.tok 3,Z34,Z69,.tok 4]⟩,
  ⟨91,[.sym 52,Z22,Z51],[],.sym 52,[]⟩,
  ⟨133,[Z99,.str [10]],[],Z2,[]⟩,
  ⟨246,[Z99],[],Z98,[]⟩,
  ⟨127,[Z87],[],Z87,[]⟩,
  ⟨201,[.own 0 1 3],[.arr 24 1 [.sym 27,.own 1 1 1,.sym 28],Z50],Z77,[.arr 24 1 [.sym 27,.own 1 1 1,.sym 28],Z50]⟩,
  ⟨143,[Z77],[],.sym 47,[]⟩,
  ⟨208,[Z63,Z22,Z1,.own 8 1 1],[Z6,.arr 211 6 [.agg [Z62,Z76,Z35,.sym 50,Z10,.sym 51]],Z94,Z71,.tok 3,Z34,Z69,.tok 4,Z50],Z1,[Z6,.arr 211 6 [.agg [Z62,Z96,Z35,Z86,Z10,.sym 53]],.tok 5,.arr 283 1 [.agg [.ows 9 3 6]],.dead,Z20,.arr 288 1 [.agg [.ows 10 1 7]],.dead,Z50,.tok 6,.tok 7]⟩,
  ⟨67,[Z63],[Z6,.arr 211 6 [.agg [Z62,Z96,Z35,Z86,Z10,.sym 53]],.tok 5,Z47,.tok 6,Z20,Z45,.tok 7],Z77,[Z6,.arr 211 6 [.agg [Z62,Z96,Z35,Z86,Z10,.sym 53]],.tok 5,Z47,.tok 6,Z20,Z45,.tok 7]⟩,
  ⟨91,[.sym 52,Z22,Z66],[],.sym 52,[]⟩] kB) 60 8 [Z36,.own 20 1 3] [.arr 49 7 [.agg [Z21,Z54,Z58,Z3,.nls,Z3,Z2]],.arr 83 32 [.agg [Z22,Z1,Z1,.sym 52,Z3,Z3,Z7,Z2,Z23,Z1,Z1,Z1,Z28,Z27,Z26,Z24,Z1,Z1,Z1,.nls,Z2,.npt,Z3,Z1,Z7,Z7,Z3,Z7,.nls,Z2,.sym 3,Z1]],Z5,.arr 211 6 [.agg [Z62,.ows 4 1 0,Z29,Z86,Z10,.sym 49]],Z94,Z74,.tok 1,.arr 216 2 [.agg [Z30,Z86]],Z73,.tok 2,Z15,Z44,Z14,Z44,.arr 135 2 [.agg [Z25,Z1]],Z13,.arr 155 3 [.agg [Z59,Z1,.npt]],Z41,.arr 103 14 [.agg [Z1,Z2,Z2,Z2,Z3,Z1,Z7,Z7,Z3,Z7,Z1,Z2,Z1,Z2]],Z4,.arr 5 1 [Z52,Z52,.int .u8 (80)]]= .ok (Z18,[.arr 49 7 [.agg [Z21,Z54,Z58,Z3,.nls,Z3,Z2]],.arr 83 32 [.agg [Z22,Z98,Z98,.sym 52,Z3,Z3,Z7,Z2,Z23,Z1,Z1,Z1,Z28,Z27,Z26,Z24,Z1,Z1,Z1,.nls,Z2,.npt,Z3,Z1,Z7,.str [80],Z3,Z7,.nls,Z18,Z22,Z82]],Z5,.arr 211 6 [.agg [Z62,Z101,Z29,Z86,Z10,.sym 53]],.tok 5,Z104,.dead,.arr 216 2 [.agg [Z30,Z86]],.arr 288 1 [.agg [.ows 22 1 7]],.dead,Z15,Z9,Z14,Z44,.arr 135 2 [.agg [Z25,Z1]],Z13,Z8,Z67,.arr 103 14 [.agg [Z1,Z2,Z2,Z2,Z3,Z1,Z7,Z7,Z3,Z7,Z1,Z2,Z1,Z2]],Z4,.arr 5 1 [Z52,Z52,.int .u8 (80)],.tok 6,.tok 7,.arr 152 5 [.agg [Z22,Z1,Z22,Z82,.own 24 3 1],.agg [Z22,Z82,Z22,Z98,.own 25 3 1]],.arr 107 3 [.agg [Z22,Z49,.nls]],.arr 107 3 [.agg [Z22,.nls,.own 26 1 1]],Z50]):=by kernel_rfl
 have h2:= @run_rows S1 _ _ _ (@kB_ok S1 (tblOKP F s t [] A2 ls l1 l2 (ls.take k) (ls.drop (k+1)) [] [] (l1.take k) (l1.drop k) (pcs L) (pcs L1) (pcs L2) (cN (Tb.starts (Tb.joinL ls))) (cN (Tb.starts (Tb.joinL l1))) (cN (Tb.starts (Tb.joinL ls))) k ls.length s.length t.length (firstC t) (firstC s) top (Tb.joinL ls).length top 0 ah (by omega) rfl rfl (by omega) (by omega) (by omega) (by omega) (@row_len24 S1 ls _ (by omega)) (@row_idxN S1 ls k s (by omega) g_ls_N) (@row_sl3L S1 ls k s (by omega) g_ls_N) (@row_sl2N S1 ls k (by omega)) (@row_sl1S S1 ls k (by omega)) (@row_len24 S1 l1 _ (by omega)) (@row_idxN S1 l1 k t (by omega) g_l1_N) (@row_sl3E S1 l1 (k) (by omega)) (@row_sl2N S1 l1 k (by omega)) (@row_sl1N S1 l1 k (by omega)))) (fun c hc=>by
  simp only[Qd,Qb,or_false] at hc
  rcases hc with rfl | rfl | rfl | rfl | rfl | rfl | rfl | rfl | rfl | rfl | rfl | rfl | rfl | rfl | rfl | rfl | rfl | rfl
  ·exact q67a
  ·exact q127c
  ·exact q127a
  ·exact q201a
  ·exact q246t
  ·exact q143b
  ·exact q208a
  ·exact q284
  ·exact q67b
  ·exact q91a
  ·exact q133
  ·exact q246s
  ·exact q127b
  ·exact q201b
  ·exact q143a
  ·exact q208b
  ·exact q67c
  ·exact q91b) mixed _ _ _ _ _ _ hrun
 exact tr_calls S1 S rfl (@nt_keys S1 _ _ _ _ _ _ _ _ _ [100,100,80]) rfl (@nt_eQ S1 _ _ _ _ _ _ _ _ _ _ _) h2
end Go.Pg
namespace Go.Pg
open Go Go.Proofs
theorem tames (A A2:Tb.Bs)(c0 c1 c2:List Pc)(t0 t1 t2:List Int):tameAs [⟨5,1,ofBytes A⟩,⟨209,3,c0.map aPc⟩,⟨3,1,t0.map bInt⟩,⟨209,3,c1.map aPc⟩,⟨3,1,t1.map bInt⟩,⟨5,1,ofBytes A2⟩,⟨209,3,c2.map aPc⟩,⟨3,1,t2.map bInt⟩]=true:=by
 simp only[tameAs,Qj,Ql,tame_bytes,tame_pcs,tame_bints,Qk]
@[reducible] def ss (F s t A A2:Tb.Bs) (ls l1 l2 p0 q0 p1 q1 p2 q2:List Tb.Bs) (c0 c1 c2:List Pc) (t0 t1 t2:List Int) (k n sl tl fc fs top size top2 ed ah:Int):Syms:=
 mkS [.nls,.str s,.str t,.int .i64 ah,.nls,.nls,.nls,.nls,.nls,.nls,.str F,.nls,.nls,.nls,.nls,.nls,.nls,.nls,.nls,.nls,.sl 1 (ls.map .str),.sl 1 (l1.map .str),.sl 1 (l2.map .str),.sl 1 (p0.map .str),.sl 1 (q0.map .str),.sl 1 (p1.map .str),.sl 1 (q1.map .str),.sl 1 (p2.map .str),.sl 1 (q2.map .str),.nls,.int .i64 (size),.int .i64 (ed+2),.int .i64 (k+1),.int .i64 (fs),.int .i64 (top2),.int .i64 (k),.int .i64 (fc)]
  [⟨5,1,ofBytes A⟩,⟨209,3,c0.map aPc⟩,⟨3,1,t0.map bInt⟩,⟨209,3,c1.map aPc⟩,⟨3,1,t1.map bInt⟩,⟨5,1,ofBytes A2⟩,⟨209,3,c2.map aPc⟩,⟨3,1,t2.map bInt⟩] [A.length,c0.length,t0.length,c1.length,t1.length,A2.length,c2.length,t2.length] [] rfl (tames A A2 c0 c1 c2 t0 t1 t2)
abbrev rS (l2:List Tb.Bs)(s:Tb.Bs)(k fs top2:Int):AV:= .agg [.sl 1 (l2.map .str),.int .i64 (k+1),.int .i64 (fs),.int .i64 (fs),Z1,Z1,Z1,Z2,.int .i64 (top2),.own 24 1 2,.own 25 2 2,.own 26 1 0,.nls,.nls,Z1,Z3]
set_option maxRecDepth 100000 in
theorem calls_State [S:Syms] {F A2:Tb.Bs}{L2:List Tb.Pc}{l2:List Tb.Bs}(b2:BufOK F A2 L2 l2)(s:Tb.Bs)(k fc fs top2:Int) :
 CallsR Tryz.prog 9 [Z36] (eS F s A2 (pcs L2) (cN (Tb.starts (Tb.joinL l2))) k fc fs (((Tb.joinL l2).length:Nat)) top2 0) (rS l2 s k fs top2) (eS2 F s A2 (pcs L2) (cN (Tb.starts (Tb.joinL l2))) k fc fs (((Tb.joinL l2).length:Nat)) top2 0):=by
 let S1:=ss F s [] [] A2 [] [] l2 [] [] [] [] [] [] [] [] (pcs L2) [] [] (cN (Tb.starts (Tb.joinL l2))) k 0 0 0 fc fs 0 ((Tb.joinL l2).length:Nat) top2 0 0
 have q67c:= @calls_LinesB S1 _ _ _ _ b2 (0+2)
 have q127c:= @calls_CloneS S1 [s] (by simp)
 have q68a:= @Le.leaf_SortedT S1 s
 have q68b:= @Le.leaf_SortedP S1
 have hrun: @evF S1 Tryz.prog (@Lf.rows [⟨67,[Z63],[Z6,.arr 211 6 [.agg [Z62,Z96,Z35,Z22,Z10,Z66]],.tok 5,Z47,.tok 6,.arr 216 2 [.agg [Z108,Z22]],Z45,.tok 7],.sym 22,[Z6,.arr 211 6 [.agg [Z62,Z96,Z35,Z22,Z10,Z66]],.tok 5,Z47,.tok 6,.arr 216 2 [.agg [Z108,Z22]],Z45,.tok 7]⟩,
  ⟨68,[.fn 126 [Z109]],[Z89,Z9],.own 2 1 2,[Z89,Z9,.arr 5 1 [Z32,Z57]]⟩,
  ⟨127,[Z49],[],Z49,[]⟩,
  ⟨68,[.fn 128 [Z109]],[Z88,Z44],.own 2 1 0,[Z88,Z44,Z103]⟩] kB) 60 9 [Z36] [.arr 49 7 [.agg [Z21,Z38,Z43,Z3,.nls,Z3,Z2]],.arr 83 32 [.agg [Z68,Z78,Z78,Z65,Z3,Z3,Z7,Z2,Z23,Z1,Z1,Z1,Z28,Z27,Z26,Z24,Z1,Z1,Z1,.nls,Z2,.npt,Z3,Z1,Z7,Z75,Z3,Z7,.nls,Z18,Z51,.sym 36]],Z5,.arr 211 6 [.agg [Z62,Z101,Z29,Z22,Z10,Z66]],.tok 5,Z70,.tok 6,.arr 216 2 [.agg [Z30,Z22]],Z83,.tok 7,Z15,Z9,Z14,Z44,.arr 135 2 [.agg [Z25,Z1]],Z13,Z8,Z19,.arr 152 5 [.agg [Z51,Z1,Z51,.sym 36,Z61],.agg [Z51,.sym 36,Z68,Z78,Z80]],.arr 107 3 [.agg [Z51,Z49,.nls]],.arr 107 3 [.agg [Z68,.nls,Z60]],Z50,.arr 103 14 [.agg [Z1,Z2,Z2,Z2,Z3,Z1,Z7,Z7,Z3,Z7,Z1,Z2,Z1,Z2]],Z4]= .ok (.agg [.sym 22,Z68,Z78,Z78,Z1,Z1,Z1,Z2,Z65,.own 24 1 2,.own 25 2 2,.own 26 1 0,.nls,.nls,Z1,Z3],[.arr 49 7 [.agg [Z21,Z38,Z43,Z3,.nls,Z3,Z2]],.arr 83 32 [.agg [Z68,Z78,Z78,Z65,Z3,Z3,Z7,Z2,Z23,Z1,Z1,Z1,Z28,Z27,Z26,Z24,Z1,Z1,Z1,.nls,Z2,.npt,Z3,Z1,Z7,Z75,Z3,Z7,.nls,Z18,Z51,.sym 36]],Z5,.arr 211 6 [.agg [Z62,Z101,Z29,Z22,Z10,Z66]],.tok 5,Z70,.tok 6,.arr 216 2 [.agg [Z30,Z22]],Z83,.tok 7,Z15,Z9,Z14,Z44,.arr 135 2 [.agg [Z25,Z1]],Z13,Z8,Z19,.arr 152 5 [.agg [Z51,Z1,Z51,.sym 36,Z61],.agg [Z51,.sym 36,Z68,Z78,Z80]],.arr 107 3 [.agg [Z51,Z49,.nls]],.arr 107 3 [.agg [Z68,.nls,Z60]],Z50,.arr 103 14 [.agg [Z1,Z2,Z2,Z2,Z3,Z1,Z7,Z7,Z3,Z7,Z1,Z2,Z1,Z2]],Z4,.arr 5 1 [Z32,Z57],.arr 87 2 [.agg [Z17,Z49],.agg [Z17,Z49]],Z103]):=by kernel_rfl
 have h2:= @run_rows S1 _ _ _ (@kB_ok S1 (@tblOK_of S1 _ (fun r hr=>by cases hr))) (fun c hc=>by
  simp only[Qd,Qb,or_false] at hc
  rcases hc with rfl | rfl | rfl | rfl
  ·exact q67c
  ·exact q68a
  ·exact q127c
  ·exact q68b) mixed _ _ _ _ _ _ hrun
 refine tr_calls S1 S rfl (@nt_eS S1 _ _ _ _ _ _ _ _ _ _ _) ?_ (@nt_eS2 S1 _ _ _ _ _ _ _ _ _ _ _) h2
 simp only[nt,ntL,Qo,Qu]
 exact ntL_map _ (fun _=>rfl) _
end Go.Pg
namespace Go.Pg
open Go Go.Proofs
theorem tamet (A A2:Tb.Bs)(c0 c1 c2:List Pc)(t0 t1 t2:List Int):tameAs [⟨5,1,ofBytes A⟩,⟨209,3,c0.map aPc⟩,⟨3,1,t0.map bInt⟩,⟨209,3,c1.map aPc⟩,⟨3,1,t1.map bInt⟩,⟨5,1,ofBytes A2⟩,⟨209,3,c2.map aPc⟩,⟨3,1,t2.map bInt⟩]=true:=by
 simp only[tameAs,Qj,Ql,tame_bytes,tame_pcs,tame_bints,Qk]
@[reducible] def st (F s t A A2:Tb.Bs) (ls l1 l2 p0 q0 p1 q1 p2 q2:List Tb.Bs) (c0 c1 c2:List Pc) (t0 t1 t2:List Int) (k n sl tl fc fs top size top2 ed ah:Int):Syms:=
 mkS [.nls,.str s,.str t,.int .i64 ah,.nls,.nls,.nls,.nls,.nls,.nls,.str F,.nls,.nls,.nls,.nls,.nls,.nls,.nls,.nls,.nls,.sl 1 (ls.map .str),.sl 1 (l1.map .str),.sl 1 (l2.map .str),.sl 1 (p0.map .str),.sl 1 (q0.map .str),.sl 1 (p1.map .str),.sl 1 (q1.map .str),.sl 1 (p2.map .str),.sl 1 (q2.map .str),.nls,.int .i64 (size),.int .i64 (ed+2),.int .i64 (k),.int .i64 (fs),.int .i64 (top),.int .i64 (fc)]
  [⟨5,1,ofBytes A⟩,⟨209,3,c0.map aPc⟩,⟨3,1,t0.map bInt⟩,⟨209,3,c1.map aPc⟩,⟨3,1,t1.map bInt⟩,⟨5,1,ofBytes A2⟩,⟨209,3,c2.map aPc⟩,⟨3,1,t2.map bInt⟩] [A.length,c0.length,t0.length,c1.length,t1.length,A2.length,c2.length,t2.length] [] rfl (tamet A A2 c0 c1 c2 t0 t1 t2)
set_option maxRecDepth 100000 in
theorem calls_Text [S:Syms] {F A2:Tb.Bs}{L2:List Tb.Pc}{l2:List Tb.Bs}(b2:BufOK F A2 L2 l2)(s:Tb.Bs)(k fc fs top:Int) :
 CallsR Tryz.prog 11 [Z36] (eT F s A2 (pcs L2) (cN (Tb.starts (Tb.joinL l2))) k fc fs top (((Tb.joinL l2).length:Nat)) 0) (.sl 1 (l2.map .str)) (eT2 F s A2 (pcs L2) (cN (Tb.starts (Tb.joinL l2))) k fc fs top (((Tb.joinL l2).length:Nat)) 0):=by
 let S1:=st F s [] [] A2 l2 [] [] [] [] [] [] [] [] [] [] (pcs L2) [] [] (cN (Tb.starts (Tb.joinL l2))) k 0 0 0 fc fs top ((Tb.joinL l2).length:Nat) 0 0 0
 have q67c:= @calls_LinesB S1 _ _ _ _ b2 (0+2)
 have q127c:= @calls_CloneS S1 [s] (by simp)
 have q68a:= @Le.leaf_SortedT S1 s
 have q68b:= @Le.leaf_SortedP S1
 have hrun: @evF S1 Tryz.prog (@Lf.rows [⟨67,[Z63],[Z6,.arr 211 6 [.agg [Z62,Z96,Z35,Z22,Z10,Z66]],.tok 5,Z47,.tok 6,.arr 216 2 [.agg [Z108,Z22]],Z45,.tok 7],Z77,[Z6,.arr 211 6 [.agg [Z62,Z96,Z35,Z22,Z10,Z66]],.tok 5,Z47,.tok 6,.arr 216 2 [.agg [Z108,Z22]],Z45,.tok 7]⟩,
  ⟨68,[.fn 126 [Z109]],[Z89,Z9],.own 2 1 2,[Z89,Z9,.arr 5 1 [Z32,Z57]]⟩,
  ⟨127,[Z49],[],Z49,[]⟩,
  ⟨68,[.fn 128 [Z109]],[Z88,Z44],.own 2 1 0,[Z88,Z44,Z103]⟩] kB) 60 11 [Z36] [.arr 49 7 [.agg [Z21,Z38,Z43,Z3,.nls,Z3,Z2]],.arr 83 32 [.agg [Z68,Z78,Z78,Z65,Z3,Z3,Z7,Z2,Z23,Z1,Z1,Z1,Z28,Z27,Z26,Z24,Z1,Z1,Z1,.nls,Z2,.npt,Z3,Z1,Z7,.str [80],Z3,Z7,.nls,Z18,Z68,Z51]],Z5,.arr 211 6 [.agg [Z62,Z101,Z29,Z22,Z10,Z66]],.tok 5,Z70,.tok 6,.arr 216 2 [.agg [Z30,Z22]],Z83,.tok 7,Z15,Z9,Z14,Z44,.arr 135 2 [.agg [Z25,Z1]],Z13,Z8,Z19,.arr 152 5 [.agg [Z68,Z1,Z68,Z51,Z61],.agg [Z68,Z51,Z68,Z78,Z80]],.arr 107 3 [.agg [Z68,Z49,.nls]],.arr 107 3 [.agg [Z68,.nls,Z60]],Z50,.arr 103 14 [.agg [Z1,Z2,Z2,Z2,Z3,Z1,Z7,Z7,Z3,Z7,Z1,Z2,Z1,Z2]],Z4]= .ok (Z77,[.arr 49 7 [.agg [Z21,Z38,Z43,Z3,.nls,Z3,Z2]],.arr 83 32 [.agg [Z68,Z78,Z78,Z65,Z3,Z3,Z7,Z2,Z23,Z1,Z1,Z1,Z28,Z27,Z26,Z24,Z1,Z1,Z1,.nls,Z2,.npt,Z3,Z1,Z7,.str [80],Z3,Z7,.nls,Z18,Z68,Z51]],Z5,.arr 211 6 [.agg [Z62,Z101,Z29,Z22,Z10,Z66]],.tok 5,Z70,.tok 6,.arr 216 2 [.agg [Z30,Z22]],Z83,.tok 7,Z15,Z9,Z14,Z44,.arr 135 2 [.agg [Z25,Z1]],Z13,Z8,Z19,.arr 152 5 [.agg [Z68,Z1,Z68,Z51,Z61],.agg [Z68,Z51,Z68,Z78,Z80]],.arr 107 3 [.agg [Z68,Z49,.nls]],.arr 107 3 [.agg [Z68,.nls,Z60]],Z50,.arr 103 14 [.agg [Z1,Z2,Z2,Z2,Z3,Z1,Z7,Z7,Z3,Z7,Z1,Z2,Z1,Z2]],Z4]):=by kernel_rfl
 have h2:= @run_rows S1 _ _ _ (@kB_ok S1 (@tblOK_of S1 _ (fun r hr=>by cases hr))) (fun c hc=>by
  simp only[Qd,Qb,or_false] at hc
  rcases hc with rfl | rfl | rfl | rfl
  ·exact q67c
  ·exact q68a
  ·exact q127c
  ·exact q68b) mixed _ _ _ _ _ _ hrun
 refine tr_calls S1 S rfl (@nt_eT S1 _ _ _ _ _ _ _ _ _ _ _) ?_ (@nt_eT2 S1 _ _ _ _ _ _ _ _ _ _ _) h2
 simp only[nt]
 exact ntL_map _ (fun _=>rfl) _
end Go.Pg
namespace Go.Pg
open Go Go.Proofs Go.RowKit
variable [Syms]
def tab20:List (List UInt8):=
 [[116,104,101,32,113,117,105,99,107,32,98,114,111,119,110,32,102,111,120],
  [],
  [32,32,105,110,100,101,110,116,101,100,44,32,40,119,105,116,104,32,91,98,114,97,99,107,101,116,115,93,32,97,110,100,41,32,34,113,117,111,116,101,115,34],
  [79,110,101,46,32,84,119,111,33,32,84,104,114,101,101,63,32,102,111,117,114],
  [97],
  [9,116,97,98,115,32,97,110,100,32,32,32,115,112,97,99,101,115,32,32],
  [120,32,61,32,121,32,43,32,102,40,97,44,32,123,98,58,32,39,99,39,125,41,59],
  [46],
  [102,111,111,32,102,111,111,95,98,97,114,32,102,111,111],
  [40,32,111,112,101,110],
  [99,108,111,115,101,32,41,32,125],
  [65,66,67,32,100,101,102,32,71,72,73],
  [32,32,32],
  [97,97,97,32,97,97,97,32,97,97,97],
  [123],
  [125],
  [101,110,100,46],
  [34,111,110,101,34,32,97,110,100,32,34,116,119,111,34],
  [48,49,50,51,52,53,54,55,56,57],
  [40,110,101,115,116,101,100,32,40,100,101,101,112,32,40,101,114,41,41,32,101,110,100,41]]
theorem calls_lines20:CallsR Tryz.prog 12 [] [] (.sl 1 (tab20.map .str)) []:=by
 refine callsR_of (mrg:=true) (dyn:=[]) (CtrOK.nil _) mixed Tryz.func12 rfl (by simp [Tryz.ntmps12,AV.cells]) (by kernel_rfl) ?_
 rw[show Tryz.f12.results.toList=[.tmp 0] from by kernel_rfl]
 simp (maxSteps:=4000000) only[go_sem,Int.reduceBEq,Int.reduceBNe,Int.reduceLE,Int.reduceLT,Int.reduceToNat,Nat.reduceAdd,Nat.reduceBEq,Nat.reduceBNe,Nat.reduceEqDiff,Nat.reduceLT,Nat.reduceLeDiff,Nat.reduceMul,Nat.reducePow,Nat.reduceSub,UInt8.reduceOfNat,reduceCtorEq,reduceIte]
 first | rfl | (exact subX_eq rfl rfl) | skip
def kLines20:C1:=C1.by [] lNil (fun _=>True) (fun _=> .sl 1 (tab20.map .str)) (fun _=>[])
theorem ok_lines20:C1OK Tryz.prog 12 kLines20:=C1OK.by (by kernel_rfl) (fun _ _=>calls_lines20) (fun _=>rfl) (fun _=>rfl)
def ln20 (b:UInt8):List UInt8:=tab20.getD (b.toNat % 20) []
theorem tab20_len:tab20.length=20:=by decide
theorem take_ln (l:List UInt8)(i:Nat)(h:i<l.length):(l.take (i+1)).map ln20=(l.take i).map ln20 ++ [ln20 (l.getD i 0)]:=by
 rw[List.take_succ_eq_append_getElem h,Qr,Qc,Qf h];rfl
set_option maxRecDepth 20000 in
set_option maxHeartbeats 4000000 in
theorem calls_SeatText (l:List UInt8)(h2:2≤l.length)(h12:l.length≤12):CallsR Tryz.prog 5 [.sl 1 (ofBytes l)] [] (.sl 1 ((l.map ln20).map .str)) []:=by
 refine callsR_of (mrg:=true) (dyn:=[]) (CtrOK.cons ok_lines20 (CtrOK.nil _)) mixed Tryz.func5 rfl (by simp [Tryz.ntmps5,AV.cells]) (by kernel_rfl) ?_
 rw[show Tryz.f5.results.toList=[.tmp 2] from by kernel_rfl]
 have htl:=tab20_len
 simp (maxSteps:=4000000) only[go_sem,Int.reduceBEq,Int.reduceBNe,Int.reduceLE,Int.reduceLT,Int.reduceToNat,Nat.reduceAdd,Nat.reduceBEq,Nat.reduceBNe,Nat.reduceEqDiff,Nat.reduceLT,Nat.reduceLeDiff,Nat.reduceMul,Nat.reducePow,Nat.reduceSub,UInt8.reduceOfNat,reduceCtorEq,reduceIte,kLines20]
 refine loopH_intro (α:=Nat) (fun i=>([(0,.sl 1 (ofBytes l)),(2,.nls),(3,.sl 1 (tab20.map .str)),(4,.own 0 1 i),(5,.int .i64 i)],[.arr 9 1 (((l.take i).map ln20).map .str)])) (fun i=>i≤l.length) (fun i=>l.length - i) 0 (by omega) ?_ ?_
 ·simp (maxSteps:=4000000) only[go_sem,Int.reduceBEq,Int.reduceBNe,Int.reduceLE,Int.reduceLT,Int.reduceToNat,Nat.reduceAdd,Nat.reduceBEq,Nat.reduceBNe,Nat.reduceEqDiff,Nat.reduceLT,Nat.reduceLeDiff,Nat.reduceMul,Nat.reducePow,Nat.reduceSub,UInt8.reduceOfNat,reduceCtorEq,reduceIte,kLines20]
 intro i hi
 by_cases hlt:i<l.length
 ·have hct:decide ((i:Int)< (l.length:Int))=true:=decide_eq_true (by omega)
  have hmap:=take_ln l i hlt
  have hb:=(l.getD i 0).toNat_lt
  have hw:(IntKind.i64.wrap ((l.getD i 0).toNat:Int)).tmod 20=(((l.getD i 0).toNat % 20:Nat):Int):=by
   rw[wrap64 (by omega) (by omega)]
   rw[Qn (by omega)]
   omega
  simp (maxSteps:=4000000) only[go_sem,Int.reduceBEq,Int.reduceBNe,Int.reduceLE,Int.reduceLT,Int.reduceToNat,Nat.reduceAdd,Nat.reduceBEq,Nat.reduceBNe,Nat.reduceEqDiff,Nat.reduceLT,Nat.reduceLeDiff,Nat.reduceMul,Nat.reducePow,Nat.reduceSub,UInt8.reduceOfNat,reduceCtorEq,reduceIte,kLines20,hct,tab20_len,hw]
  refine⟨⟨by omega,hlt⟩,by decide,⟨by omega,by omega⟩,⟨by rw[Qa];omega,by decide,by omega⟩,i+1,by omega,by omega,subX_eq (by rw[hmap];rfl) (pureB_strs _),rfl,by rw[wrap64 (by omega) (by omega)];omega⟩
 ·have hcf:decide ((i:Int)< (l.length:Int))=false:=decide_eq_false (by omega)
  have hil:i=l.length:=by omega
  subst hil
  rw[List.take_length]
  simp (maxSteps:=4000000) only[go_sem,Int.reduceBEq,Int.reduceBNe,Int.reduceLE,Int.reduceLT,Int.reduceToNat,Nat.reduceAdd,Nat.reduceBEq,Nat.reduceBNe,Nat.reduceEqDiff,Nat.reduceLT,Nat.reduceLeDiff,Nat.reduceMul,Nat.reducePow,Nat.reduceSub,UInt8.reduceOfNat,reduceCtorEq,reduceIte,kLines20,hcf]
  intro h
  have:=eq_of_beq h
  omega
end Go.Pg
namespace Go.Pg
open Go Go.Proofs
theorem tkZb:tk Tryz.prog 22= .slice 5 1:=by kernel_rfl
theorem tkZ8:tk Tryz.prog 5= .int .u8:=by kernel_rfl
theorem tkZi:tk Tryz.prog 3= .int .i64:=by kernel_rfl
theorem row_lenB [Syms] (l:List UInt8)(c:Int)(h:(l.length:Int)=c):opkV Tryz.prog (.len 22) [.sl 1 (ofBytes l)]=some (.int .i64 c):=by
 simp only[opkV,tkZb,slen,ofBytes,Qs,Option.map_some,h]
theorem row_cvt8 [Syms] (b:UInt8):opkV Tryz.prog (.cvt 5 3) [.int .u8 b.toNat]=some (.int .i64 b.toNat):=by
 have hb:=b.toNat_lt
 simp only[opkV,tkZ8,tkZi]
 rw[wrap64 (by omega) (by omega)]
theorem row_rem [Syms] {P:Program}{t:TypeId}(a b c:Int)(h0:b≠0)(h:a.tmod b=c):opkV P (.bin .rem t) [.int .i64 a,.int .i64 b]=some (.int .i64 c):=by
 show intO .rem .i64 a b=_
 simp only[intO,if_neg h0,h]
theorem tab20_all:∀s∈tab20,s.length≤45∧(10:UInt8)∉s:=by decide
theorem ln20_mem (b:UInt8):ln20 b∈tab20:=by
 unfold ln20
 have h:b.toNat % 20<tab20.length:=by rw[@tab20_len Le.sNil];omega
 rw[Qc,Qf h]
 exact List.getElem_mem h
theorem join_le (m:Nat):∀(ls:List Tb.Bs),(∀s∈ls,s.length≤m)→(Tb.joinL ls).length≤ls.length * (m+1)
 | [],_=>by simp [Tb.joinL]
 | [s],h=>by
  have:=h s (by simp)
  simp only[Tb.joinL,Qi,Qm]
  omega
 | s :: t :: r,h=>by
  have h1:=h s (by simp)
  have h2:=join_le m (t :: r) (fun x hx=>h x (List.mem_cons_of_mem _ hx))
  simp only[Tb.joinL,Qg,Qi] at h2 ⊢
  have e:(r.length+1+1) * (m+1)=(r.length+1) * (m+1)+(m+1):=Nat.succ_mul _ _
  omega
theorem tops_ok:∀n:Nat,n<13→∀k:Nat,k<12→k+1<n→(scr (tps n k) k ((n:Int) - 1)=tps n k∧scr (tps n k) k n=tps n k)∧0≤tps n k∧tps n k≤4000:=by decide
theorem xp_toks (l:List UInt8)(at' len:Int)(F s:Tb.Bs)(size size2 fc fs:Int)(ls:List Tb.Bs)(c0 c2 c3:List Pc)(t0 t2:List Int)(A2 A3:Tb.Bs)(tbl:List (OpK×List AV×AV)) :
 (toks ls.length).map (@xp (sZ l at' len F s size size2 fc fs ls c0 c2 c3 t0 t2 A2 A3 tbl))=ls.map .str:=by
 unfold toks
 rw[List.map_map]
 apply List.ext_getElem?
 intro i
 rw[Qh,Qh]
 by_cases hi:i<ls.length
 ·rw[List.getElem?_range hi,Qf hi]
  show some ((ls.map AV.str).getD i .nls)=some (.str ls[i])
  rw[Qc,Qh,Qf hi]
  rfl
 ·rw[Qp (by simp;omega),Qp (by omega)]
  rfl
theorem xp_toks2 (l:List UInt8)(at' len:Int)(F s:Tb.Bs)(size size2 fc fs:Int)(ls:List Tb.Bs)(c0 c2 c3:List Pc)(t0 t2:List Int)(A2 A3:Tb.Bs)(tbl:List (OpK×List AV×AV))(k:Nat)(hk:k<ls.length)(hs:s=ls.getD k []) :
 (toks2 ls.length k).map (@xp (sZ l at' len F s size size2 fc fs ls c0 c2 c3 t0 t2 A2 A3 tbl))=((ls.take k ++ ls.drop (k+1)).take (k+1) ++ s :: (ls.take k ++ ls.drop (k+1)).drop (k+1)).map .str:=by
 unfold toks2
 simp only[Qr,List.map_cons,List.map_take,List.map_drop,xp_toks]
 congr 2
 show(ls.map AV.str).getD k .nls= .str s
 rw[hs,Qc,Qh,Qc,Qf hk]
 rfl
theorem tblZ_ok (l:List UInt8)(b:UInt8)(len:Int)(F s:Tb.Bs)(size size2 fc fs:Int)(ls:List Tb.Bs)(c0 c2 c3:List Pc)(t0 t2:List Int)(A2 A3:Tb.Bs)(k:Nat)(hl:l.length=ls.length)(h2:2≤ls.length)(hk:(b.toNat:Int).tmod ((ls.length:Int) - 1)=k) :
 @TblOK (sZ l b.toNat len F s size size2 fc fs ls c0 c2 c3 t0 t2 A2 A3 (tblZ ls.length k)) Tryz.prog:=by
 letI S1:=sZ l b.toNat len F s size size2 fc fs ls c0 c2 c3 t0 t2 A2 A3 (tblZ ls.length k)
 refine tblOK_of fun r hr=>?_
 change r∈tblZ ls.length k at hr
 simp only[tblZ,Qd,Qq,Qt] at hr
 rcases hr with rfl | rfl | rfl | ⟨i,hi,rfl⟩
 ·exact row_lenB l _ (by omega)
 ·exact row_cvt8 b
 ·exact row_rem _ _ _ (by omega) hk
 ·have e:(ls.map AV.str).getD i .nls= .str (ls.getD i []):=by
   rw[Qc,Qh,Qc,Qf hi]
   rfl
  show opkV Tryz.prog (.bin .neq 9) [(ls.map AV.str).getD i .nls,(ls.map AV.str).getD i .nls]=_
  rw[e]
  exact row_neqS (P:=Tryz.prog) _ _ false (by simp)
set_option maxRecDepth 100000 in
theorem calls_TopSwap_in [S:Syms] (l:List UInt8)(b:UInt8)(h2:2≤l.length)(h12:l.length≤12) :
 CallsR Tryz.prog 3 [.sl 1 (ofBytes l),.int .u8 b.toNat] [] (.bool true) []:=by
 obtain⟨ls,hls⟩:∃ls,ls=l.map ln20:=⟨_,rfl⟩
 have hl:l.length=ls.length:=by rw[hls,Qs]
 have hb:=b.toNat_lt
 obtain⟨k,hkd⟩:∃k,k=b.toNat % (ls.length - 1):=⟨_,rfl⟩
 have hk:k+1<ls.length:=by
  have:=Nat.mod_lt b.toNat (show 0<ls.length - 1 by omega)
  omega
 have hkt:(b.toNat:Int).tmod ((ls.length:Int) - 1)=k:=by
  rw[Qn (by omega),show((ls.length:Int) - 1)=((ls.length - 1:Nat):Int) by omega,hkd]
  exact(Int.natCast_emod _ _).symm
 have hmem:∀s∈ls,s.length≤45∧(10:UInt8)∉s:=by
  intro s hs
  rw[hls] at hs
  obtain⟨x,_,rfl⟩:=Qq.1 hs
  exact tab20_all _ (ln20_mem x)
 have hne:ls≠[]:=by intro h;rw[h] at hl;simp only[Qm] at hl;omega
 have hclean:Tb.clean ls:=fun s hs=>(hmem s hs).2
 have hjn:Tb.joinL ls≠[]:=by
  match ls,h2,hl with
  | [],h2,hl=>simp only[Qm] at hl;omega
  | [_],h2,hl=>simp only[Qm,Qi] at hl;omega
  | s :: t :: r,_,_=>simp [Tb.joinL]
 have hjl:(Tb.joinL ls).length≤4000:=by
  have:=join_le 45 ls (fun s hs=>(hmem s hs).1)
  omega
 have b0:=buf_new hne hclean hjn hjl
 have hn4:ls.length≤4000:=by omega
 have htop:=tops_ok ls.length (by omega) k (by omega) hk
 obtain⟨s,hs⟩:∃s,s=ls.getD k []:=⟨_,rfl⟩
 obtain⟨t,ht⟩:∃t,t=ls.getD (k+1) []:=⟨_,rfl⟩
 obtain⟨l2,hl2⟩:∃l2,l2=(ls.take k ++ ls.drop (k+1)).take (k+1) ++ s :: (ls.take k ++ ls.drop (k+1)).drop (k+1):=⟨_,rfl⟩
 have hold:∀p∈([⟨false,0,(Tb.joinL ls).length⟩]:List Tb.Pc),p.added=false:=by simp
 obtain⟨A2,L2,b2,q2⟩:= @calls_ddp Le.sNil _ _ _ b0 hjl hn4 (by simp) hold k hk (tps ls.length k) (ahs k) htop.2 htop.1.1 s t hs ht _ l2 rfl hl2
 obtain⟨A3,L3,b3,q3⟩:= @calls_ddP Le.sNil _ _ _ b0 hjl hn4 (by simp) hold k hk (tps ls.length k) (ahs k) htop.2 htop.1.1 htop.1.2 s t hs ht _ _ rfl rfl
 let S1:=sZ l b.toNat 0 (Tb.joinL ls) s (Tb.joinL ls).length (Tb.joinL l2).length (firstC t) (firstC s) ls (pcs [⟨false,0,(Tb.joinL ls).length⟩]) (pcs L2) (pcs L3) (cN (Tb.starts (Tb.joinL ls))) (cN (Tb.starts (Tb.joinL l2))) A2 A3 (tblZ ls.length k)
 have hrun:=chkZ_ok (runZ_all l b.toNat 0 (Tb.joinL ls) s (Tb.joinL ls).length (Tb.joinL l2).length (firstC t) (firstC s) ls (pcs [⟨false,0,(Tb.joinL ls).length⟩]) (pcs L2) (pcs L3) (cN (Tb.starts (Tb.joinL ls))) (cN (Tb.starts (Tb.joinL l2))) A2 A3 ls.length k (by omega) (by omega) hk)
 have htk:(toks ls.length).map (@xp S1)=ls.map .str:=xp_toks ..
 have htl: @xpL S1 (toks ls.length)=ls.map .str:=by rw[@xpL_map S1];exact htk
 have htk2:(toks2 ls.length k).map (@xp S1)=l2.map .str:=by rw[hl2];exact xp_toks2 _ _ _ _ _ _ _ _ _ _ _ _ _ _ _ _ _ _ k (by omega) hs
 have rq2:=tr_calls Le.sNil S1 (rfl:ntL [.ptr 0 7 1 0 0,.own 20 1 3]=true) (@nt_keys Le.sNil _ _ _ _ _ _ _ _ _ [100,100,112]) (rfl:nt (.bool true)=true) (@nt_eP Le.sNil _ _ _ _ _ _ _ _ _ _ _) q2
 have rq3:=tr_calls Le.sNil S1 (rfl:ntL [.ptr 0 7 1 0 0,.own 20 1 3]=true) (@nt_keys Le.sNil _ _ _ _ _ _ _ _ _ [100,100,80]) (rfl:nt (.bool true)=true) (@nt_eQ Le.sNil _ _ _ _ _ _ _ _ _ _ _) q3
 have h3:= @run_rows S1 _ _ _ (@kZ_ok S1 (tblZ_ok l b 0 _ s _ _ _ _ ls _ _ _ _ _ _ _ k hl (by omega) hkt)) (fun c hc=>by
  simp only[rowsZ,Qd,Qq,Qt] at hc
  rcases hc with rfl | rfl | rfl | rfl | rfl | rfl | rfl | ⟨i,hi,rfl⟩
  ·exact @Le.calls_known S1
  ·show @CallsR S1 Tryz.prog _ [.sl 1 (ofBytes l)] [] (.sl 1 (@xpL S1 (toks ls.length))) []
   rw[htl,hls]
   exact @calls_SeatText S1 l h2 h12
  ·show @CallsR S1 Tryz.prog _ [.sl 1 (@xpL S1 (toks ls.length))] [] (.tuple [.ptr 0 7 1 0 0,.int .i64 0]) (@xpH S1 (uJ 0 0 0))
   rw[htl]
   exact @calls_ENew S1 ls hne hclean hjn hjl
  ·exact rq2
  ·exact rq3
  ·have e: @xp S1 (uR ls.length k (tps ls.length (k+1)))=rS l2 s k (firstC s) (tps ls.length (k+1)):=by
    show AV.agg (AV.sl 1 (@xpL S1 (toks2 ls.length k)) :: _)=_
    rw[@xpL_map S1,htk2]
    rfl
   have q:= @calls_State S1 _ _ _ _ b2 s k (firstC t) (firstC s) (tps ls.length (k+1))
   rw[←e] at q
   exact q
  ·show @CallsR S1 Tryz.prog _ _ (@xpH S1 (uT k (tps ls.length k))) (.sl 1 (@xpL S1 (toks ls.length))) (@xpH S1 (uT2 k (tps ls.length k)))
   rw[htl]
   exact @calls_Text S1 _ _ _ _ b3 s k (firstC t) (firstC s) (tps ls.length k)
  ·exact @calls_j S1 _ _ _ b0 hjl hn4 i (by omega) (tps ls.length i) (ahs i) (tops_ok ls.length (by omega) i (by omega) (by omega)).2) (@mixed S1) _ _ _ _ _ _ hrun
 exact tr_calls S1 S (by
  show ntL [.sl 1 (ofBytes l),.int .u8 b.toNat]=true
  simp only[ntL,nt,Qo]
  exact nt_bytes l) rfl rfl rfl h3
set_option maxRecDepth 100000 in
theorem calls_TopSwap_out [S:Syms] (l:List UInt8)(b:UInt8)(h:l.length<2∨12<l.length) :
 CallsR Tryz.prog 3 [.sl 1 (ofBytes l),.int .u8 b.toNat] [] (.bool true) []:=by
 have nts:ntL [.sl 1 (ofBytes l),.int .u8 b.toNat]=true:=by
  simp only[ntL,nt,Qo]
  exact nt_bytes l
 rcases h with h | h
 ·let S1:=sZ l b.toNat l.length [] [] 0 0 0 0 [] [] [] [] [] [] [] [] tblA
  have htb: @TblOK S1 Tryz.prog:= @tblOK_of S1 _ fun r hr=>by
   change r∈tblA at hr
   simp only[tblA,Qd,Qb,or_false] at hr
   rcases hr with rfl | rfl
   ·exact @row_lenB S1 l _ rfl
   ·exact @row_lss S1 _ _ _ _ true (decide_eq_true (by omega))
  have h3:= @run_rows S1 _ _ _ (@kZ_ok S1 htb) (fun c hc=>by
   simp only[Qd,Qb,or_false] at hc
   subst hc
   exact @Le.calls_known S1) (@mixed S1) _ _ _ _ _ _ (chkZ_ok (runA l b.toNat l.length [] [] 0 0 0 0 [] [] [] [] [] [] [] []))
  exact tr_calls S1 S nts rfl rfl rfl h3
 ·let S1:=sZ l b.toNat l.length [] [] 0 0 0 0 [] [] [] [] [] [] [] [] tblB
  have htb: @TblOK S1 Tryz.prog:= @tblOK_of S1 _ fun r hr=>by
   change r∈tblB at hr
   simp only[tblB,Qd,Qb,or_false] at hr
   rcases hr with rfl | rfl | rfl
   ·exact @row_lenB S1 l _ rfl
   ·exact @row_lss S1 _ _ _ _ false (decide_eq_false (by omega))
   ·exact @row_gtr S1 _ _ _ _ true (decide_eq_true (by omega))
  have h3:= @run_rows S1 _ _ _ (@kZ_ok S1 htb) (fun c hc=>by
   simp only[Qd,Qb,or_false] at hc
   subst hc
   exact @Le.calls_known S1) (@mixed S1) _ _ _ _ _ _ (chkZ_ok (runB l b.toNat l.length [] [] 0 0 0 0 [] [] [] [] [] [] [] []))
  exact tr_calls S1 S nts rfl rfl rfl h3
theorem calls_TopSwap [S:Syms] (l:List UInt8)(b:UInt8):CallsR Tryz.prog 3 [.sl 1 (ofBytes l),.int .u8 b.toNat] [] (.bool true) []:=by
 by_cases h:2≤l.length∧l.length≤12
 ·exact calls_TopSwap_in l b h.1 h.2
 ·exact calls_TopSwap_out l b (by omega)
end Go.Pg
