import Derived.Test.YtmidechdlbcepaaGreatPack19
import Derived.Test.YtmidechdlbcepaaGreatProg
import Derived.KernelRfl
import Derived.Test.YtmidechdlbcepaaGreatPack20
set_option linter.unusedSimpArgs false
set_option linter.unusedVariables false
namespace Go.Proofs.YtmidechdlbcepaaGreat
set_option maxRecDepth 100000
def tbl : Tbl where
  one := [(2, ()), (3, ()), (4, ()), (5, ()), (6, ()), (9, ()), (10, ()), (11, ()), (12, ()), (15, ()), (16, ()), (17, ()), (22, ()), (23, ()), (24, ()), (29, ()), (30, ()), (46, ()), (47, ()), (49, ()), (50, ()), (57, ()), (67, ()), (76, ()), (84, ()), (85, ()), (96, ()), (100, ()), (105, ()), (106, ()), (109, ()), (121, ()), (128, ()), (136, ()), (137, ()), (150, ()), (151, ()), (156, ()), (169, ()), (177, ()), (179, ()), (182, ()), (184, ()), (191, ()), (192, ()), (213, ()), (221, ()), (223, ()), (227, ()), (228, ()), (232, ()), (235, ()), (245, ()), (246, ()), (247, ()), (248, ()), (249, ()), (250, ())]
  agg := [(8, 4), (14, 2), (19, 1), (26, 3), (28, 8), (38, 9), (41, 9), (44, 3), (55, 2), (59, 4), (69, 5), (74, 28), (86, 6), (88, 9), (108, 4), (129, 10), (131, 11), (140, 10), (153, 5), (160, 13), (172, 3), (175, 3), (240, 4), (252, 11)]
  fld := [(8, [(0, 0), (1, 1), (2, 2), (3, 3)]), (14, [(0, 0), (1, 1)]), (19, [(0, 0)]), (26, [(0, 0), (1, 1), (2, 2)]), (28, [(0, 0), (1, 1), (2, 2), (3, 3), (4, 4), (5, 5), (6, 6), (7, 7)]), (38, [(0, 0), (1, 1), (2, 2), (3, 3), (4, 4), (5, 5), (6, 6), (7, 7), (8, 8)]), (41, [(0, 0), (1, 1)]), (44, [(0, 0), (1, 1), (2, 2)]), (55, [(0, 0), (1, 1)]), (59, [(0, 0), (1, 1), (2, 2), (3, 3)]), (69, [(0, 0), (1, 1), (2, 2), (3, 3), (4, 4)]), (74, [(0, 0), (1, 1), (2, 4), (3, 9), (4, 18), (5, 19), (6, 20)]), (88, [(0, 0), (1, 3)]), (108, [(0, 0), (1, 1), (2, 2), (3, 3)]), (131, [(0, 0), (1, 10)]), (140, [(0, 0), (1, 1), (2, 2)]), (153, [(0, 0), (1, 3), (2, 4)]), (160, [(0, 0), (1, 1), (2, 2)]), (172, [(0, 0), (1, 1), (2, 2)]), (175, [(0, 0), (1, 1), (2, 2)]), (240, [(0, 0), (1, 1), (2, 2), (3, 3)]), (252, [(0, 0), (1, 1), (2, 2), (3, 3), (4, 4), (5, 5), (6, 6), (7, 7), (8, 8), (9, 9), (10, 10)])]
  arr := [(86, (6, 1)), (129, (10, 1))]
  sli := [(22, (44, 3, 24)), (23, (69, 5, 40)), (24, (38, 9, 72)), (29, (41, 9, 80)), (49, (74, 28, 232)), (50, (55, 2, 32)), (57, (59, 4, 32)), (85, (108, 4, 64)), (96, (26, 3, 72)), (100, (5, 1, 1)), (105, (172, 3, 24)), (106, (175, 3, 24)), (109, (3, 1, 8)), (121, (49, 1, 24)), (137, (140, 10, 88)), (156, (160, 13, 112))]
  zero := [(2, [.fv (.int .i64 0)]), (3, [.fv (.int .i64 0)]), (4, [.fv (.bool false)]), (5, [.fv (.int .u8 0)]), (6, [.fv (.int .u8 0)]), (8, [.fv (.int .i64 0), .fv (.int .i64 0), .fv (.bool false), .fv (.int .u8 0)]), (9, [.fv (.str ⟨#[]⟩)]), (10, [.fv (.str ⟨#[]⟩)]), (11, [.fv (.str ⟨#[]⟩)]), (12, [.fv (.int .u64 0)]), (14, [.fv (.str ⟨#[]⟩), .fv (.int .u64 0)]), (15, [.any]), (16, [.any]), (17, [.any]), (19, [.any]), (22, [.nil]), (23, [.nil]), (24, [.nil]), (26, [.nil, .nil, .nil]), (28, [.fv (.int .i64 0), .fv (.int .i64 0), .fv (.int .i64 0), .fv (.int .i64 0), .fv (.int .i64 0), .fv (.int .i64 0), .fv (.int .i64 0), .fv (.str ⟨#[]⟩)]), (29, [.nil]), (30, [.fv (.int .i64 0)]), (38, [.fv (.int .i64 0), .fv (.int .i64 0), .fv (.bool false), .fv (.int .i64 0), .fv (.int .i64 0), .fv (.int .i64 0), .fv (.int .i64 0), .fv (.int .i64 0), .fv (.bool false)]), (41, [.fv (.int .i64 0), .fv (.int .i64 0), .fv (.int .i64 0), .fv (.int .i64 0), .fv (.int .i64 0), .fv (.int .i64 0), .fv (.int .i64 0), .fv (.int .i64 0), .fv (.str ⟨#[]⟩)]), (44, [.fv (.int .i64 0), .fv (.int .i64 0), .fv (.int .i64 0)]), (46, [.any]), (47, [.any]), (49, [.nil]), (50, [.nil]), (55, [.fv (.int .i64 0), .nil]), (57, [.nil]), (59, [.fv (.int .i64 0), .fv (.int .i64 0), .fv (.int .i64 0), .fv (.int .i64 0)]), (67, [.any]), (69, [.fv (.int .i64 0), .fv (.int .i64 0), .fv (.int .i64 0), .fv (.int .i64 0), .fv (.int .i64 0)]), (74, [.fv (.int .i64 0), .fv (.int .i64 0), .fv (.int .i64 0), .fv (.int .i64 0), .fv (.int .i64 0), .fv (.int .i64 0), .fv (.int .i64 0), .fv (.int .i64 0), .fv (.int .i64 0), .fv (.int .i64 0), .fv (.int .i64 0), .fv (.bool false), .fv (.int .i64 0), .fv (.int .i64 0), .fv (.int .i64 0), .fv (.int .i64 0), .fv (.int .i64 0), .fv (.bool false), .fv (.int .i64 0), .fv (.int .i64 0), .fv (.int .i64 0), .fv (.int .i64 0), .fv (.int .i64 0), .fv (.int .i64 0), .fv (.int .i64 0), .fv (.int .i64 0), .fv (.int .i64 0), .fv (.str ⟨#[]⟩)]), (76, [.any]), (84, [.any]), (85, [.nil]), (86, [.nil, .nil, .nil, .nil, .nil, .nil]), (88, [.nil, .nil, .nil, .nil, .nil, .nil, .nil, .nil, .nil]), (96, [.nil]), (100, [.nil]), (105, [.nil]), (106, [.nil]), (108, [.fv (.int .i64 0), .fv (.int .i64 0), .nil, .nil]), (109, [.nil]), (121, [.nil]), (128, [.any]), (129, [.fv (.int .i64 0), .fv (.int .i64 0), .fv (.int .i64 0), .fv (.int .i64 0), .fv (.int .i64 0), .fv (.int .i64 0), .fv (.int .i64 0), .fv (.int .i64 0), .fv (.int .i64 0), .fv (.int .i64 0)]), (131, [.fv (.int .i64 0), .fv (.int .i64 0), .fv (.int .i64 0), .fv (.int .i64 0), .fv (.int .i64 0), .fv (.int .i64 0), .fv (.int .i64 0), .fv (.int .i64 0), .fv (.int .i64 0), .fv (.int .i64 0), .fv (.str ⟨#[]⟩)]), (136, [.any]), (137, [.nil]), (140, [.fv (.int .i64 0), .fv (.int .i64 0), .fv (.int .i64 0), .fv (.int .i64 0), .fv (.int .i64 0), .fv (.int .i64 0), .fv (.int .i64 0), .fv (.int .i64 0), .fv (.int .i64 0), .fv (.str ⟨#[]⟩)]), (150, [.any]), (151, [.any]), (153, [.nil, .nil, .nil, .fv (.int .i64 0), .nil]), (156, [.nil]), (160, [.fv (.int .i64 0), .fv (.int .i64 0), .fv (.int .i64 0), .fv (.int .i64 0), .fv (.int .i64 0), .fv (.int .i64 0), .fv (.int .i64 0), .fv (.int .i64 0), .fv (.int .i64 0), .fv (.int .i64 0), .fv (.int .i64 0), .fv (.int .i64 0), .fv (.str ⟨#[]⟩)]), (169, [.fv (.int .u64 0)]), (172, [.fv (.int .i64 0), .fv (.int .i64 0), .fv (.int .i64 0)]), (175, [.fv (.int .i64 0), .fv (.int .i64 0), .fv (.int .i64 0)]), (177, [.any]), (179, [.any]), (182, [.any]), (184, [.any]), (191, [.any]), (192, [.any]), (213, [.fv (.int .i64 0)]), (221, [.fv (.int .u32 0)]), (223, [.fv (.int .u64 0)]), (227, [.any]), (228, [.fv (.int .u64 0)]), (232, [.any]), (235, [.any]), (240, [.any, .any, .any, .fv (.str ⟨#[]⟩)]), (245, [.fv (.int .u8 0)]), (246, [.fv (.int .u8 0)]), (247, [.any]), (248, [.any]), (249, [.fv (.int .i32 0)]), (250, [.fv (.int .i32 0)]), (252, [.fv (.int .u64 0), .fv (.int .u64 0), .fv (.int .u32 0), .fv (.int .u8 0), .fv (.int .u8 0), .fv (.int .u8 0), .fv (.int .u8 0), .any, .any, .fv (.int .i32 0), .fv (.int .i32 0)])]
  str := [(9, ()), (10, ()), (11, ())]
  kind := [(2, .i64), (3, .i64), (5, .u8), (6, .u8), (12, .u64), (30, .i64), (169, .u64), (213, .i64), (221, .u32), (223, .u64), (228, .u64), (245, .u8), (246, .u8), (249, .i32), (250, .i32)]
  plc := [(8, [(0, 1), (1, 1), (2, 1), (3, 1)]), (14, [(0, 1), (1, 1)]), (19, [(0, 1)]), (26, [(0, 1), (1, 1), (2, 1)]), (28, [(0, 1), (1, 1), (2, 1), (3, 1), (4, 1), (5, 1), (6, 1), (7, 1)]), (38, [(0, 1), (1, 1), (2, 1), (3, 1), (4, 1), (5, 1), (6, 1), (7, 1), (8, 1)]), (41, [(0, 1), (1, 8)]), (44, [(0, 1), (1, 1), (2, 1)]), (55, [(0, 1), (1, 1)]), (59, [(0, 1), (1, 1), (2, 1), (3, 1)]), (69, [(0, 1), (1, 1), (2, 1), (3, 1), (4, 1)]), (74, [(0, 1), (1, 3), (4, 5), (9, 9), (18, 1), (19, 1), (20, 8)]), (86, [(0, 1), (1, 1), (2, 1), (3, 1), (4, 1), (5, 1)]), (88, [(0, 3), (3, 6)]), (108, [(0, 1), (1, 1), (2, 1), (3, 1)]), (129, [(0, 1), (1, 1), (2, 1), (3, 1), (4, 1), (5, 1), (6, 1), (7, 1), (8, 1), (9, 1)]), (131, [(0, 10), (10, 1)]), (140, [(0, 1), (1, 1), (2, 8)]), (153, [(0, 3), (3, 1), (4, 1)]), (160, [(0, 1), (1, 1), (2, 11)]), (172, [(0, 1), (1, 1), (2, 1)]), (175, [(0, 1), (1, 1), (2, 1)]), (240, [(0, 1), (1, 1), (2, 1), (3, 1)]), (252, [(0, 1), (1, 1), (2, 1), (3, 1), (4, 1), (5, 1), (6, 1), (7, 1), (8, 1), (9, 1), (10, 1)])]
  eqt := [(28, [.int, .int, .int, .int, .int, .int, .int, .str]), (38, [.int, .int, .bool, .int, .int, .int, .int, .int, .bool]), (41, [.int, .int, .int, .int, .int, .int, .int, .int, .str]), (44, [.int, .int, .int]), (59, [.int, .int, .int, .int]), (69, [.int, .int, .int, .int, .int]), (74, [.int, .int, .int, .int, .int, .int, .int, .int, .int, .int, .int, .bool, .int, .int, .int, .int, .int, .bool, .int, .int, .int, .int, .int, .int, .int, .int, .int, .str]), (131, [.int, .int, .int, .int, .int, .int, .int, .int, .int, .int, .str]), (140, [.int, .int, .int, .int, .int, .int, .int, .int, .int, .str]), (160, [.int, .int, .int, .int, .int, .int, .int, .int, .int, .int, .int, .int, .str]), (172, [.int, .int, .int]), (175, [.int, .int, .int])]
  ael := [(86, 85), (129, 3)]
  byt := [(5, ()), (6, ()), (245, ()), (246, ())]
  boo := [(4, ())]
theorem tbl_one : tbl.one.map (fun p => oneT Tryz.prog p.1) = tbl.one.map (fun p => some p.2) := by kernel_rfl
theorem tbl_agg : tbl.agg.map (fun p => aggT Tryz.prog p.1) = tbl.agg.map (fun p => some p.2) := by kernel_rfl
theorem tbl_fld : tbl.fld.map (fun p => p.2.map fun q => fldT Tryz.prog p.1 q.1) = tbl.fld.map (fun p => p.2.map fun q => some q.2) := by kernel_rfl
theorem tbl_arr : tbl.arr.map (fun p => arrT Tryz.prog p.1) = tbl.arr.map (fun p => some p.2) := by kernel_rfl
theorem tbl_sli : tbl.sli.map (fun p => sliT Tryz.prog p.1) = tbl.sli.map (fun p => some p.2) := by kernel_rfl
theorem tbl_zero : tbl.zero.map (fun p => zeroT Tryz.prog p.1) = tbl.zero.map (fun p => some p.2) := by kernel_rfl
theorem tbl_str : tbl.str.map (fun p => strT Tryz.prog p.1) = tbl.str.map (fun p => some p.2) := by kernel_rfl
theorem tbl_kind : tbl.kind.map (fun p => kindT Tryz.prog p.1) = tbl.kind.map (fun p => some p.2) := by kernel_rfl
theorem tbl_plc : tbl.plc.map (fun p => plcT Tryz.prog p.1) = tbl.plc.map (fun p => some p.2) := by kernel_rfl
theorem tbl_eqt : tbl.eqt.map (fun p => eqcT Tryz.prog p.1) = tbl.eqt.map (fun p => some p.2) := by kernel_rfl
theorem tbl_ael : tbl.ael.map (fun p => aelT Tryz.prog p.1) = tbl.ael.map (fun p => some p.2) := by kernel_rfl
theorem tbl_byt : tbl.byt.map (fun p => bytT Tryz.prog p.1) = tbl.byt.map (fun p => some p.2) := by kernel_rfl
theorem tbl_boo : tbl.boo.map (fun p => booT Tryz.prog p.1) = tbl.boo.map (fun p => some p.2) := by kernel_rfl
theorem tbl_ok : tbl.Ok Tryz.prog := ⟨tbl_one, tbl_agg, tbl_fld, tbl_arr, tbl_sli, tbl_zero, tbl_str, tbl_kind, tbl_plc, tbl_eqt, tbl_ael, tbl_byt, tbl_boo⟩
theorem mixed_no : Tryz.prog.follows .mixedOrders = true := by kernel_rfl
end Go.Proofs.YtmidechdlbcepaaGreat

namespace Go.Proofs.YtmidechdlbcepaaGreat
open Go.RowKit
def OpsX (P : Program) (T : Tbl) (n : Nat) (ops : Array Oper) (i : Nat) (l : List Oper) (pre : List Fp) (K : List Fp → St → Prop) (st : St) : Prop := ∃ fps, OpsL P T n ops i l fps (K (pre.reverseAux fps)) st
theorem OpsX.of {P : Program} {T : Tbl} {n : Nat} {ops : Array Oper} {i j : Nat} {l l' : List Oper} {pre : List Fp} {fp : Fp} {K : List Fp → St → Prop} {st st' : St} (h : ∀ {fps K'}, OpsL P T n ops j l fps K' st' → OpsL P T n ops i l' (fp :: fps) K' st) : OpsX P T n ops j l (fp :: pre) K st' → OpsX P T n ops i l' pre K st := fun ⟨fps, h'⟩ => ⟨fp :: fps, h h'⟩
theorem X.nil {P : Program} {T : Tbl} {n : Nat} {ops : Array Oper} {i : Nat} {pre : List Fp} {K : List Fp → St → Prop} {st : St} (h : K (pre.reverseAux []) st) : OpsX P T n ops i [] pre K st := ⟨[], Ops.nil h⟩
theorem X.reg {P : Program} {T : Tbl} {n : Nat} {ops : Array Oper} {l : List Oper} {id : Nat} {Q : Exit → St → Prop} {st : St} (hT : T.Ok P) (hl : ops.toList = l) (h : OpsX P T n ops 0 l [] (fun _ => Q .normal) st) : WP P n (.region id ops false) Q st := by
  obtain ⟨fps, h⟩ := h
  exact WP.reg hT hl h
theorem X.drwL {P : Program} {T : Tbl} {n : Nat} {ops : Array Oper} {l : List Oper} {id : Nat} {Q : Exit → St → Prop} {st : St} (hT : T.Ok P) (hm : P.follows .mixedOrders = true) (hl : ops.toList = l) (h : OpsX P T n ops 0 l [] (fun fps => drwK ops fps st (Q .normal)) st) : WP P n (.region id ops true) Q st := by
  obtain ⟨fps, h⟩ := h
  exact WP.drwL hT hm hl h
theorem X.cdT {P : Program} {n : Nat} {c : Operand} {x y : Code} {b : Bool} {Q : Exit → St → Prop} {st : St} (h : WP P n x Q st) (hc : st.ev c = .fv (.bool b) := by rfl) (hb : b = true := by first | ((first | exact decide_eq_true (by omega) | exact bne_iff_ne.2 (by omega) | exact beq_iff_eq.2 (by omega) | (simp only [Bool.or_eq_true, Bool.and_eq_true, Bool.or_eq_false_iff, Bool.and_eq_false_iff, decide_eq_true_eq, decide_eq_false_iff_not, bne_iff_ne, beq_iff_eq, bne_eq_false_iff_eq, beq_eq_false_iff_ne, Bool.not_eq_true', Bool.not_eq_false', ne_eq]; omega)); done) | fail) : WP P n (.cond c x y) Q st := WP.condT (hb ▸ hc) h
theorem X.cdF {P : Program} {n : Nat} {c : Operand} {x y : Code} {b : Bool} {Q : Exit → St → Prop} {st : St} (h : WP P n y Q st) (hc : st.ev c = .fv (.bool b) := by rfl) (hb : b = false := by first | ((first | exact decide_eq_false (by omega) | exact bne_eq_false_iff_eq.2 (by omega) | exact beq_eq_false_iff_ne.2 (by omega) | (simp only [Bool.or_eq_true, Bool.and_eq_true, Bool.or_eq_false_iff, Bool.and_eq_false_iff, decide_eq_true_eq, decide_eq_false_iff_not, bne_iff_ne, beq_iff_eq, bne_eq_false_iff_eq, beq_eq_false_iff_ne, Bool.not_eq_true', Bool.not_eq_false', ne_eq]; omega)); done) | fail) : WP P n (.cond c x y) Q st := WP.condF (hb ▸ hc) h
section
variable {P : Program} {T : Tbl} {n i : Nat} {ops : Array Oper} {l : List Oper} {pre : List Fp} {K : List Fp → St → Prop} {t tt : List (Nat × AV)} {H H' : Own} {o : Oper} {d : Nat} {r : AV}
theorem X.loc   (hK : OpsX P T n ops (i + 1) l ((⟨opN t o.op, [], []⟩) :: pre) K ⟨(d, r) :: t, H⟩) (hg : o.guard = none := by rfl) (hd : o.dst = some d := by rfl) (hn : Nat.blt d n = true := by rfl) (hE : LEff P T (St.ev ⟨t, H⟩) H d o.op r [] := by first | ((first | exact .eff (.mv rfl) | exact .eff (.asg rfl) | exact .eff (.loadO rfl rfl rfl) | exact .eff (.loadF rfl rfl) | exact .eff (.fldO rfl rfl rfl) | exact .eff (.fldF rfl rfl rfl) | (apply LEff.eff; apply Eff.idxS; (· rfl); (· rfl); (· rfl); (· intro _; rfl); (· assumption)) | (refine .eff (.add64 rfl rfl ?_ ?_) <;> omega) | (refine .eff (.sub64 rfl rfl ?_ ?_) <;> omega) | exact .eff (.lenF rfl rfl) | exact .eff (.lenO rfl rfl rfl) | exact .eff (.lenN rfl rfl) | exact .eff (.lenS rfl rfl) | exact .eff (.isNilF rfl (by omega) rfl (by refine flatMap_len ?_ _; intro _; rfl)) | exact .eff (.isNilO rfl rfl (by omega) rfl) | exact .eff (.isNilZ rfl rfl rfl) | exact .eff (.lenB rfl rfl) | exact .eff (.idxB rfl rfl rfl (by omega) (by omega)) | exact .eff (.oLH rfl rfl rfl rfl rfl (by omega) (by omega)) | exact .eff (.oL rfl rfl rfl rfl (by omega)) | exact .eff (.oH rfl rfl rfl rfl (by omega)) | exact .eff (.bLH rfl rfl rfl rfl rfl (by omega) (by omega)) | exact .eff (.or rfl rfl rfl) | exact .eff (.and rfl rfl rfl) | exact .eff (.not rfl) | exact .eff (.extract rfl rfl) | (refine .eff (.mul64 rfl rfl ?_ ?_) <;> omega) | exact .eff (.bin rfl rfl rfl) | (refine .eff (.quo64 rfl rfl ?_ ?_ ?_) <;> omega) | (refine .eff (.rem64 rfl rfl ?_ ?_) <;> omega) | exact .eff (.idxPO rfl rfl rfl (by omega) (by omega)) | exact .eff (.idxPF rfl rfl rfl (by omega) (by omega)) | exact .eff (.idxO rfl rfl rfl rfl (by omega) (by omega)) | exact .eff (.buildS rfl rfl rfl rfl) | exact .eff (.eqA rfl rfl rfl rfl rfl) | exact .eff (.neA rfl rfl rfl rfl rfl) | exact .eff (.quo rfl rfl (by decide)) | exact .eff (.rem rfl rfl (by decide)) | exact .eff (.shr rfl rfl (by decide) (by decide)) | exact .eff (.shl rfl rfl (by decide) (by decide)) | exact .eff (.conv rfl rfl rfl) | exact .eff (.bEq rfl rfl rfl) | exact .eff (.bNe rfl rfl rfl) | exact .eff (.strEq rfl rfl) | exact .eff (.strNe rfl rfl) | exact .eff (.mkFn) | exact .eff (.nilO rfl) | exact .eff (.nilF rfl) | exact .eff (.neg rfl) | exact .eff (.max rfl rfl) | exact .eff (.min rfl rfl)); done) | fail) : OpsX P T n ops i (o :: l) pre K ⟨t, H⟩ := .of (fun h => Ops.loc hg hd hn hE h) hK
theorem X.loE   (k0 : (o.guard = none) ∧ (o.dst = some d) ∧ (Nat.blt d n = true)) (k1 : (LEff P T (St.ev ⟨t, H⟩) H d o.op r [])) (hK : OpsX P T n ops (i + 1) l ((⟨opN t o.op, [], []⟩) :: pre) K ⟨(d, r) :: t, H⟩) : OpsX P T n ops i (o :: l) pre K ⟨t, H⟩ := .of (fun h => Ops.loc k0.1 k0.2.1 k0.2.2 k1 h) hK
theorem X.new  {g : Nat} {ob : OB} (hK : OpsX P T n ops (i + 1) l ((⟨opN t o.op, [g], [g]⟩) :: pre) K ⟨(d, r) :: t, (g, ob) :: H⟩) (hg : o.guard = none := by rfl) (hd : o.dst = some d := by rfl) (hn : Nat.blt d n = true := by rfl) (hE : LEff P T (St.ev ⟨t, H⟩) H d o.op r [(g, ob)] := by first | ((first | exact .eff (.box rfl) | exact .eff (.alloc rfl) | exact .eff (.bsliceS rfl rfl rfl rfl rfl) | exact .eff (.mkS rfl rfl rfl rfl (by omega) (by omega)) | exact .eff (.zeroS rfl rfl (by intro l hl; first | cases hl | exact ⟨_, by injection hl with hl; subst hl; rfl⟩) rfl rfl rfl)); done) | fail) (hf : freshB ⟨t, H⟩ [(g, ob)] = true := by first | ((first | rfl | (simp only [freshB, noRefH, OB.cells, refsL_fv, refsL_app]; rfl)); done) | fail) : OpsX P T n ops i (o :: l) pre K ⟨t, H⟩ := .of (fun h => Ops.new hg hd hn hE hf h) hK
theorem X.gst  {oj : Oper} {j tj : Nat} {want : Bool} {ag : AV} {c : Prop} (hK : OpsX P T n ops (i + 1) l ((⟨opN t o.op, [], []⟩) :: pre) K ⟨(d, .whn c r) :: t, H⟩) (hg : o.guard = some (j, want) := by rfl) (hd : o.dst = some d := by rfl) (hn : Nat.blt d n = true := by rfl) (hj : ops[j]? = some oj := by rfl) (hdj : oj.dst = some tj := by rfl) (hnj : Nat.blt tj n = true := by rfl) (hb : lk t tj = some ag := by rfl) (hgv : GVal want ag c := by first | ((first | exact .b | exact .w); done) | fail) (hgo : c → gokAll c ⟨t, H⟩ o.op.operands.toList := by first | ((intro hc; repeat' (first | exact trivial | exact fun _ => hc | exact fun _ => hc.1 | exact fun _ => ⟨hc.1.1, hc.1.2⟩ | refine And.intro ?_ ?_)); done) | fail) (hE : c → LEff P T (fun x => (St.ev ⟨t, H⟩ x).strip) H d o.op r [] := by first | ((intro hc; first | exact .eff (.mvG rfl) | exact .eff (.asg rfl) | exact .eff (.loadO rfl rfl rfl) | exact .eff (.loadF rfl rfl) | exact .eff (.fldO rfl rfl rfl) | exact .eff (.fldF rfl rfl rfl) | (apply LEff.eff; apply Eff.idxS; (· rfl); (· rfl); (· rfl); (· intro _; rfl); (· assumption)) | (refine .eff (.add64 rfl rfl ?_ ?_) <;> omega) | (refine .eff (.sub64 rfl rfl ?_ ?_) <;> omega) | exact .eff (.lenF rfl rfl) | exact .eff (.lenO rfl rfl rfl) | exact .eff (.lenN rfl rfl) | exact .eff (.lenS rfl rfl) | exact .eff (.isNilF rfl (by omega) rfl (by refine flatMap_len ?_ _; intro _; rfl)) | exact .eff (.isNilO rfl rfl (by omega) rfl) | exact .eff (.isNilZ rfl rfl rfl) | exact .eff (.lenB rfl rfl) | exact .eff (.idxB rfl rfl rfl (by omega) (by omega)) | exact .eff (.oLH rfl rfl rfl rfl rfl (by omega) (by omega)) | exact .eff (.oL rfl rfl rfl rfl (by omega)) | exact .eff (.oH rfl rfl rfl rfl (by omega)) | exact .eff (.bLH rfl rfl rfl rfl rfl (by omega) (by omega)) | exact .eff (.or rfl rfl rfl) | exact .eff (.and rfl rfl rfl) | exact .eff (.not rfl) | exact .eff (.extract rfl rfl) | (refine .eff (.mul64 rfl rfl ?_ ?_) <;> omega) | exact .eff (.bin rfl rfl rfl) | (refine .eff (.quo64 rfl rfl ?_ ?_ ?_) <;> omega) | (refine .eff (.rem64 rfl rfl ?_ ?_) <;> omega) | exact .eff (.idxPO rfl rfl rfl (by omega) (by omega)) | exact .eff (.idxPF rfl rfl rfl (by omega) (by omega)) | exact .eff (.idxO rfl rfl rfl rfl (by omega) (by omega)) | exact .eff (.buildS rfl rfl rfl rfl) | exact .eff (.eqA rfl rfl rfl rfl rfl) | exact .eff (.neA rfl rfl rfl rfl rfl) | exact .eff (.quo rfl rfl (by decide)) | exact .eff (.rem rfl rfl (by decide)) | exact .eff (.shr rfl rfl (by decide) (by decide)) | exact .eff (.shl rfl rfl (by decide) (by decide)) | exact .eff (.conv rfl rfl rfl) | exact .eff (.bEq rfl rfl rfl) | exact .eff (.bNe rfl rfl rfl) | exact .eff (.strEq rfl rfl) | exact .eff (.strNe rfl rfl) | exact .eff (.mkFn) | exact .eff (.nilO rfl) | exact .eff (.nilF rfl) | exact .eff (.neg rfl) | exact .eff (.max rfl rfl) | exact .eff (.min rfl rfl)); done) | fail) (hf : r.sub (o.op.operands.toList.map (St.ev ⟨t, H⟩)) = true := by rfl) (hq : loudOp o.op = false := by rfl) : OpsX P T n ops i (o :: l) pre K ⟨t, H⟩ := .of (fun h => Ops.gst hg hd hn hj hdj hnj hb hgv hgo hE hf hq h) hK
theorem X.gsE  {oj : Oper} {j tj : Nat} {want : Bool} {ag : AV} {c : Prop} (k0 : (o.guard = some (j, want)) ∧ (o.dst = some d) ∧ (Nat.blt d n = true) ∧ (ops[j]? = some oj) ∧ (oj.dst = some tj) ∧ (Nat.blt tj n = true) ∧ (lk t tj = some ag)) (k1 : (GVal want ag c)) (k2 : (c → gokAll c ⟨t, H⟩ o.op.operands.toList)) (k3 : (c → LEff P T (fun x => (St.ev ⟨t, H⟩ x).strip) H d o.op r [])) (k4 : (r.sub (o.op.operands.toList.map (St.ev ⟨t, H⟩)) = true) ∧ (loudOp o.op = false)) (hK : OpsX P T n ops (i + 1) l ((⟨opN t o.op, [], []⟩) :: pre) K ⟨(d, .whn c r) :: t, H⟩) : OpsX P T n ops i (o :: l) pre K ⟨t, H⟩ := .of (fun h => Ops.gst k0.1 k0.2.1 k0.2.2.1 k0.2.2.2.1 k0.2.2.2.2.1 k0.2.2.2.2.2.1 k0.2.2.2.2.2.2 k1 k2 k3 k4.1 k4.2 h) hK
theorem X.gld  {oj : Oper} {j tj ty g off : Nat} {want : Bool} {ag r : AV} {c : Prop} {x : Operand} {ob : OB} (hK : OpsX P T n ops (i + 1) l ((⟨[g], [], []⟩) :: pre) K ⟨(d, .whn c r) :: tt, H⟩) (hg : o.guard = some (j, want) := by rfl) (hd : o.dst = some d := by rfl) (hn : Nat.blt d n = true := by rfl) (hj : ops[j]? = some oj := by rfl) (hdj : oj.dst = some tj := by rfl) (hnj : Nat.blt tj n = true := by rfl) (hb : lk tt tj = some ag := by rfl) (hgv : GVal want ag c := by first | ((first | exact .b | exact .w); done) | fail) (hop : o.op = .load ty x := by rfl) (hx : evG tt x = some (.optr g off) := by rfl) (hgo : c → gok c (St.ev ⟨tt, H⟩ x) := by first | ((intro hc; first | exact trivial | exact fun _ => hc | exact fun _ => hc.1 | exact fun _ => ⟨hc.1.1, hc.1.2⟩); done) | fail) (hob : lk H g = some ob := by rfl) (hr : readA T ty off ob.cells = some r := by rfl) : OpsX P T n ops i (o :: l) pre K ⟨tt, H⟩ := .of (fun h => Ops.gld hg hd hn hj hdj hnj hb hgv hop hx hgo hob hr h) hK
theorem X.app  {ty e s b k m : Nat} {x y : Operand} {ax ay : AV} {cs news : List AV} (hK : OpsX P T n ops (i + 1) l ((⟨baseN ax ++ baseN ay, d :: baseN ax, [d]⟩) :: pre) K ⟨(d, .osl d) :: t, (d, .row e s (k + m) (cs ++ news)) :: H'⟩) (hg : o.guard = none := by rfl) (hd : o.dst = some d := by rfl) (hn : Nat.blt d n = true := by rfl) (hop : o.op = .call { callee := .builtin .append, args := #[x, y], argTypes := #[ty, ty] } := by rfl) (hty : lk T.sli ty = some (e, s, b) := by rfl) (hx : evO t x = some ax := by rfl) (hy : evO t y = some ay := by rfl) (hB : ABase H e s ax k cs H' := by first | ((first | exact .nil | exact .own rfl (rmv_q (by first | exact (rfl : _ = []) | exact (rfl : _ = [_]) | exact (rfl : _ = [_, _]) | exact (rfl : _ = [_, _, _]) | exact (rfl : _ = [_, _, _, _]) | exact (rfl : _ = [_, _, _, _, _]) | exact (rfl : _ = [_, _, _, _, _, _]) | exact (rfl : _ = [_, _, _, _, _, _, _]) | exact (rfl : _ = [_, _, _, _, _, _, _, _]) | exact (rfl : _ = [_, _, _, _, _, _, _, _, _]) | exact (rfl : _ = [_, _, _, _, _, _, _, _, _, _]) | exact (rfl : _ = [_, _, _, _, _, _, _, _, _, _, _]) | exact (rfl : _ = [_, _, _, _, _, _, _, _, _, _, _, _]) | exact (rfl : _ = [_, _, _, _, _, _, _, _, _, _, _, _, _]) | exact (rfl : _ = [_, _, _, _, _, _, _, _, _, _, _, _, _, _]) | exact (rfl : _ = [_, _, _, _, _, _, _, _, _, _, _, _, _, _, _]) | exact (rfl : _ = [_, _, _, _, _, _, _, _, _, _, _, _, _, _, _, _])))); done) | fail) (hS : ASrc H s ay m news := by first | ((first | exact .fz (by refine flatMap_len ?_ _; intro _; rfl) | exact .nil | exact .own rfl (by first | rfl | exact onesB_map _) | exact .fz (by first | rfl | (simp; done) | exact (flatMap_len (s := 1) (fun _ => rfl) _).trans (by omega))); done) | fail) (hb : Nat.blt 0 b = true := by rfl) (hby : (k + m) * b ≤ 140737488355328 := by first | ((show (_ : Nat) ≤ 140737488355328; omega); done) | fail) (hf : freshB ⟨t, H⟩ [(d, .row e s (k + m) (cs ++ news))] = true := by first | ((first | rfl | (simp only [freshB, noRefH, OB.cells, refsL_fv, refsL_app]; rfl)); done) | fail) : OpsX P T n ops i (o :: l) pre K ⟨t, H⟩ := .of (fun h => Ops.app hg hd hn hop hty hx hy hB hS hb hby hf h) hK
theorem X.appS  {t : List (Nat × AV)} {H H' : Own} {ty u e k : Nat} {s : ByteArray} {x y : Operand} {ax : AV} {cs : List AV} (hK : OpsX P T n ops (i + 1) l ((⟨baseN ax, d :: baseN ax, [d]⟩) :: pre) K ⟨(d, .osl d) :: t, (d, .row e 1 (k + s.size) (cs ++ (strFV s).map .fv)) :: H'⟩) (hg : o.guard = none := by rfl) (hd : o.dst = some d := by rfl) (hn : Nat.blt d n = true := by rfl) (hop : o.op = .call { callee := .builtin .append, args := #[x, y], argTypes := #[ty, u] } := by rfl) (hty : lk T.sli ty = some (e, 1, 1) := by rfl) (hbt : lk T.byt e = some () := by rfl) (hu : lk T.str u = some () := by rfl) (hx : evO t x = some ax := by rfl) (hy : evO t y = some (.fv (.str s)) := by rfl) (hB : ABase H e 1 ax k cs H' := by first | ((first | exact .nil | exact .own rfl (rmv_q (by first | exact (rfl : _ = []) | exact (rfl : _ = [_]) | exact (rfl : _ = [_, _]) | exact (rfl : _ = [_, _, _]) | exact (rfl : _ = [_, _, _, _]) | exact (rfl : _ = [_, _, _, _, _]) | exact (rfl : _ = [_, _, _, _, _, _]) | exact (rfl : _ = [_, _, _, _, _, _, _]) | exact (rfl : _ = [_, _, _, _, _, _, _, _]) | exact (rfl : _ = [_, _, _, _, _, _, _, _, _]) | exact (rfl : _ = [_, _, _, _, _, _, _, _, _, _]) | exact (rfl : _ = [_, _, _, _, _, _, _, _, _, _, _]) | exact (rfl : _ = [_, _, _, _, _, _, _, _, _, _, _, _]) | exact (rfl : _ = [_, _, _, _, _, _, _, _, _, _, _, _, _]) | exact (rfl : _ = [_, _, _, _, _, _, _, _, _, _, _, _, _, _]) | exact (rfl : _ = [_, _, _, _, _, _, _, _, _, _, _, _, _, _, _]) | exact (rfl : _ = [_, _, _, _, _, _, _, _, _, _, _, _, _, _, _, _])))); done) | fail) (h47 : k + s.size ≤ 140737488355328 := by first | ((show (_ : Nat) ≤ 140737488355328; omega); done) | fail) (hf : freshB ⟨t, H⟩ [(d, .row e 1 (k + s.size) (cs ++ (strFV s).map .fv))] = true := by first | ((first | rfl | (simp only [freshB, noRefH, OB.cells, refsL_fv, refsL_app]; rfl)); done) | fail) : OpsX P T n ops i (o :: l) pre K ⟨t, H⟩ := .of (fun h => Ops.appS hg hd hn hop hty hbt hu hx hy hB h47 hf h) hK
theorem X.stoW  {ty g bt : Nat} {x y : Operand} {c0 us : List AV} (hK : OpsX P T n ops (i + 1) l ((⟨[g], [g], []⟩) :: pre) K ⟨t, H'⟩) (hg : o.guard = none := by rfl) (hd : o.dst = none := by rfl) (hop : o.op = .store ty x y := by rfl) (hx : evO t x = some (.optr g 0) := by rfl) (hob : lk H g = some (.box bt c0) := by rfl) (hy : (evO t y).bind cells1 = some us := by rfl) (h1 : onesB us = true := by first | ((first | rfl | exact onesB_map _); done) | fail) (hs : sizeB T ty us.length = true := by rfl) (hlen : Nat.beq us.length c0.length = true := by rfl) (hr : Repl g (.box bt c0) (.box bt us) H H' := by first | ((repeat' (first | exact .here | apply Repl.there rfl)); done) | fail) : OpsX P T n ops i (o :: l) pre K ⟨t, H⟩ := .of (fun h => Ops.stoW hg hd hop hx hob hy h1 hs hlen hr h) hK
theorem X.stoB  {ty g off bt : Nat} {x y : Operand} {c0 us cs : List AV} (hK : OpsX P T n ops (i + 1) l ((⟨[g], [g], []⟩) :: pre) K ⟨t, H'⟩) (hg : o.guard = none := by rfl) (hd : o.dst = none := by rfl) (hop : o.op = .store ty x y := by rfl) (hx : evO t x = some (.optr g off) := by rfl) (hob : lk H g = some (.box bt c0) := by rfl) (hy : (evO t y).bind cells1 = some us := by rfl) (h1 : onesB us = true := by first | ((first | rfl | exact onesB_map _); done) | fail) (hs : sizeB T ty us.length = true := by rfl) (hset : setC c0 off us = some cs := by rfl) (hr : Repl g (.box bt c0) (.box bt cs) H H' := by first | ((repeat' (first | exact .here | apply Repl.there rfl)); done) | fail) : OpsX P T n ops i (o :: l) pre K ⟨t, H⟩ := .of (fun h => Ops.stoB hg hd hop hx hob hy h1 hs hset hr h) hK
theorem X.stoR  {ty g off e s m : Nat} {x y : Operand} {c0 us cs : List AV} (hK : OpsX P T n ops (i + 1) l ((⟨[g], [g], []⟩) :: pre) K ⟨t, H'⟩) (hg : o.guard = none := by rfl) (hd : o.dst = none := by rfl) (hop : o.op = .store ty x y := by rfl) (hx : evO t x = some (.optr g off) := by rfl) (hob : lk H g = some (.row e s m c0) := by rfl) (hy : (evO t y).bind cells1 = some us := by rfl) (h1 : onesB us = true := by first | ((first | rfl | exact onesB_map _); done) | fail) (hs : sizeB T ty us.length = true := by rfl) (hset : setC c0 off us = some cs := by rfl) (hr : Repl g (.row e s m c0) (.row e s m cs) H H' := by first | ((repeat' (first | exact .here | apply Repl.there rfl)); done) | fail) : OpsX P T n ops i (o :: l) pre K ⟨t, H⟩ := .of (fun h => Ops.stoR hg hd hop hx hob hy h1 hs hset hr h) hK
theorem X.stBE  {ty g off bt : Nat} {x y : Operand} {c0 us cs : List AV} (k0 : (o.guard = none) ∧ (o.dst = none) ∧ (o.op = .store ty x y) ∧ (evO t x = some (.optr g off)) ∧ (lk H g = some (.box bt c0)) ∧ ((evO t y).bind cells1 = some us) ∧ (onesB us = true) ∧ (sizeB T ty us.length = true)) (k1 : (setC c0 off us = some cs)) (k2 : (Repl g (.box bt c0) (.box bt cs) H H')) (hK : OpsX P T n ops (i + 1) l ((⟨[g], [g], []⟩) :: pre) K ⟨t, H'⟩) : OpsX P T n ops i (o :: l) pre K ⟨t, H⟩ := .of (fun h => Ops.stoB k0.1 k0.2.1 k0.2.2.1 k0.2.2.2.1 k0.2.2.2.2.1 k0.2.2.2.2.2.1 k0.2.2.2.2.2.2.1 k0.2.2.2.2.2.2.2 k1 k2 h) hK
theorem X.stRE  {ty g off e s m : Nat} {x y : Operand} {c0 us cs : List AV} (k0 : (o.guard = none) ∧ (o.dst = none) ∧ (o.op = .store ty x y) ∧ (evO t x = some (.optr g off)) ∧ (lk H g = some (.row e s m c0)) ∧ ((evO t y).bind cells1 = some us) ∧ (onesB us = true) ∧ (sizeB T ty us.length = true)) (k1 : (setC c0 off us = some cs)) (k2 : (Repl g (.row e s m c0) (.row e s m cs) H H')) (hK : OpsX P T n ops (i + 1) l ((⟨[g], [g], []⟩) :: pre) K ⟨t, H'⟩) : OpsX P T n ops i (o :: l) pre K ⟨t, H⟩ := .of (fun h => Ops.stoR k0.1 k0.2.1 k0.2.2.1 k0.2.2.2.1 k0.2.2.2.2.1 k0.2.2.2.2.2.1 k0.2.2.2.2.2.2.1 k0.2.2.2.2.2.2.2 k1 k2 h) hK
theorem X.gand  {oj : Oper} {j tj : Nat} {want b b' : Bool} {ag : AV} {c c1 c2 : Prop} {q x : Operand} (hK : OpsX P T n ops (i + 1) l ((⟨opN t o.op, [], []⟩) :: pre) K ⟨(d, .whn c (.fv (.bool (b && b')))) :: t, H⟩) (hg : o.guard = some (j, want) := by rfl) (hd : o.dst = some d := by rfl) (hn : Nat.blt d n = true := by rfl) (hj : ops[j]? = some oj := by rfl) (hdj : oj.dst = some tj := by rfl) (hnj : Nat.blt tj n = true := by rfl) (hb : lk t tj = some ag := by rfl) (hgv : GVal want ag c := by first | ((first | exact .b | exact .w); done) | fail) (hop : o.op = .pick q x (.const (.bool false)) := by rfl) (h1 : evO t q = some (.whn c1 (.fv (.bool b))) := by rfl) (h2 : evO t x = some (.whn c2 (.fv (.bool b'))) := by rfl) (hxq : q ≠ x := by simp) (h4 : c → c1 := by first | ((intro hc; first | exact hc | exact hc.1); done) | fail) (h5 : c → (c2 ↔ b = true) := by first | ((intro hc; exact ⟨fun h => h.2, fun h => ⟨hc, h⟩⟩); done) | fail) : OpsX P T n ops i (o :: l) pre K ⟨t, H⟩ := .of (fun h => Ops.gand hg hd hn hj hdj hnj hb hgv hop h1 h2 hxq h4 h5 h) hK
theorem X.gor  {oj : Oper} {j tj : Nat} {want b b' : Bool} {ag : AV} {c c1 c2 : Prop} {q x : Operand} (hK : OpsX P T n ops (i + 1) l ((⟨opN t o.op, [], []⟩) :: pre) K ⟨(d, .whn c (.fv (.bool (b || b')))) :: t, H⟩) (hg : o.guard = some (j, want) := by rfl) (hd : o.dst = some d := by rfl) (hn : Nat.blt d n = true := by rfl) (hj : ops[j]? = some oj := by rfl) (hdj : oj.dst = some tj := by rfl) (hnj : Nat.blt tj n = true := by rfl) (hb : lk t tj = some ag := by rfl) (hgv : GVal want ag c := by first | ((first | exact .b | exact .w); done) | fail) (hop : o.op = .pick q (.const (.bool true)) x := by rfl) (h1 : evO t q = some (.whn c1 (.fv (.bool b))) := by rfl) (h2 : evO t x = some (.whn c2 (.fv (.bool b'))) := by rfl) (hxq : q ≠ x := by simp) (h4 : c → c1 := by first | ((intro hc; first | exact hc | exact hc.1); done) | fail) (h5 : c → (c2 ↔ b = false) := by first | ((intro hc; exact ⟨fun h => h.2, fun h => ⟨hc, h⟩⟩); done) | fail) : OpsX P T n ops i (o :: l) pre K ⟨t, H⟩ := .of (fun h => Ops.gor hg hd hn hj hdj hnj hb hgv hop h1 h2 hxq h4 h5 h) hK
theorem X.cal (L : Bool) {t : List (Nat × AV)} {H H1 : Own} {N : List Nat} {f : Operand} {args : Array Operand} {ts : Array TypeId} {fid : FuncId} {cs as0 asx : List AV} {r r' : AV} {ownC own' A : Own} (k0 : (o.guard = none) ∧ (o.dst = some d) ∧ (Nat.blt d n = true) ∧ (o.op = .call { callee := .value f, args := args, argTypes := ts }) ∧ (evO t f = some (.fn fid cs)) ∧ (evL t args.toList = some as0)) (k1 : (FunO P fid asx ownC r own')) (k2 : (AV.ToL (phiO H (AV.phiL (as0 ++ cs) asx) ownC) (lentO H (phiO H (AV.phiL (as0 ++ cs) asx) ownC) (AV.lentL (as0 ++ cs) asx) ownC) H (as0 ++ cs) asx) ∧ (toH (phiO H (AV.phiL (as0 ++ cs) asx) ownC) (lentO H (phiO H (AV.phiL (as0 ++ cs) asx) ownC) (AV.lentL (as0 ++ cs) asx) ownC) H ownC) ∧ (givenB (phiO H (AV.phiL (as0 ++ cs) asx) ownC) ownC = true) ∧ (srcsB (phiO H (AV.phiL (as0 ++ cs) asx) ownC) (lentO H (phiO H (AV.phiL (as0 ++ cs) asx) ownC) (AV.lentL (as0 ++ cs) asx) ownC) ownC = true) ∧ (AV.Rn L (nuA (phiO H (AV.phiL (as0 ++ cs) asx) ownC) d own') r r') ∧ (OwnRn L (nuA (phiO H (AV.phiL (as0 ++ cs) asx) ownC) d own') own' A) ∧ (oneB (nuA (phiO H (AV.phiL (as0 ++ cs) asx) ownC) d own') = true) ∧ (backB (phiO H (AV.phiL (as0 ++ cs) asx) ownC) (nuA (phiO H (AV.phiL (as0 ++ cs) asx) ownC) d own') = true) ∧ (newsN (phiO H (AV.phiL (as0 ++ cs) asx) ownC) (nuA (phiO H (AV.phiL (as0 ++ cs) asx) ownC) d own') = N) ∧ (freeNs N t H = true) ∧ (A ++ rest (srcsN (phiO H (AV.phiL (as0 ++ cs) asx) ownC) ++ vals (nuA (phiO H (AV.phiL (as0 ++ cs) asx) ownC) d own') ++ dropF L (lentO H (phiO H (AV.phiL (as0 ++ cs) asx) ownC) (AV.lentL (as0 ++ cs) asx) ownC)) H = H1)) (hK : OpsX P T n ops (i + 1) l ((⟨srcsN (phiO H (AV.phiL (as0 ++ cs) asx) ownC) ++ lentO H (phiO H (AV.phiL (as0 ++ cs) asx) ownC) (AV.lentL (as0 ++ cs) asx) ownC, srcsN (phiO H (AV.phiL (as0 ++ cs) asx) ownC) ++ N ++ dropF L (lentO H (phiO H (AV.phiL (as0 ++ cs) asx) ownC) (AV.lentL (as0 ++ cs) asx) ownC), N⟩) :: pre) K ⟨(d, r') :: t, H1⟩) : OpsX P T n ops i (o :: l) pre K ⟨t, H⟩ := .of (fun h => Ops.callA L k0.1 k0.2.1 k0.2.2.1 k0.2.2.2.1 k0.2.2.2.2.1 k0.2.2.2.2.2 k1 k2.1 k2.2.1 k2.2.2.1 k2.2.2.2.1 k2.2.2.2.2.1 k2.2.2.2.2.2.1 k2.2.2.2.2.2.2.1 k2.2.2.2.2.2.2.2.1 k2.2.2.2.2.2.2.2.2.1 k2.2.2.2.2.2.2.2.2.2.1 k2.2.2.2.2.2.2.2.2.2.2 h) hK
theorem X.clr  {t e s b g lo m q N : Nat} {x : Operand} {zs cs cs' : List AV} (k0 : (o.guard = none) ∧ (o.dst = none) ∧ (o.op = .call { callee := .builtin .clear, args := #[x], argTypes := #[t] }) ∧ (lk T.sli t = some (e, s, b)) ∧ (lk T.zero e = some zs) ∧ (onesB zs = true) ∧ (evO tt x = some (.osb g lo m s)) ∧ (lk H g = some (.row q s N cs))) (k1 : (setC cs (lo * s) ((List.replicate m zs).flatten) = some cs')) (k2 : (Repl g (.row q s N cs) (.row q s N cs') H H')) (hK : OpsX P T n ops (i + 1) l ((⟨[g], [g], []⟩) :: pre) K ⟨tt, H'⟩) : OpsX P T n ops i (o :: l) pre K ⟨tt, H⟩ := .of (fun h => Ops.clr k0.1 k0.2.1 k0.2.2.1 k0.2.2.2.1 k0.2.2.2.2.1 k0.2.2.2.2.2.1 k0.2.2.2.2.2.2.1 k0.2.2.2.2.2.2.2 k1 k2 h) hK
end
theorem AV.ToL.app {φ : List (Nat × Whence)} {F : List Nat} {H : Own} : ∀ {xs bs cs ds : List AV}, AV.ToL φ F H xs bs → AV.ToL φ F H cs ds → AV.ToL φ F H (xs ++ cs) (bs ++ ds)
  | [], _, _, _, h, h' => by cases h; exact h'
  | _ :: _, _, _, _, h, h' => by cases h with | cons h1 h2 => exact .cons h1 (AV.ToL.app h2 h')
theorem Bor.rowE {H : Own} {g e s n : Nat} {us : List FV} {cs : List AV} (h : lk H g = some (.row e s n cs)) (hc : cs = us.map .fv) : Bor H (.osl g) (.fv (.sl us n)) := by
  subst hc
  exact .row h
theorem aR {p : Prop} (h : p := by first | ((repeat' (first | refine And.intro ?_ ?_ | rfl)); done) | fail) : p := h
theorem aS {p : Prop} (h : p := by first | (((refine ⟨?_, ?_, ?_, ?_, ?_, ?_, ?_, ?_⟩; (· rfl); (· rfl); (· rfl); (· rfl); (· rfl); (· rfl); (· first | rfl | exact onesB_map _); (· rfl))); done) | fail) : p := h
theorem aE {p : Prop} (h : p := by first | ((repeat' (first | exact .here | apply Repl.there rfl)); done) | fail) : p := h
theorem aV {p : Prop} (h : p := by first | ((first | exact .b | exact .w); done) | fail) : p := h
theorem aW {p : Prop} (h : p := by first | ((intro hc; repeat' (first | exact trivial | exact fun _ => hc | exact fun _ => hc.1 | exact fun _ => ⟨hc.1.1, hc.1.2⟩ | refine And.intro ?_ ?_)); done) | fail) : p := h
theorem aB {p : Prop} (h : p := by first | ((repeat' (first | exact .nil | refine .cons ?_ ?_ | exact .le (.refl _) | exact .row rfl | exact .box rfl | exact .cut rfl (by omega) | exact .le .nil | exact Bor.rowE rfl (by first | assumption | (simp only [List.flatMap_append, List.map_append]; rfl)) | refine .agg ?_ | refine .fn ?_ | fail)); done) | fail) : p := h
theorem aF {p : Prop} (h : p := by first | ((first | rfl | (simp only [freeF, List.all_cons, List.all_nil, noRefH, OB.cells, refsL_fv, refsL_app]; rfl)); done) | fail) : p := h
theorem aC {p : Prop} (h : p := by first | (((refine ⟨?_, ?_, ?_, ?_, ?_, ?_, ?_, ?_, ?_, ?_, ?_⟩; (· skip; (repeat' (first | exact trivial | exact AV.ToL.nil | exact .ptr rfl | exact .sl rfl | exact AV.To.nil rfl | exact .le (.refl _) rfl | exact .frz rfl rfl rfl | exact .frp rfl rfl rfl | exact .le AV.Le.nil rfl | refine AV.To.agg ?_ | refine AV.To.fn ?_ | refine AV.ToL.cons ?_ ?_ | exact OB.To.nil rfl | refine OB.To.row rfl rfl rfl ?_ | refine OB.To.box rfl rfl ?_ | exact .ofEq rfl | refine ⟨?_, ?_⟩ | exact AV.To.cut rfl | fail))); (· skip; (repeat' (first | exact trivial | exact AV.ToL.nil | exact .ptr rfl | exact .sl rfl | exact AV.To.nil rfl | exact .le (.refl _) rfl | exact .frz rfl rfl rfl | exact .frp rfl rfl rfl | exact .le AV.Le.nil rfl | refine AV.To.agg ?_ | refine AV.To.fn ?_ | refine AV.ToL.cons ?_ ?_ | exact OB.To.nil rfl | refine OB.To.row rfl rfl rfl ?_ | refine OB.To.box rfl rfl ?_ | exact .ofEq rfl | refine ⟨?_, ?_⟩ | exact AV.To.cut rfl | fail))); (· rfl); (· rfl); (· skip; (repeat' (first | exact OwnRn.nil | apply OwnRn.cons rfl | apply OB.Rn.row | apply OB.Rn.box | exact AV.RnL.maps _ | exact AV.RnL.nil | exact AV.Rn.nil | exact AV.Rn.le rfl | exact AV.Rn.ptr rfl | exact AV.Rn.sl rfl | apply AV.RnL.cons | apply AV.Rn.agg | apply AV.Rn.tup | apply AV.Rn.fn | apply AV.RnL.app | apply AV.RnL.mapsS | fail))); (· skip; (repeat' (first | exact OwnRn.nil | apply OwnRn.cons rfl | apply OB.Rn.row | apply OB.Rn.box | exact AV.RnL.maps _ | exact AV.RnL.nil | exact AV.Rn.nil | exact AV.Rn.le rfl | exact AV.Rn.ptr rfl | exact AV.Rn.sl rfl | apply AV.RnL.cons | apply AV.Rn.agg | apply AV.Rn.tup | apply AV.Rn.fn | apply AV.RnL.app | apply AV.RnL.mapsS | fail))); (· rfl); (· rfl); (· exact (by first | exact (rfl : _ = []) | exact (rfl : _ = [_]) | exact (rfl : _ = [_, _]) | exact (rfl : _ = [_, _, _]) | exact (rfl : _ = [_, _, _, _]) | exact (rfl : _ = [_, _, _, _, _]) | exact (rfl : _ = [_, _, _, _, _, _]) | exact (rfl : _ = [_, _, _, _, _, _, _]) | exact (rfl : _ = [_, _, _, _, _, _, _, _]) | exact (rfl : _ = [_, _, _, _, _, _, _, _, _]) | exact (rfl : _ = [_, _, _, _, _, _, _, _, _, _]) | exact (rfl : _ = [_, _, _, _, _, _, _, _, _, _, _]) | exact (rfl : _ = [_, _, _, _, _, _, _, _, _, _, _, _]) | exact (rfl : _ = [_, _, _, _, _, _, _, _, _, _, _, _, _]) | exact (rfl : _ = [_, _, _, _, _, _, _, _, _, _, _, _, _, _]) | exact (rfl : _ = [_, _, _, _, _, _, _, _, _, _, _, _, _, _, _]) | exact (rfl : _ = [_, _, _, _, _, _, _, _, _, _, _, _, _, _, _, _]))); (· first | rfl | (simp only [freeNs, noRefH, OB.cells, refsL_fv, refsL_app]; rfl)); (· exact (by first | exact (rfl : _ = []) | exact (rfl : _ = [_]) | exact (rfl : _ = [_, _]) | exact (rfl : _ = [_, _, _]) | exact (rfl : _ = [_, _, _, _]) | exact (rfl : _ = [_, _, _, _, _]) | exact (rfl : _ = [_, _, _, _, _, _]) | exact (rfl : _ = [_, _, _, _, _, _, _]) | exact (rfl : _ = [_, _, _, _, _, _, _, _]) | exact (rfl : _ = [_, _, _, _, _, _, _, _, _]) | exact (rfl : _ = [_, _, _, _, _, _, _, _, _, _]) | exact (rfl : _ = [_, _, _, _, _, _, _, _, _, _, _]) | exact (rfl : _ = [_, _, _, _, _, _, _, _, _, _, _, _]) | exact (rfl : _ = [_, _, _, _, _, _, _, _, _, _, _, _, _]) | exact (rfl : _ = [_, _, _, _, _, _, _, _, _, _, _, _, _, _]) | exact (rfl : _ = [_, _, _, _, _, _, _, _, _, _, _, _, _, _, _]) | exact (rfl : _ = [_, _, _, _, _, _, _, _, _, _, _, _, _, _, _, _]))))); done) | fail) : p := h
theorem nx {G K : Prop} (k : K) (h : K → G := by first | ((first | with_reducible exact WP.seq | with_reducible exact X.reg tbl_ok rfl | with_reducible exact X.nil | with_reducible exact thenQ.nor | with_reducible exact thenQ.ex | with_reducible exact thenQ.ret | with_reducible exact blockQ.nor | with_reducible exact blockQ.ret | with_reducible exact blockQ.hit rfl | with_reducible exact blockQ.out rfl | with_reducible exact WP.block | with_reducible exact WP.skip | with_reducible exact WP.exit | with_reducible exact WP.ret | exact WP.condT rfl | exact WP.condF rfl); done) | fail) : G := h k
theorem nd {G K : Prop} (k : K) (h : K → G := by first | ((with_reducible exact X.drwL tbl_ok mixed_no rfl); done) | fail) : G := h k
theorem rb {G K : Prop} (k : K) (h : K → G := by first | ((first | exact fun k => X.gst k | exact fun k => X.gld k | exact fun k => X.new k | exact fun k => X.app k | exact fun k => X.appS k | exact fun k => X.stoW k | exact fun k => X.stoB k | exact fun k => X.stoR k | exact fun k => X.gand k | exact fun k => X.gor k); done) | fail) : G := h k
theorem dk {G K : Prop} (k : K) (h : K → G := by first | ((exact fun k => drwK.mk (by kernel_rfl) aF k); done) | fail) : G := h k
theorem bl {P : Program} {T : Tbl} {t : List (Nat × AV)} {H : Own} {d : Nat} {r : AV} {f : Operand} {args : Array Operand} {ts : Array TypeId} {fid : FuncId} {cs as0 asx : List AV} (h4 : Fun P fid asx r) (h1 : evO t f = some (.fn fid cs) := by rfl) (h2 : evL t args.toList = some as0 := by rfl) (h3 : BorL H (as0 ++ cs) asx := by exact aB) (h5 : r.scal = true := by rfl) : LEff P T (St.ev ⟨t, H⟩) H d (.call { callee := .value f, args := args, argTypes := ts }) r [] := LEff.callBL h1 h2 h4 h3 h5
theorem bg {P : Program} {T : Tbl} {t : List (Nat × AV)} {H : Own} {d : Nat} {r : AV} {f : Operand} {args : Array Operand} {ts : Array TypeId} {fid : FuncId} {cs as0 asx : List AV} (h4 : Fun P fid asx r) (h1 : evG t f = some (.fn fid cs) := by rfl) (h2 : evGL t args.toList = some as0 := by rfl) (h3 : BorL H (as0 ++ cs) asx := by exact aB) (h5 : r.scal = true := by rfl) : LEff P T (fun x => (St.ev ⟨t, H⟩ x).strip) H d (.call { callee := .value f, args := args, argTypes := ts }) r [] := LEff.callBG h1 h2 h4 h3 h5
section
variable {P : Program} {T : Tbl} {n i : Nat} {ops : Array Oper} {l : List Oper} {pre : List Fp} {K : List Fp → St → Prop} {t tt : List (Nat × AV)} {H H' : Own} {o : Oper} {d : Nat} {r : AV}
theorem X.c0 {t : List (Nat × AV)} {H H1 : Own} {N : List Nat} {f : Operand} {args : Array Operand} {ts : Array TypeId} {fid : FuncId} {cs as0 asx : List AV} {r r' : AV} {ownC own' A : Own}  (k1 : (FunO P fid asx ownC r own')) (hK : OpsX P T n ops (i + 1) l ((⟨srcsN (phiO H (AV.phiL (as0 ++ cs) asx) ownC) ++ lentO H (phiO H (AV.phiL (as0 ++ cs) asx) ownC) (AV.lentL (as0 ++ cs) asx) ownC, srcsN (phiO H (AV.phiL (as0 ++ cs) asx) ownC) ++ N ++ dropF false (lentO H (phiO H (AV.phiL (as0 ++ cs) asx) ownC) (AV.lentL (as0 ++ cs) asx) ownC), N⟩) :: pre) K ⟨(d, r') :: t, H1⟩) (k0 : (o.guard = none) ∧ (o.dst = some d) ∧ (Nat.blt d n = true) ∧ (o.op = .call { callee := .value f, args := args, argTypes := ts }) ∧ (evO t f = some (.fn fid cs)) ∧ (evL t args.toList = some as0) := by exact aR) (k2 : (AV.ToL (phiO H (AV.phiL (as0 ++ cs) asx) ownC) (lentO H (phiO H (AV.phiL (as0 ++ cs) asx) ownC) (AV.lentL (as0 ++ cs) asx) ownC) H (as0 ++ cs) asx) ∧ (toH (phiO H (AV.phiL (as0 ++ cs) asx) ownC) (lentO H (phiO H (AV.phiL (as0 ++ cs) asx) ownC) (AV.lentL (as0 ++ cs) asx) ownC) H ownC) ∧ (givenB (phiO H (AV.phiL (as0 ++ cs) asx) ownC) ownC = true) ∧ (srcsB (phiO H (AV.phiL (as0 ++ cs) asx) ownC) (lentO H (phiO H (AV.phiL (as0 ++ cs) asx) ownC) (AV.lentL (as0 ++ cs) asx) ownC) ownC = true) ∧ (AV.Rn false (nuA (phiO H (AV.phiL (as0 ++ cs) asx) ownC) d own') r r') ∧ (OwnRn false (nuA (phiO H (AV.phiL (as0 ++ cs) asx) ownC) d own') own' A) ∧ (oneB (nuA (phiO H (AV.phiL (as0 ++ cs) asx) ownC) d own') = true) ∧ (backB (phiO H (AV.phiL (as0 ++ cs) asx) ownC) (nuA (phiO H (AV.phiL (as0 ++ cs) asx) ownC) d own') = true) ∧ (newsN (phiO H (AV.phiL (as0 ++ cs) asx) ownC) (nuA (phiO H (AV.phiL (as0 ++ cs) asx) ownC) d own') = N) ∧ (freeNs N t H = true) ∧ (A ++ rest (srcsN (phiO H (AV.phiL (as0 ++ cs) asx) ownC) ++ vals (nuA (phiO H (AV.phiL (as0 ++ cs) asx) ownC) d own') ++ dropF false (lentO H (phiO H (AV.phiL (as0 ++ cs) asx) ownC) (AV.lentL (as0 ++ cs) asx) ownC)) H = H1) := by exact aC) : OpsX P T n ops i (o :: l) pre K ⟨t, H⟩ := X.cal false k0 k1 k2 hK
theorem X.c1 {t : List (Nat × AV)} {H H1 : Own} {N : List Nat} {f : Operand} {args : Array Operand} {ts : Array TypeId} {fid : FuncId} {cs as0 asx : List AV} {r r' : AV} {ownC own' A : Own}  (k1 : (FunO P fid asx ownC r own')) (hK : OpsX P T n ops (i + 1) l ((⟨srcsN (phiO H (AV.phiL (as0 ++ cs) asx) ownC) ++ lentO H (phiO H (AV.phiL (as0 ++ cs) asx) ownC) (AV.lentL (as0 ++ cs) asx) ownC, srcsN (phiO H (AV.phiL (as0 ++ cs) asx) ownC) ++ N ++ dropF true (lentO H (phiO H (AV.phiL (as0 ++ cs) asx) ownC) (AV.lentL (as0 ++ cs) asx) ownC), N⟩) :: pre) K ⟨(d, r') :: t, H1⟩) (k0 : (o.guard = none) ∧ (o.dst = some d) ∧ (Nat.blt d n = true) ∧ (o.op = .call { callee := .value f, args := args, argTypes := ts }) ∧ (evO t f = some (.fn fid cs)) ∧ (evL t args.toList = some as0) := by exact aR) (k2 : (AV.ToL (phiO H (AV.phiL (as0 ++ cs) asx) ownC) (lentO H (phiO H (AV.phiL (as0 ++ cs) asx) ownC) (AV.lentL (as0 ++ cs) asx) ownC) H (as0 ++ cs) asx) ∧ (toH (phiO H (AV.phiL (as0 ++ cs) asx) ownC) (lentO H (phiO H (AV.phiL (as0 ++ cs) asx) ownC) (AV.lentL (as0 ++ cs) asx) ownC) H ownC) ∧ (givenB (phiO H (AV.phiL (as0 ++ cs) asx) ownC) ownC = true) ∧ (srcsB (phiO H (AV.phiL (as0 ++ cs) asx) ownC) (lentO H (phiO H (AV.phiL (as0 ++ cs) asx) ownC) (AV.lentL (as0 ++ cs) asx) ownC) ownC = true) ∧ (AV.Rn true (nuA (phiO H (AV.phiL (as0 ++ cs) asx) ownC) d own') r r') ∧ (OwnRn true (nuA (phiO H (AV.phiL (as0 ++ cs) asx) ownC) d own') own' A) ∧ (oneB (nuA (phiO H (AV.phiL (as0 ++ cs) asx) ownC) d own') = true) ∧ (backB (phiO H (AV.phiL (as0 ++ cs) asx) ownC) (nuA (phiO H (AV.phiL (as0 ++ cs) asx) ownC) d own') = true) ∧ (newsN (phiO H (AV.phiL (as0 ++ cs) asx) ownC) (nuA (phiO H (AV.phiL (as0 ++ cs) asx) ownC) d own') = N) ∧ (freeNs N t H = true) ∧ (A ++ rest (srcsN (phiO H (AV.phiL (as0 ++ cs) asx) ownC) ++ vals (nuA (phiO H (AV.phiL (as0 ++ cs) asx) ownC) d own') ++ dropF true (lentO H (phiO H (AV.phiL (as0 ++ cs) asx) ownC) (AV.lentL (as0 ++ cs) asx) ownC)) H = H1) := by exact aC) : OpsX P T n ops i (o :: l) pre K ⟨t, H⟩ := X.cal true k0 k1 k2 hK
end
theorem tA {p : Prop} (h : p := by first | ((first | exact trivial | with_reducible rfl | exact .any | exact .ptr rfl | exact .sl rfl | exact .ptr0 rfl | exact .sl0 rfl | exact .sb0 rfl | exact .sb rfl | exact AV.To.nil rfl | exact .frz rfl rfl rfl | exact .frb rfl rfl (by omega) rfl | exact .frp rfl rfl rfl); done) | fail) : p := h
theorem tB {p : Prop} (h : p := by first | ((first | exact .le (.refl _) rfl | exact .le AV.Le.nil rfl | exact AV.ToL.nil | exact OB.To.nil rfl); done) | fail) : p := h
theorem t1 {G K : Prop} (k : K) (h : K → G := by first | ((first | exact AV.To.agg | exact AV.To.tup | exact AV.To.fn); done) | fail) : G := h k
theorem t2 {G K L : Prop} (k : K) (l : L) (h : K → L → G := by first | ((first | exact fun a b => AV.To.frzE rfl a b rfl | exact fun a b => AV.To.frbE rfl a b (by omega) rfl); done) | fail) : G := h k l
theorem t3 {G K : Prop} (k : K) (h : K → G := by first | ((exact fun a => .le (.of_eq a) rfl); done) | fail) : G := h k
theorem t4 {G K L : Prop} (k : K) (l : L) (h : K → L → G := by first | ((first | exact AV.ToL.cons | exact OB.To.row rfl rfl); done) | fail) : G := h k l
end Go.Proofs.YtmidechdlbcepaaGreat

namespace Go.Proofs.YtmidechdlbcepaaGreat
open Go.RowKit
set_option maxRecDepth 100000

theorem and_of {p q : Prop} [Decidable p] [Decidable q] : (decide p && decide q) = decide (p ∧ q) := by simp
theorem wword_T (n : Int) : Fun Tryz.prog 112 [.fv (.int .i64 n)] (.fv (.bool (word n))) := by
  refine Fun.body tbl_ok Tryz.func112 rfl (by kernel_rfl) rfl rfl rfl ?_
  repeat' (first | refine X.loc ?_ | refine nx ?_ | (refine WP.condBit rfl ?_ ?_) | (refine WP.cond rfl ?_ ?_ <;> intro hcond) | refine rb ?_ | refine nd ?_ | refine dk ?_ | fail)
  exact .f1 (.inl rfl) rfl (by rw [and_of]; rfl)
theorem fword_T (n : Int) : Fun Tryz.prog 138 [.fv (.int .i64 n)] (.fv (.bool (word n))) := by
  refine Fun.body tbl_ok Tryz.func138 rfl (by kernel_rfl) rfl rfl rfl ?_
  repeat' (first | refine X.loc ?_ | refine nx ?_ | (refine WP.condBit rfl ?_ ?_) | (refine WP.cond rfl ?_ ?_ <;> intro hcond) | refine rb ?_ | refine nd ?_ | refine dk ?_ | fail)
  exact .f1 (.inl rfl) rfl (by rw [and_of]; rfl)
theorem within_T (n lo hi : Int) : Fun Tryz.prog 91 [.fv (.int .i64 n), .fv (.int .i64 lo), .fv (.int .i64 hi)] (.fv (.bool (inR n lo hi))) := by
  refine Fun.body tbl_ok Tryz.func91 rfl (by kernel_rfl) rfl rfl rfl ?_
  repeat' (first | refine X.loc ?_ | refine nx ?_ | (refine WP.condBit rfl ?_ ?_) | (refine WP.cond rfl ?_ ?_ <;> intro hcond) | refine rb ?_ | refine nd ?_ | refine dk ?_ | fail)
  exact .f1 (.inl rfl) rfl (by rw [and_of]; rfl)
end Go.Proofs.YtmidechdlbcepaaGreat

namespace Go.Proofs.YtmidechdlbcepaaGreat
open Go.RowKit
set_option maxRecDepth 100000

theorem does_T (d : Dx) (table : Int) (ht : 0 ≤ table ∧ table ≤ 7) : Fun Tryz.prog 156 [.agg ((encDx d).map .fv), .fv (.int .i64 table)] (.fv (.bool (dxMay d table true))) := by
  refine Fun.body tbl_ok Tryz.func156 rfl (by kernel_rfl) rfl rfl rfl ?_
  repeat' (first | (apply X.loE; (· exact aR); (· first | exact .callL rfl rfl rfl (fword_T _) rfl | exact bl (fword_T _))) | refine X.loc ?_ | refine nx ?_ | (refine WP.condBit rfl ?_ ?_) | (refine WP.cond rfl ?_ ?_ <;> intro hcond) | (apply X.gsE; (· exact aR); (· exact aV); (· exact aW); (· intro hc; first | exact .callG rfl rfl rfl (fword_T _) rfl | exact bg (fword_T _)); (· exact aR)) | refine rb ?_ | refine nd ?_ | refine dk ?_ | fail)
  all_goals (refine .f1 (.inl rfl) rfl ?_; simp_all [dxMay, word, inR])
  all_goals (rw [Bool.eq_iff_iff]; simp <;> omega)

end Go.Proofs.YtmidechdlbcepaaGreat

namespace Go.Proofs.YtmidechdlbcepaaGreat
open Go.RowKit
set_option maxRecDepth 100000

theorem all_at {α : Type} {p : α → Bool} {l : List α} {k : Nat} {x : α} (hk : l[k]? = some x) : (l.drop k).all p = (p x && (l.drop (k + 1)).all p) := by
  have hlt := (List.getElem?_eq_some_iff.1 hk).1
  have e : l.drop k = x :: l.drop (k + 1) := by rw [List.drop_eq_getElem_cons hlt, (List.getElem?_eq_some_iff.1 hk).2]
  rw [e, List.all_cons]
end Go.Proofs.YtmidechdlbcepaaGreat

namespace Go.Proofs.YtmidechdlbcepaaGreat
open Go.RowKit
section
variable {P : Program} {T : Tbl} {n i : Nat} {ops : Array Oper} {o : Oper}
theorem StepS.guarded {oj : Oper} {j tj : Nat} {want : Bool} {fp : Fp} {st st' : St} (ho : ops[i]? = some o) (hg : o.guard = some (j, want)) (hj : ops[j]? = some oj) (hdj : oj.dst = some tj) (hnj : tj < n) (hb : lk st.t tj = some (.fv (.bool want)))
    (h : StepS P n (ops.setIfInBounds i { o with guard := none }) i fp st st') : StepS P n ops i fp st st' := by
  have hi : i < ops.size := (Array.getElem?_eq_some_iff.1 ho).1
  have ho' : (ops.setIfInBounds i { o with guard := none })[i]? = some { o with guard := none } := by simp [hi]
  obtain ⟨o2, p, D, h1, hL, hf, hI⟩ := h
  rw [ho'] at h1
  obtain rfl := Option.some.inj h1
  have hin : ∀ t, t ∈ Oper.looksAt (ops.setIfInBounds i { o with guard := none }) { o with guard := none } → t ∈ o.looksAt ops := fun t ht => by
    unfold Oper.looksAt at ht ⊢
    simp only [List.append_nil] at ht
    exact List.mem_append_left _ ht
  have htj : tj ∈ o.looksAt ops := by
    unfold Oper.looksAt
    exact List.mem_append_right _ (by simp [hg, hj, hdj])
  refine ⟨o, p, D, ho, ⟨fun s2 s2' e1 e2 e3 e4 => ?_, fun g e1 e2 e3 e4 => hL.refs g (fun t ht => e1 t (hin t ht)) e2 e3 e4, hL.dst, hL.keys, hL.nw⟩, hf, hI⟩
  have hs := hL.sem s2 s2' (fun t ht => e1 t (hin t ht)) e2 e3 e4
  intro C a w K Q hr hK
  have hw := hs C a w K Q hr hK
  unfold wpOp at hw ⊢
  rw [ho'] at hw
  rw [ho]
  dsimp only at hw ⊢
  have h3 := hr.2.2
  obtain ⟨σ, Z, _, ht⟩ := h3
  have hv : a.tmps.getD tj undef = .bool want := ht tj _ ((e1 tj htj).trans hb)
  have hlt : tj < a.tmps.size := by rw [hr.2.1]; exact hnj
  have hval : a.tmps[tj]? = some (.bool want) := by
    rw [← hv]
    simp [Array.getD, hlt]
  have hwant : Region.wanted o (yielded ops a.tmps) = true := by
    simp [Region.wanted, hg, yielded, hj, hdj, hval]
  rw [if_pos hwant]
  rw [if_pos (by simp [Region.wanted])] at hw
  exact hw
end
end Go.Proofs.YtmidechdlbcepaaGreat

namespace Go.Proofs.YtmidechdlbcepaaGreat
open Go.RowKit
def topB : St → Bool
  | ⟨(_, .fv (.bool _)) :: _, _⟩ => true
  | _ => false
section
variable {P : Program} {T : Tbl} {n i : Nat} {ops : Array Oper} {l : List Oper} {pre : List Fp} {K : List Fp → St → Prop} {o : Oper}
theorem X.grd {oj : Oper} {j tj : Nat} {want b : Bool} {fp : Fp} {st st' : St} (k0 : o.guard = some (j, want) ∧ ops[j]? = some oj ∧ oj.dst = some tj ∧ Nat.blt tj n = true ∧ lk st.t tj = some (.fv (.bool b))) (hb : b = want)
    (h1 : OpsX P T n (ops.setIfInBounds i { o with guard := none }) i [{ o with guard := none }] [] (fun fps s => fps = [fp] ∧ s = st') st) (ht : topB st' = false) (hK : OpsX P T n ops (i + 1) l (fp :: pre) K st') : OpsX P T n ops i (o :: l) pre K st := by
  obtain ⟨hg, hj, hdj, hnj, hv⟩ := k0
  subst hb
  obtain ⟨fps, h1⟩ := h1
  obtain ⟨fp0, fps', rfl, h1⟩ := h1.out
  refine .of (fun h => ?_) hK
  refine ⟨fp, _, rfl, fun ho => ⟨st', fun hT => ?_, h.out⟩⟩
  have hi : i < ops.size := (Array.getElem?_eq_some_iff.1 ho).1
  obtain ⟨st1, hs, e1, e2, e3⟩ := h1 (by simp [hi])
  subst e3 e1
  simp only [List.reverseAux, List.cons.injEq, and_true] at e2
  subst e2
  exact StepS.guarded ho hg hj hdj (by simpa [Nat.blt_eq] using hnj) hv (hs hT)
end
end Go.Proofs.YtmidechdlbcepaaGreat

namespace Go.Proofs.YtmidechdlbcepaaGreat
open Go.RowKit
set_option maxRecDepth 100000

theorem compA_snoc : ∀ (m : List Fl) (q p x : Fl), compA q (m ++ [p, x]) = if ordF x p = 0 then compA q (m ++ [p]) else compA q (m ++ [p]) ++ [x]
  | [], q, p, x => by
    have e : compA p [x] = if ordF x p = 0 then [] else [x] := rfl
    show (if ordF p q = 0 then compA p [x] else p :: compA p [x]) = if ordF x p = 0 then (if ordF p q = 0 then [] else [p]) else (if ordF p q = 0 then [] else [p]) ++ [x]
    rw [e]
    split <;> split <;> rfl
  | y :: m, q, p, x => by
    have ih := compA_snoc m y p x
    show (if ordF y q = 0 then compA y (m ++ [p, x]) else y :: compA y (m ++ [p, x])) = if ordF x p = 0 then (if ordF y q = 0 then compA y (m ++ [p]) else y :: compA y (m ++ [p])) else (if ordF y q = 0 then compA y (m ++ [p]) else y :: compA y (m ++ [p])) ++ [x]
    rw [ih]
    split <;> split <;> rfl
theorem compF_snoc {l : List Fl} {i : Nat} {p x : Fl} (hp : l[i]? = some p) (hx : l[i + 1]? = some x) : compF (l.take (i + 2)) = if ordF x p = 0 then compF (l.take (i + 1)) else compF (l.take (i + 1)) ++ [x] := by
  have e1 : l.take (i + 1) = l.take i ++ [p] := by rw [List.take_add_one, hp]; rfl
  have e2 : l.take (i + 2) = l.take i ++ [p, x] := by rw [List.take_add_one, hx, e1]; simp
  rw [e1, e2]
  cases l.take i with
  | nil =>
    show p :: compA p [x] = _
    have e : compA p [x] = if ordF x p = 0 then [] else [x] := rfl
    rw [e]
    split <;> rfl
  | cons y m =>
    show y :: compA y (m ++ [p, x]) = if ordF x p = 0 then y :: compA y (m ++ [p]) else (y :: compA y (m ++ [p])) ++ [x]
    rw [compA_snoc]
    split <;> rfl
theorem compA_len : ∀ (l : List Fl) (p : Fl), (compA p l).length ≤ l.length
  | [], _ => by simp [compA]
  | x :: l, p => by
    have := compA_len l x
    unfold compA
    split <;> simp <;> omega
theorem compF_len (l : List Fl) : (compF l).length ≤ l.length := by
  cases l with
  | nil => simp [compF]
  | cons x l => have := compA_len l x; simp [compF]; exact this
theorem dropO_mk : ∀ {n : Nat} {cs : List AV}, n ≤ cs.length → dropO n cs = some (cs.drop n)
  | 0, _, _ => rfl
  | n + 1, _ :: cs, h => by
    rw [dropO, dropO_mk (by simpa using h)]
    rfl
  | n + 1, [], h => by simp at h
theorem readFl {l : List Fl} {i off : Nat} {x : Fl} (h : off = i * 4) (hx : l[i]? = some x) : readA tbl 108 off ((l.flatMap encFl).map .fv) = some (.agg ((encFl x).map .fv)) := by
  subst h
  have hlt := (List.getElem?_eq_some_iff.1 hx).1
  have hlen : ((l.flatMap encFl).map AV.fv).length = l.length * 4 := by rw [List.length_map, flatMap_len encFl_len]
  have h1 : (l.flatMap encFl).drop (i * 4) = encFl x ++ (l.drop (i + 1)).flatMap encFl := by
    have e : l = l.take i ++ x :: l.drop (i + 1) := by
      rw [← (List.getElem?_eq_some_iff.1 hx).2, ← List.drop_eq_getElem_cons hlt, List.take_append_drop]
    have e2 : ((l.take i).flatMap encFl).length = i * 4 := by rw [flatMap_len encFl_len, List.length_take, Nat.min_eq_left (by omega)]
    have e3 : l.flatMap encFl = (l.take i).flatMap encFl ++ (encFl x ++ (l.drop (i + 1)).flatMap encFl) := by
      conv => lhs; rw [e]
      rw [List.flatMap_append, List.flatMap_cons]
    rw [e3, ← e2, List.drop_left']
    rfl
  unfold readA
  rw [dropO_mk (by rw [hlen]; exact Nat.mul_le_mul_right 4 (by omega)), ← List.map_drop, h1, List.map_append]
  generalize ((l.drop (i + 1)).flatMap encFl).map AV.fv = r
  cases r with
  | nil => rfl
  | cons a r => rfl
theorem setFl {l : List Fl} {i off : Nat} {x : Fl} (h : off = i * 4) (hi : i < l.length) : setC ((l.flatMap encFl).map .fv) off ((encFl x).map .fv) = some (((l.set i x).flatMap encFl).map .fv) := by
  subst h
  induction l generalizing i with
  | nil => simp at hi
  | cons y l ih =>
    cases i with
    | zero => simp [setC, encFl]
    | succ i =>
      have := ih (i := i) (by simpa using hi)
      rw [show (i + 1) * 4 = (i * 4) + 4 from by omega]
      simp only [List.flatMap_cons, List.map_append, List.set_cons_succ]
      show setC (AV.fv (.int .i64 y.table) :: AV.fv (.int .i64 y.prio) :: AV.fv (slOf encMx y.ms) :: AV.fv (slOf encDx y.ds) :: (l.flatMap encFl).map AV.fv) _ _ = _
      simp only [setC, this]
      rfl
def flZ : List AV := [.fv (.int .i64 0), .fv (.int .i64 0), .nil, .nil]
def flN : Fl := ⟨0, 0, [], []⟩
theorem toL_zeros {φ : List (Nat × Whence)} {F : List Nat} {H : Own} : ∀ n : Nat, AV.ToL φ F H ((List.replicate n flZ).flatten) (((List.replicate n flN).flatMap encFl).map .fv)
  | 0 => .nil
  | n + 1 => .cons (.le (.refl _) rfl) (.cons (.le (.refl _) rfl) (.cons (.le AV.Le.nil rfl) (.cons (.le AV.Le.nil rfl) (toL_zeros n))))
theorem set_next {l : List Fl} {k : Nat} {x : Fl} (hx : l[k]? = some x) : (l.take k ++ List.replicate (l.length - k) flN).set k x = l.take (k + 1) ++ List.replicate (l.length - (k + 1)) flN := by
  have hlt := (List.getElem?_eq_some_iff.1 hx).1
  have e2 : (l.take k).length = k := by rw [List.length_take, Nat.min_eq_left (by omega)]
  have e3 := List.set_append_right (s := l.take k) (t := List.replicate (l.length - k) flN) k x (by omega)
  rw [e3, e2, Nat.sub_self, show l.length - k = (l.length - (k + 1)) + 1 by omega, List.replicate_succ, List.set_cons_zero, List.take_add_one, hx]
  simp
end Go.Proofs.YtmidechdlbcepaaGreat
