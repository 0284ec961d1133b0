import Derived.Test.YtmidechdlbcepaaGreatPack23
import Derived.Test.YtmidechdlbcepaaGreatProg
import Derived.KernelRfl
import Derived.Test.YtmidechdlbcepaaGreatPack22
import Derived.Test.YtmidechdlbcepaaGreatPack25
set_option linter.unusedSimpArgs false
set_option linter.unusedVariables false
namespace Go.Proofs.YtmidechdlbcepaaGreat
set_option maxRecDepth 100000
def tbl : Tbl where
  one := [(2, ()), (3, ()), (4, ()), (5, ()), (6, ()), (9, ()), (10, ()), (11, ()), (12, ()), (15, ()), (16, ()), (17, ()), (22, ()), (23, ()), (24, ()), (29, ()), (30, ()), (46, ()), (47, ()), (49, ()), (50, ()), (57, ()), (67, ()), (76, ()), (84, ()), (85, ()), (96, ()), (100, ()), (105, ()), (106, ()), (109, ()), (121, ()), (128, ()), (136, ()), (137, ()), (150, ()), (151, ()), (156, ()), (169, ()), (177, ()), (179, ()), (182, ()), (184, ()), (191, ()), (192, ()), (213, ()), (221, ()), (223, ()), (227, ()), (228, ()), (232, ()), (235, ()), (245, ()), (246, ()), (247, ()), (248, ()), (249, ()), (250, ())]
  agg := [(8, 4), (14, 2), (19, 1), (26, 3), (28, 8), (38, 9), (41, 9), (44, 3), (55, 2), (59, 4), (69, 5), (74, 28), (86, 6), (88, 9), (108, 4), (129, 10), (131, 11), (140, 10), (153, 5), (160, 13), (172, 3), (175, 3), (240, 4), (252, 11)]
  fld := [(8, [(0, 0), (1, 1), (2, 2), (3, 3)]), (14, [(0, 0), (1, 1)]), (19, [(0, 0)]), (26, [(0, 0), (1, 1), (2, 2)]), (28, [(0, 0), (1, 1), (2, 2), (3, 3), (4, 4), (5, 5), (6, 6), (7, 7)]), (38, [(0, 0), (1, 1), (2, 2), (3, 3), (4, 4), (5, 5), (6, 6), (7, 7), (8, 8)]), (41, [(0, 0), (1, 1)]), (44, [(0, 0), (1, 1), (2, 2)]), (55, [(0, 0), (1, 1)]), (59, [(0, 0), (1, 1), (2, 2), (3, 3)]), (69, [(0, 0), (1, 1), (2, 2), (3, 3), (4, 4)]), (74, [(0, 0), (1, 1), (2, 4), (3, 9), (4, 18), (5, 19), (6, 20)]), (88, [(0, 0), (1, 3)]), (108, [(0, 0), (1, 1), (2, 2), (3, 3)]), (131, [(0, 0), (1, 10)]), (140, [(0, 0), (1, 1), (2, 2)]), (153, [(0, 0), (1, 3), (2, 4)]), (160, [(0, 0), (1, 1), (2, 2)]), (172, [(0, 0), (1, 1), (2, 2)]), (175, [(0, 0), (1, 1), (2, 2)]), (240, [(0, 0), (1, 1), (2, 2), (3, 3)]), (252, [(0, 0), (1, 1), (2, 2), (3, 3), (4, 4), (5, 5), (6, 6), (7, 7), (8, 8), (9, 9), (10, 10)])]
  arr := [(86, (6, 1)), (129, (10, 1))]
  sli := [(22, (44, 3, 24)), (23, (69, 5, 40)), (24, (38, 9, 72)), (29, (41, 9, 80)), (49, (74, 28, 232)), (50, (55, 2, 32)), (57, (59, 4, 32)), (85, (108, 4, 64)), (96, (26, 3, 72)), (100, (5, 1, 1)), (105, (172, 3, 24)), (106, (175, 3, 24)), (109, (3, 1, 8)), (121, (49, 1, 24)), (137, (140, 10, 88)), (156, (160, 13, 112))]
  zero := [(2, [.fv (.int .i64 0)]), (3, [.fv (.int .i64 0)]), (4, [.fv (.bool false)]), (5, [.fv (.int .u8 0)]), (6, [.fv (.int .u8 0)]), (8, [.fv (.int .i64 0), .fv (.int .i64 0), .fv (.bool false), .fv (.int .u8 0)]), (9, [.fv (.str ⟨#[]⟩)]), (10, [.fv (.str ⟨#[]⟩)]), (11, [.fv (.str ⟨#[]⟩)]), (12, [.fv (.int .u64 0)]), (14, [.fv (.str ⟨#[]⟩), .fv (.int .u64 0)]), (15, [.any]), (16, [.any]), (17, [.any]), (19, [.any]), (22, [.nil]), (23, [.nil]), (24, [.nil]), (26, [.nil, .nil, .nil]), (28, [.fv (.int .i64 0), .fv (.int .i64 0), .fv (.int .i64 0), .fv (.int .i64 0), .fv (.int .i64 0), .fv (.int .i64 0), .fv (.int .i64 0), .fv (.str ⟨#[]⟩)]), (29, [.nil]), (30, [.fv (.int .i64 0)]), (38, [.fv (.int .i64 0), .fv (.int .i64 0), .fv (.bool false), .fv (.int .i64 0), .fv (.int .i64 0), .fv (.int .i64 0), .fv (.int .i64 0), .fv (.int .i64 0), .fv (.bool false)]), (41, [.fv (.int .i64 0), .fv (.int .i64 0), .fv (.int .i64 0), .fv (.int .i64 0), .fv (.int .i64 0), .fv (.int .i64 0), .fv (.int .i64 0), .fv (.int .i64 0), .fv (.str ⟨#[]⟩)]), (44, [.fv (.int .i64 0), .fv (.int .i64 0), .fv (.int .i64 0)]), (46, [.any]), (47, [.any]), (49, [.nil]), (50, [.nil]), (55, [.fv (.int .i64 0), .nil]), (57, [.nil]), (59, [.fv (.int .i64 0), .fv (.int .i64 0), .fv (.int .i64 0), .fv (.int .i64 0)]), (67, [.any]), (69, [.fv (.int .i64 0), .fv (.int .i64 0), .fv (.int .i64 0), .fv (.int .i64 0), .fv (.int .i64 0)]), (74, [.fv (.int .i64 0), .fv (.int .i64 0), .fv (.int .i64 0), .fv (.int .i64 0), .fv (.int .i64 0), .fv (.int .i64 0), .fv (.int .i64 0), .fv (.int .i64 0), .fv (.int .i64 0), .fv (.int .i64 0), .fv (.int .i64 0), .fv (.bool false), .fv (.int .i64 0), .fv (.int .i64 0), .fv (.int .i64 0), .fv (.int .i64 0), .fv (.int .i64 0), .fv (.bool false), .fv (.int .i64 0), .fv (.int .i64 0), .fv (.int .i64 0), .fv (.int .i64 0), .fv (.int .i64 0), .fv (.int .i64 0), .fv (.int .i64 0), .fv (.int .i64 0), .fv (.int .i64 0), .fv (.str ⟨#[]⟩)]), (76, [.any]), (84, [.any]), (85, [.nil]), (86, [.nil, .nil, .nil, .nil, .nil, .nil]), (88, [.nil, .nil, .nil, .nil, .nil, .nil, .nil, .nil, .nil]), (96, [.nil]), (100, [.nil]), (105, [.nil]), (106, [.nil]), (108, [.fv (.int .i64 0), .fv (.int .i64 0), .nil, .nil]), (109, [.nil]), (121, [.nil]), (128, [.any]), (129, [.fv (.int .i64 0), .fv (.int .i64 0), .fv (.int .i64 0), .fv (.int .i64 0), .fv (.int .i64 0), .fv (.int .i64 0), .fv (.int .i64 0), .fv (.int .i64 0), .fv (.int .i64 0), .fv (.int .i64 0)]), (131, [.fv (.int .i64 0), .fv (.int .i64 0), .fv (.int .i64 0), .fv (.int .i64 0), .fv (.int .i64 0), .fv (.int .i64 0), .fv (.int .i64 0), .fv (.int .i64 0), .fv (.int .i64 0), .fv (.int .i64 0), .fv (.str ⟨#[]⟩)]), (136, [.any]), (137, [.nil]), (140, [.fv (.int .i64 0), .fv (.int .i64 0), .fv (.int .i64 0), .fv (.int .i64 0), .fv (.int .i64 0), .fv (.int .i64 0), .fv (.int .i64 0), .fv (.int .i64 0), .fv (.int .i64 0), .fv (.str ⟨#[]⟩)]), (150, [.any]), (151, [.any]), (153, [.nil, .nil, .nil, .fv (.int .i64 0), .nil]), (156, [.nil]), (160, [.fv (.int .i64 0), .fv (.int .i64 0), .fv (.int .i64 0), .fv (.int .i64 0), .fv (.int .i64 0), .fv (.int .i64 0), .fv (.int .i64 0), .fv (.int .i64 0), .fv (.int .i64 0), .fv (.int .i64 0), .fv (.int .i64 0), .fv (.int .i64 0), .fv (.str ⟨#[]⟩)]), (169, [.fv (.int .u64 0)]), (172, [.fv (.int .i64 0), .fv (.int .i64 0), .fv (.int .i64 0)]), (175, [.fv (.int .i64 0), .fv (.int .i64 0), .fv (.int .i64 0)]), (177, [.any]), (179, [.any]), (182, [.any]), (184, [.any]), (191, [.any]), (192, [.any]), (213, [.fv (.int .i64 0)]), (221, [.fv (.int .u32 0)]), (223, [.fv (.int .u64 0)]), (227, [.any]), (228, [.fv (.int .u64 0)]), (232, [.any]), (235, [.any]), (240, [.any, .any, .any, .fv (.str ⟨#[]⟩)]), (245, [.fv (.int .u8 0)]), (246, [.fv (.int .u8 0)]), (247, [.any]), (248, [.any]), (249, [.fv (.int .i32 0)]), (250, [.fv (.int .i32 0)]), (252, [.fv (.int .u64 0), .fv (.int .u64 0), .fv (.int .u32 0), .fv (.int .u8 0), .fv (.int .u8 0), .fv (.int .u8 0), .fv (.int .u8 0), .any, .any, .fv (.int .i32 0), .fv (.int .i32 0)])]
  str := [(9, ()), (10, ()), (11, ())]
  kind := [(2, .i64), (3, .i64), (5, .u8), (6, .u8), (12, .u64), (30, .i64), (169, .u64), (213, .i64), (221, .u32), (223, .u64), (228, .u64), (245, .u8), (246, .u8), (249, .i32), (250, .i32)]
  plc := [(8, [(0, 1), (1, 1), (2, 1), (3, 1)]), (14, [(0, 1), (1, 1)]), (19, [(0, 1)]), (26, [(0, 1), (1, 1), (2, 1)]), (28, [(0, 1), (1, 1), (2, 1), (3, 1), (4, 1), (5, 1), (6, 1), (7, 1)]), (38, [(0, 1), (1, 1), (2, 1), (3, 1), (4, 1), (5, 1), (6, 1), (7, 1), (8, 1)]), (41, [(0, 1), (1, 8)]), (44, [(0, 1), (1, 1), (2, 1)]), (55, [(0, 1), (1, 1)]), (59, [(0, 1), (1, 1), (2, 1), (3, 1)]), (69, [(0, 1), (1, 1), (2, 1), (3, 1), (4, 1)]), (74, [(0, 1), (1, 3), (4, 5), (9, 9), (18, 1), (19, 1), (20, 8)]), (86, [(0, 1), (1, 1), (2, 1), (3, 1), (4, 1), (5, 1)]), (88, [(0, 3), (3, 6)]), (108, [(0, 1), (1, 1), (2, 1), (3, 1)]), (129, [(0, 1), (1, 1), (2, 1), (3, 1), (4, 1), (5, 1), (6, 1), (7, 1), (8, 1), (9, 1)]), (131, [(0, 10), (10, 1)]), (140, [(0, 1), (1, 1), (2, 8)]), (153, [(0, 3), (3, 1), (4, 1)]), (160, [(0, 1), (1, 1), (2, 11)]), (172, [(0, 1), (1, 1), (2, 1)]), (175, [(0, 1), (1, 1), (2, 1)]), (240, [(0, 1), (1, 1), (2, 1), (3, 1)]), (252, [(0, 1), (1, 1), (2, 1), (3, 1), (4, 1), (5, 1), (6, 1), (7, 1), (8, 1), (9, 1), (10, 1)])]
  eqt := [(28, [.int, .int, .int, .int, .int, .int, .int, .str]), (38, [.int, .int, .bool, .int, .int, .int, .int, .int, .bool]), (41, [.int, .int, .int, .int, .int, .int, .int, .int, .str]), (44, [.int, .int, .int]), (59, [.int, .int, .int, .int]), (69, [.int, .int, .int, .int, .int]), (74, [.int, .int, .int, .int, .int, .int, .int, .int, .int, .int, .int, .bool, .int, .int, .int, .int, .int, .bool, .int, .int, .int, .int, .int, .int, .int, .int, .int, .str]), (131, [.int, .int, .int, .int, .int, .int, .int, .int, .int, .int, .str]), (140, [.int, .int, .int, .int, .int, .int, .int, .int, .int, .str]), (160, [.int, .int, .int, .int, .int, .int, .int, .int, .int, .int, .int, .int, .str]), (172, [.int, .int, .int]), (175, [.int, .int, .int])]
  ael := [(86, 85), (129, 3)]
  byt := [(5, ()), (6, ()), (245, ()), (246, ())]
  boo := [(4, ())]
theorem tbl_one : tbl.one.map (fun p => oneT Tryz.prog p.1) = tbl.one.map (fun p => some p.2) := by kernel_rfl
theorem tbl_agg : tbl.agg.map (fun p => aggT Tryz.prog p.1) = tbl.agg.map (fun p => some p.2) := by kernel_rfl
theorem tbl_fld : tbl.fld.map (fun p => p.2.map fun q => fldT Tryz.prog p.1 q.1) = tbl.fld.map (fun p => p.2.map fun q => some q.2) := by kernel_rfl
theorem tbl_arr : tbl.arr.map (fun p => arrT Tryz.prog p.1) = tbl.arr.map (fun p => some p.2) := by kernel_rfl
theorem tbl_sli : tbl.sli.map (fun p => sliT Tryz.prog p.1) = tbl.sli.map (fun p => some p.2) := by kernel_rfl
theorem tbl_zero : tbl.zero.map (fun p => zeroT Tryz.prog p.1) = tbl.zero.map (fun p => some p.2) := by kernel_rfl
theorem tbl_str : tbl.str.map (fun p => strT Tryz.prog p.1) = tbl.str.map (fun p => some p.2) := by kernel_rfl
theorem tbl_kind : tbl.kind.map (fun p => kindT Tryz.prog p.1) = tbl.kind.map (fun p => some p.2) := by kernel_rfl
theorem tbl_plc : tbl.plc.map (fun p => plcT Tryz.prog p.1) = tbl.plc.map (fun p => some p.2) := by kernel_rfl
theorem tbl_eqt : tbl.eqt.map (fun p => eqcT Tryz.prog p.1) = tbl.eqt.map (fun p => some p.2) := by kernel_rfl
theorem tbl_ael : tbl.ael.map (fun p => aelT Tryz.prog p.1) = tbl.ael.map (fun p => some p.2) := by kernel_rfl
theorem tbl_byt : tbl.byt.map (fun p => bytT Tryz.prog p.1) = tbl.byt.map (fun p => some p.2) := by kernel_rfl
theorem tbl_boo : tbl.boo.map (fun p => booT Tryz.prog p.1) = tbl.boo.map (fun p => some p.2) := by kernel_rfl
theorem tbl_ok : tbl.Ok Tryz.prog := ⟨tbl_one, tbl_agg, tbl_fld, tbl_arr, tbl_sli, tbl_zero, tbl_str, tbl_kind, tbl_plc, tbl_eqt, tbl_ael, tbl_byt, tbl_boo⟩
theorem mixed_no : Tryz.prog.follows .mixedOrders = true := by kernel_rfl
end Go.Proofs.YtmidechdlbcepaaGreat
namespace Go.Proofs.YtmidechdlbcepaaGreat
open Go.RowKit
set_option maxRecDepth 100000
theorem compA_snoc : ∀ (m : List Fl) (q p x : Fl), compA q (m ++ [p, x]) = if ordF x p = 0 then compA q (m ++ [p]) else compA q (m ++ [p]) ++ [x]
  | [], q, p, x => by
    have e : compA p [x] = if ordF x p = 0 then [] else [x] := rfl
    show (if ordF p q = 0 then compA p [x] else p :: compA p [x]) = if ordF x p = 0 then (if ordF p q = 0 then [] else [p]) else (if ordF p q = 0 then [] else [p]) ++ [x]
    rw [e]
    split <;> split <;> rfl
  | y :: m, q, p, x => by
    have ih := compA_snoc m y p x
    show (if ordF y q = 0 then compA y (m ++ [p, x]) else y :: compA y (m ++ [p, x])) = if ordF x p = 0 then (if ordF y q = 0 then compA y (m ++ [p]) else y :: compA y (m ++ [p])) else (if ordF y q = 0 then compA y (m ++ [p]) else y :: compA y (m ++ [p])) ++ [x]
    rw [ih]
    split <;> split <;> rfl
theorem compF_snoc {l : List Fl} {i : Nat} {p x : Fl} (hp : l[i]? = some p) (hx : l[i + 1]? = some x) : compF (l.take (i + 2)) = if ordF x p = 0 then compF (l.take (i + 1)) else compF (l.take (i + 1)) ++ [x] := by
  have e1 : l.take (i + 1) = l.take i ++ [p] := by rw [List.take_add_one, hp]; rfl
  have e2 : l.take (i + 2) = l.take i ++ [p, x] := by rw [List.take_add_one, hx, e1]; simp
  rw [e1, e2]
  cases l.take i with
  | nil =>
    show p :: compA p [x] = _
    have e : compA p [x] = if ordF x p = 0 then [] else [x] := rfl
    rw [e]
    split <;> rfl
  | cons y m =>
    show y :: compA y (m ++ [p, x]) = if ordF x p = 0 then y :: compA y (m ++ [p]) else (y :: compA y (m ++ [p])) ++ [x]
    rw [compA_snoc]
    split <;> rfl
theorem compA_len : ∀ (l : List Fl) (p : Fl), (compA p l).length ≤ l.length
  | [], _ => by simp [compA]
  | x :: l, p => by
    have := compA_len l x
    unfold compA
    split <;> simp <;> omega
theorem compF_len (l : List Fl) : (compF l).length ≤ l.length := by
  cases l with
  | nil => simp [compF]
  | cons x l => have := compA_len l x; simp [compF]; exact this
theorem dropO_mk : ∀ {n : Nat} {cs : List AV}, n ≤ cs.length → dropO n cs = some (cs.drop n)
  | 0, _, _ => rfl
  | n + 1, _ :: cs, h => by
    rw [dropO, dropO_mk (by simpa using h)]
    rfl
  | n + 1, [], h => by simp at h
theorem readFl {l : List Fl} {i off : Nat} {x : Fl} (h : off = i * 4) (hx : l[i]? = some x) : readA tbl 108 off ((l.flatMap encFl).map .fv) = some (.agg ((encFl x).map .fv)) := by
  subst h
  have hlt := (List.getElem?_eq_some_iff.1 hx).1
  have hlen : ((l.flatMap encFl).map AV.fv).length = l.length * 4 := by rw [List.length_map, flatMap_len encFl_len]
  have h1 : (l.flatMap encFl).drop (i * 4) = encFl x ++ (l.drop (i + 1)).flatMap encFl := by
    have e : l = l.take i ++ x :: l.drop (i + 1) := by
      rw [← (List.getElem?_eq_some_iff.1 hx).2, ← List.drop_eq_getElem_cons hlt, List.take_append_drop]
    have e2 : ((l.take i).flatMap encFl).length = i * 4 := by rw [flatMap_len encFl_len, List.length_take, Nat.min_eq_left (by omega)]
    have e3 : l.flatMap encFl = (l.take i).flatMap encFl ++ (encFl x ++ (l.drop (i + 1)).flatMap encFl) := by
      conv => lhs; rw [e]
      rw [List.flatMap_append, List.flatMap_cons]
    rw [e3, ← e2, List.drop_left']
    rfl
  unfold readA
  rw [dropO_mk (by rw [hlen]; exact Nat.mul_le_mul_right 4 (by omega)), ← List.map_drop, h1, List.map_append]
  generalize ((l.drop (i + 1)).flatMap encFl).map AV.fv = r
  cases r with
  | nil => rfl
  | cons a r => rfl
theorem setFl {l : List Fl} {i off : Nat} {x : Fl} (h : off = i * 4) (hi : i < l.length) : setC ((l.flatMap encFl).map .fv) off ((encFl x).map .fv) = some (((l.set i x).flatMap encFl).map .fv) := by
  subst h
  induction l generalizing i with
  | nil => simp at hi
  | cons y l ih =>
    cases i with
    | zero => simp [setC, encFl]
    | succ i =>
      have := ih (i := i) (by simpa using hi)
      rw [show (i + 1) * 4 = (i * 4) + 4 from by omega]
      simp only [List.flatMap_cons, List.map_append, List.set_cons_succ]
      show setC (AV.fv (.int .i64 y.table) :: AV.fv (.int .i64 y.prio) :: AV.fv (slOf encMx y.ms) :: AV.fv (slOf encDx y.ds) :: (l.flatMap encFl).map AV.fv) _ _ = _
      simp only [setC, this]
      rfl
def flZ : List AV := [.fv (.int .i64 0), .fv (.int .i64 0), .nil, .nil]
def flN : Fl := ⟨0, 0, [], []⟩
theorem toL_zeros {φ : List (Nat × Whence)} {F : List Nat} {H : Own} : ∀ n : Nat, AV.ToL φ F H ((List.replicate n flZ).flatten) (((List.replicate n flN).flatMap encFl).map .fv)
  | 0 => .nil
  | n + 1 => .cons (.le (.refl _) rfl) (.cons (.le (.refl _) rfl) (.cons (.le AV.Le.nil rfl) (.cons (.le AV.Le.nil rfl) (toL_zeros n))))
theorem set_next {l : List Fl} {k : Nat} {x : Fl} (hx : l[k]? = some x) : (l.take k ++ List.replicate (l.length - k) flN).set k x = l.take (k + 1) ++ List.replicate (l.length - (k + 1)) flN := by
  have hlt := (List.getElem?_eq_some_iff.1 hx).1
  have e2 : (l.take k).length = k := by rw [List.length_take, Nat.min_eq_left (by omega)]
  have e3 := List.set_append_right (s := l.take k) (t := List.replicate (l.length - k) flN) k x (by omega)
  rw [e3, e2, Nat.sub_self, show l.length - k = (l.length - (k + 1)) + 1 by omega, List.replicate_succ, List.set_cons_zero, List.take_add_one, hx]
  simp
end Go.Proofs.YtmidechdlbcepaaGreat