/- The walk of the law AstKinds. -/
import Derived.Test.YtkngdmilgfgclaaAwake2
import Derived.Test.YtkngdmilgfgclaaRKinds
namespace Go.Proofs.Ytkngdmilgfgclaa
open Go.RowKit Go.Shelf

def kSlot (i : Nat) : Nat := if i = 26 then 2 else 7 + i
def kindsSpec (k n : Int) (s : ByteArray) (c : List Tr) (A : Option Addr) (cap : Nat) : List RSpec := [.is (.agg #[.int .u8 k, .int .i64 n, .string s, .slice A c.length cap]), .is (.bool (exprB (Tr.mk k n s c))), .is (.agg #[.int .u8 k, .int .i64 n, .string s, .slice A c.length cap]), .is (.bool (exprB (Tr.mk k n s c))), .is (.bool true), .is (.bool true), .is (.agg #[.int .u8 k, .int .i64 n, .string s, .slice A c.length cap]), .is (.bool (placeB (Tr.mk k n s c))), .is (.agg #[.int .u8 k, .int .i64 n, .string s, .slice A c.length cap]), .is (.bool (placeB (Tr.mk k n s c))), .is (.bool true), .is (.bool true), .is (.bool true), .is (.agg #[.int .u8 k, .int .i64 n, .string s, .slice A c.length cap]), .is (.bool (stmtB (Tr.mk k n s c))), .is (.agg #[.int .u8 k, .int .i64 n, .string s, .slice A c.length cap]), .is (.bool (stmtB (Tr.mk k n s c))), .is (.bool true), .is (.bool true), .is (.bool true), .is (.agg #[.int .u8 k, .int .i64 n, .string s, .slice A c.length cap]), .is (.bool (blockB (Tr.mk k n s c))), .is (.agg #[.int .u8 k, .int .i64 n, .string s, .slice A c.length cap]), .is (.bool (blockB (Tr.mk k n s c))), .is (.bool true), .is (.bool true), .is (.bool true)]

set_option maxRecDepth 100000 in
set_option maxHeartbeats 1000000 in
theorem astKinds_any (t : Tr) : Tests 3 (fun _ => true) t := by
  cases t with
  | mk k n s c =>
  intro v w hr
  have hr' := hr
  simp only [Rep] at hr'
  obtain ⟨A, cap, rfl, hf, _⟩ := hr'
  have HR := Lib.hid hr
  have HF := Lib.hid hf
  clear hr hf
  unfold nodeV at *
  have hmo : Try.prog.follows .mixedOrders = true := by kernel_rfl
  go_enter Try.func3, Try.ntmps3
  go_wp2_with fail
  refine (awake_any _).mono ?_
  rintro e w1 ⟨rfl, hb1⟩
  obtain ⟨x0, x1, x2, x3⟩ := box_at hb1
  have HREP1 := Lib.hid ((HR.out.alloc (Nat.le_refl _) (.cells #[.int .u8 k, .int .i64 n, .string s, .slice A c.length cap] 24)).at_ (Nat.le_refl _) hb1)
  have HB1 := Lib.hid hb1
  clear hb1
  go_wp2_with fail
  refine (big_any (Tr.mk k n s c) _ _ HREP1.out).mono ?_
  rintro e W ⟨rfl, hb2⟩
  have hb := HB1.out.trans (hb2.mono HB1.out.size)
  obtain ⟨x0, x1, x2, x3⟩ := box_at hb
  have HREP := Lib.hid (HREP1.out.at_ (Nat.le_refl _) hb2)
  have HB := Lib.hid hb
  have HLT : Hid (w.heap.size < W.heap.size) := Lib.hid (by have := hb.size; simp at this; omega)
  clear hb hb2
  cases hbig : bigB (Tr.mk k n s c)
  · go_wp2_with fail
    refine wpIn_wide (n := 0) |>.1 (region_all (N := 27) (s := kSlot) hmo rfl (by kernel_rfl) (fun V => Below W.heap.size W V) (Specs (kindsSpec k n s c A cap)) (by intro j hj; unfold kSlot; simp; split <;> omega) (by intro i j _ _ e; unfold kSlot at e; split at e <;> split at e <;> omega) (Below.refl _ W).drew ?steps ?fin)
    case steps =>
      show AllFrom _ 0 (_ :: _)
      refine AllFrom.cons (fun listed a2 V h hi hd => ?_) ?_
      · have f1 : a2.tmps[1]? = some (.pointer (some ⟨w.heap.size, 0, none⟩)) := h.fixed 1 (by intro j hj; unfold kSlot; split <;> omega)
        have y0 := (h.cw.cell (p := ⟨w.heap.size, 0, none⟩) HLT.out).trans x0
        have y1 := (h.cw.cell (p := ⟨w.heap.size, 1, none⟩) HLT.out).trans x1
        have y2 := (h.cw.cell (p := ⟨w.heap.size, 2, none⟩) HLT.out).trans x2
        have y3 := (h.cw.cell (p := ⟨w.heap.size, 3, none⟩) HLT.out).trans x3
        exact RInv.pure (v := .agg #[.int .u8 k, .int .i64 n, .string s, .slice A c.length cap]) h hi rfl (wanted_none rfl) (fun _ => trivial) (by intro c; simp) (by simp [execOp, f1, y0, y1, y2, y3, asAddr, go_sem]) rfl
      refine AllFrom.cons (fun listed a2 V h hi hd => ?_) ?_
      · obtain ⟨u0, h0, e0⟩ := hd ⟨0, .data⟩ (by simp) rfl
        replace e0 : u0 = .agg #[.int .u8 k, .int .i64 n, .string s, .slice A c.length cap] := e0
        subst e0
        replace h0 : a2.tmps[7]? = some _ := h0
        refine RInv.enter (f := 15) (args := #[.agg #[.int .u8 k, .int .i64 n, .string s, .slice A c.length cap]]) h hi rfl (wanted_none rfl) (fun _ => trivial) (by intro c; simp) rfl (by simp [execOp, h0, go_sem]) ?_
        refine (callsIn_wide.2 (isExpr_any (Tr.mk k n s c) _ _ (HREP.out.at_ (Nat.le_refl _) h.cw))).mono ?_
        rintro e V2 ⟨rfl, hq1⟩
        exact ⟨_, rfl, h.cw.trans (hq1.mono h.cw.size), Specs.mono hq1, rfl⟩
      refine AllFrom.cons (fun listed a2 V h hi hd => ?_) ?_
      · have f1 : a2.tmps[1]? = some (.pointer (some ⟨w.heap.size, 0, none⟩)) := h.fixed 1 (by intro j hj; unfold kSlot; split <;> omega)
        have y0 := (h.cw.cell (p := ⟨w.heap.size, 0, none⟩) HLT.out).trans x0
        have y1 := (h.cw.cell (p := ⟨w.heap.size, 1, none⟩) HLT.out).trans x1
        have y2 := (h.cw.cell (p := ⟨w.heap.size, 2, none⟩) HLT.out).trans x2
        have y3 := (h.cw.cell (p := ⟨w.heap.size, 3, none⟩) HLT.out).trans x3
        exact RInv.pure (v := .agg #[.int .u8 k, .int .i64 n, .string s, .slice A c.length cap]) h hi rfl (wanted_none rfl) (fun _ => trivial) (by intro c; simp) (by simp [execOp, f1, y0, y1, y2, y3, asAddr, go_sem]) rfl
      refine AllFrom.cons (fun listed a2 V h hi hd => ?_) ?_
      · obtain ⟨u2, h2, e2⟩ := hd ⟨2, .data⟩ (by simp) rfl
        replace e2 : u2 = .agg #[.int .u8 k, .int .i64 n, .string s, .slice A c.length cap] := e2
        subst e2
        replace h2 : a2.tmps[9]? = some _ := h2
        obtain ⟨u1, h1, e1⟩ := hd ⟨1, .chain⟩ (by simp) rfl
        replace e1 : u1 = .bool (exprB (Tr.mk k n s c)) := e1
        subst e1
        replace h1 : a2.tmps[8]? = some _ := h1
        refine RInv.enter (f := 16) (args := #[.agg #[.int .u8 k, .int .i64 n, .string s, .slice A c.length cap]]) h hi rfl (wanted_none rfl) (fun _ => trivial) (by intro c; simp) rfl (by simp [execOp, h2, go_sem]) ?_
        refine (callsIn_wide.2 (rExpr_any (Tr.mk k n s c) _ _ (HREP.out.at_ (Nat.le_refl _) h.cw))).mono ?_
        rintro e V2 ⟨rfl, hq1⟩
        exact ⟨_, rfl, h.cw.trans (hq1.mono h.cw.size), Specs.mono hq1, rfl⟩
      refine AllFrom.cons (fun listed a2 V h hi hd => ?_) ?_
      · obtain ⟨u1, h1, e1⟩ := hd ⟨1, .data⟩ (by simp) rfl
        replace e1 : u1 = .bool (exprB (Tr.mk k n s c)) := e1
        subst e1
        replace h1 : a2.tmps[8]? = some _ := h1
        obtain ⟨u3, h3, e3⟩ := hd ⟨3, .data⟩ (by simp) rfl
        replace e3 : u3 = .bool (exprB (Tr.mk k n s c)) := e3
        subst e3
        replace h3 : a2.tmps[10]? = some _ := h3
        exact RInv.pure (v := .bool true) h hi rfl (wanted_none rfl) (fun _ => trivial) (by intro c; simp) (by simp [execOp, h1, h3, go_sem]) rfl
      refine AllFrom.cons (fun listed a2 V h hi hd => ?_) ?_
      · obtain ⟨u4, h4, e4⟩ := hd ⟨4, .data⟩ (by simp) rfl
        replace e4 : u4 = .bool true := e4
        subst e4
        replace h4 : a2.tmps[11]? = some _ := h4
        obtain ⟨u3, h3, e3⟩ := hd ⟨3, .chain⟩ (by simp) rfl
        replace e3 : u3 = .bool (exprB (Tr.mk k n s c)) := e3
        subst e3
        replace h3 : a2.tmps[10]? = some _ := h3
        exact RInv.pure (v := .bool true) h hi rfl (wanted_none rfl) (fun _ => trivial) (by intro c; simp) (by simp [execOp, h4, go_sem]) rfl
      refine AllFrom.cons (fun listed a2 V h hi hd => ?_) ?_
      · obtain ⟨u5, h5, e5⟩ := hd ⟨5, .guard⟩ (by simp) rfl
        replace e5 : u5 = .bool true := e5
        subst e5
        replace h5 : a2.tmps[12]? = some _ := h5
        have f1 : a2.tmps[1]? = some (.pointer (some ⟨w.heap.size, 0, none⟩)) := h.fixed 1 (by intro j hj; unfold kSlot; split <;> omega)
        have y0 := (h.cw.cell (p := ⟨w.heap.size, 0, none⟩) HLT.out).trans x0
        have y1 := (h.cw.cell (p := ⟨w.heap.size, 1, none⟩) HLT.out).trans x1
        have y2 := (h.cw.cell (p := ⟨w.heap.size, 2, none⟩) HLT.out).trans x2
        have y3 := (h.cw.cell (p := ⟨w.heap.size, 3, none⟩) HLT.out).trans x3
        exact RInv.pure (v := .agg #[.int .u8 k, .int .i64 n, .string s, .slice A c.length cap]) h hi rfl (wanted_at rfl rfl h5 rfl) (fun _ => trivial) (by intro c; simp) (by simp [execOp, f1, y0, y1, y2, y3, asAddr, go_sem]) rfl
      refine AllFrom.cons (fun listed a2 V h hi hd => ?_) ?_
      · obtain ⟨u6, h6, e6⟩ := hd ⟨6, .data⟩ (by simp) rfl
        replace e6 : u6 = .agg #[.int .u8 k, .int .i64 n, .string s, .slice A c.length cap] := e6
        subst e6
        replace h6 : a2.tmps[13]? = some _ := h6
        obtain ⟨u5, h5, e5⟩ := hd ⟨5, .chain⟩ (by simp) rfl
        replace e5 : u5 = .bool true := e5
        subst e5
        replace h5 : a2.tmps[12]? = some _ := h5
        refine RInv.enter (f := 17) (args := #[.agg #[.int .u8 k, .int .i64 n, .string s, .slice A c.length cap]]) h hi rfl (wanted_at rfl rfl h5 rfl) (fun _ => trivial) (by intro c; simp) rfl (by simp [execOp, h6, go_sem]) ?_
        refine (callsIn_wide.2 (isPlace_any (Tr.mk k n s c) _ _ (HREP.out.at_ (Nat.le_refl _) h.cw))).mono ?_
        rintro e V2 ⟨rfl, hq1⟩
        exact ⟨_, rfl, h.cw.trans (hq1.mono h.cw.size), Specs.mono hq1, rfl⟩
      refine AllFrom.cons (fun listed a2 V h hi hd => ?_) ?_
      · obtain ⟨u5, h5, e5⟩ := hd ⟨5, .guard⟩ (by simp) rfl
        replace e5 : u5 = .bool true := e5
        subst e5
        replace h5 : a2.tmps[12]? = some _ := h5
        have f1 : a2.tmps[1]? = some (.pointer (some ⟨w.heap.size, 0, none⟩)) := h.fixed 1 (by intro j hj; unfold kSlot; split <;> omega)
        have y0 := (h.cw.cell (p := ⟨w.heap.size, 0, none⟩) HLT.out).trans x0
        have y1 := (h.cw.cell (p := ⟨w.heap.size, 1, none⟩) HLT.out).trans x1
        have y2 := (h.cw.cell (p := ⟨w.heap.size, 2, none⟩) HLT.out).trans x2
        have y3 := (h.cw.cell (p := ⟨w.heap.size, 3, none⟩) HLT.out).trans x3
        exact RInv.pure (v := .agg #[.int .u8 k, .int .i64 n, .string s, .slice A c.length cap]) h hi rfl (wanted_at rfl rfl h5 rfl) (fun _ => trivial) (by intro c; simp) (by simp [execOp, f1, y0, y1, y2, y3, asAddr, go_sem]) rfl
      refine AllFrom.cons (fun listed a2 V h hi hd => ?_) ?_
      · obtain ⟨u8, h8, e8⟩ := hd ⟨8, .data⟩ (by simp) rfl
        replace e8 : u8 = .agg #[.int .u8 k, .int .i64 n, .string s, .slice A c.length cap] := e8
        subst e8
        replace h8 : a2.tmps[15]? = some _ := h8
        obtain ⟨u7, h7, e7⟩ := hd ⟨7, .chain⟩ (by simp) rfl
        replace e7 : u7 = .bool (placeB (Tr.mk k n s c)) := e7
        subst e7
        replace h7 : a2.tmps[14]? = some _ := h7
        obtain ⟨u5, h5, e5⟩ := hd ⟨5, .guard⟩ (by simp) rfl
        replace e5 : u5 = .bool true := e5
        subst e5
        replace h5 : a2.tmps[12]? = some _ := h5
        refine RInv.enter (f := 18) (args := #[.agg #[.int .u8 k, .int .i64 n, .string s, .slice A c.length cap]]) h hi rfl (wanted_at rfl rfl h5 rfl) (fun _ => trivial) (by intro c; simp) rfl (by simp [execOp, h8, go_sem]) ?_
        refine (callsIn_wide.2 (rPlace_any (Tr.mk k n s c) _ _ (HREP.out.at_ (Nat.le_refl _) h.cw))).mono ?_
        rintro e V2 ⟨rfl, hq1⟩
        exact ⟨_, rfl, h.cw.trans (hq1.mono h.cw.size), Specs.mono hq1, rfl⟩
      refine AllFrom.cons (fun listed a2 V h hi hd => ?_) ?_
      · obtain ⟨u7, h7, e7⟩ := hd ⟨7, .data⟩ (by simp) rfl
        replace e7 : u7 = .bool (placeB (Tr.mk k n s c)) := e7
        subst e7
        replace h7 : a2.tmps[14]? = some _ := h7
        obtain ⟨u9, h9, e9⟩ := hd ⟨9, .data⟩ (by simp) rfl
        replace e9 : u9 = .bool (placeB (Tr.mk k n s c)) := e9
        subst e9
        replace h9 : a2.tmps[16]? = some _ := h9
        obtain ⟨u5, h5, e5⟩ := hd ⟨5, .guard⟩ (by simp) rfl
        replace e5 : u5 = .bool true := e5
        subst e5
        replace h5 : a2.tmps[12]? = some _ := h5
        exact RInv.pure (v := .bool true) h hi rfl (wanted_at rfl rfl h5 rfl) (fun _ => trivial) (by intro c; simp) (by simp [execOp, h7, h9, go_sem]) rfl
      refine AllFrom.cons (fun listed a2 V h hi hd => ?_) ?_
      · obtain ⟨u5, h5, e5⟩ := hd ⟨5, .data⟩ (by simp) rfl
        replace e5 : u5 = .bool true := e5
        subst e5
        replace h5 : a2.tmps[12]? = some _ := h5
        obtain ⟨u10, h10, e10⟩ := hd ⟨10, .data⟩ (by simp) rfl
        replace e10 : u10 = .bool true := e10
        subst e10
        replace h10 : a2.tmps[17]? = some _ := h10
        exact RInv.pure (v := .bool true) h hi rfl (wanted_none rfl) (fun _ => trivial) (by intro c; simp) (by simp [execOp, h5, h10, go_sem]) rfl
      refine AllFrom.cons (fun listed a2 V h hi hd => ?_) ?_
      · obtain ⟨u11, h11, e11⟩ := hd ⟨11, .data⟩ (by simp) rfl
        replace e11 : u11 = .bool true := e11
        subst e11
        replace h11 : a2.tmps[18]? = some _ := h11
        obtain ⟨u9, h9, e9⟩ := hd ⟨9, .chain⟩ (by simp) rfl
        replace e9 : u9 = .bool (placeB (Tr.mk k n s c)) := e9
        subst e9
        replace h9 : a2.tmps[16]? = some _ := h9
        exact RInv.pure (v := .bool true) h hi rfl (wanted_none rfl) (fun _ => trivial) (by intro c; simp) (by simp [execOp, h11, go_sem]) rfl
      refine AllFrom.cons (fun listed a2 V h hi hd => ?_) ?_
      · obtain ⟨u12, h12, e12⟩ := hd ⟨12, .guard⟩ (by simp) rfl
        replace e12 : u12 = .bool true := e12
        subst e12
        replace h12 : a2.tmps[19]? = some _ := h12
        have f1 : a2.tmps[1]? = some (.pointer (some ⟨w.heap.size, 0, none⟩)) := h.fixed 1 (by intro j hj; unfold kSlot; split <;> omega)
        have y0 := (h.cw.cell (p := ⟨w.heap.size, 0, none⟩) HLT.out).trans x0
        have y1 := (h.cw.cell (p := ⟨w.heap.size, 1, none⟩) HLT.out).trans x1
        have y2 := (h.cw.cell (p := ⟨w.heap.size, 2, none⟩) HLT.out).trans x2
        have y3 := (h.cw.cell (p := ⟨w.heap.size, 3, none⟩) HLT.out).trans x3
        exact RInv.pure (v := .agg #[.int .u8 k, .int .i64 n, .string s, .slice A c.length cap]) h hi rfl (wanted_at rfl rfl h12 rfl) (fun _ => trivial) (by intro c; simp) (by simp [execOp, f1, y0, y1, y2, y3, asAddr, go_sem]) rfl
      refine AllFrom.cons (fun listed a2 V h hi hd => ?_) ?_
      · obtain ⟨u13, h13, e13⟩ := hd ⟨13, .data⟩ (by simp) rfl
        replace e13 : u13 = .agg #[.int .u8 k, .int .i64 n, .string s, .slice A c.length cap] := e13
        subst e13
        replace h13 : a2.tmps[20]? = some _ := h13
        obtain ⟨u12, h12, e12⟩ := hd ⟨12, .chain⟩ (by simp) rfl
        replace e12 : u12 = .bool true := e12
        subst e12
        replace h12 : a2.tmps[19]? = some _ := h12
        refine RInv.enter (f := 19) (args := #[.agg #[.int .u8 k, .int .i64 n, .string s, .slice A c.length cap]]) h hi rfl (wanted_at rfl rfl h12 rfl) (fun _ => trivial) (by intro c; simp) rfl (by simp [execOp, h13, go_sem]) ?_
        refine (callsIn_wide.2 (isStmt_any (Tr.mk k n s c) _ _ (HREP.out.at_ (Nat.le_refl _) h.cw))).mono ?_
        rintro e V2 ⟨rfl, hq1⟩
        exact ⟨_, rfl, h.cw.trans (hq1.mono h.cw.size), Specs.mono hq1, rfl⟩
      refine AllFrom.cons (fun listed a2 V h hi hd => ?_) ?_
      · obtain ⟨u12, h12, e12⟩ := hd ⟨12, .guard⟩ (by simp) rfl
        replace e12 : u12 = .bool true := e12
        subst e12
        replace h12 : a2.tmps[19]? = some _ := h12
        have f1 : a2.tmps[1]? = some (.pointer (some ⟨w.heap.size, 0, none⟩)) := h.fixed 1 (by intro j hj; unfold kSlot; split <;> omega)
        have y0 := (h.cw.cell (p := ⟨w.heap.size, 0, none⟩) HLT.out).trans x0
        have y1 := (h.cw.cell (p := ⟨w.heap.size, 1, none⟩) HLT.out).trans x1
        have y2 := (h.cw.cell (p := ⟨w.heap.size, 2, none⟩) HLT.out).trans x2
        have y3 := (h.cw.cell (p := ⟨w.heap.size, 3, none⟩) HLT.out).trans x3
        exact RInv.pure (v := .agg #[.int .u8 k, .int .i64 n, .string s, .slice A c.length cap]) h hi rfl (wanted_at rfl rfl h12 rfl) (fun _ => trivial) (by intro c; simp) (by simp [execOp, f1, y0, y1, y2, y3, asAddr, go_sem]) rfl
      refine AllFrom.cons (fun listed a2 V h hi hd => ?_) ?_
      · obtain ⟨u15, h15, e15⟩ := hd ⟨15, .data⟩ (by simp) rfl
        replace e15 : u15 = .agg #[.int .u8 k, .int .i64 n, .string s, .slice A c.length cap] := e15
        subst e15
        replace h15 : a2.tmps[22]? = some _ := h15
        obtain ⟨u14, h14, e14⟩ := hd ⟨14, .chain⟩ (by simp) rfl
        replace e14 : u14 = .bool (stmtB (Tr.mk k n s c)) := e14
        subst e14
        replace h14 : a2.tmps[21]? = some _ := h14
        obtain ⟨u12, h12, e12⟩ := hd ⟨12, .guard⟩ (by simp) rfl
        replace e12 : u12 = .bool true := e12
        subst e12
        replace h12 : a2.tmps[19]? = some _ := h12
        refine RInv.enter (f := 20) (args := #[.agg #[.int .u8 k, .int .i64 n, .string s, .slice A c.length cap]]) h hi rfl (wanted_at rfl rfl h12 rfl) (fun _ => trivial) (by intro c; simp) rfl (by simp [execOp, h15, go_sem]) ?_
        refine (callsIn_wide.2 (rStmt_any (Tr.mk k n s c) _ _ (HREP.out.at_ (Nat.le_refl _) h.cw))).mono ?_
        rintro e V2 ⟨rfl, hq1⟩
        exact ⟨_, rfl, h.cw.trans (hq1.mono h.cw.size), Specs.mono hq1, rfl⟩
      refine AllFrom.cons (fun listed a2 V h hi hd => ?_) ?_
      · obtain ⟨u14, h14, e14⟩ := hd ⟨14, .data⟩ (by simp) rfl
        replace e14 : u14 = .bool (stmtB (Tr.mk k n s c)) := e14
        subst e14
        replace h14 : a2.tmps[21]? = some _ := h14
        obtain ⟨u16, h16, e16⟩ := hd ⟨16, .data⟩ (by simp) rfl
        replace e16 : u16 = .bool (stmtB (Tr.mk k n s c)) := e16
        subst e16
        replace h16 : a2.tmps[23]? = some _ := h16
        obtain ⟨u12, h12, e12⟩ := hd ⟨12, .guard⟩ (by simp) rfl
        replace e12 : u12 = .bool true := e12
        subst e12
        replace h12 : a2.tmps[19]? = some _ := h12
        exact RInv.pure (v := .bool true) h hi rfl (wanted_at rfl rfl h12 rfl) (fun _ => trivial) (by intro c; simp) (by simp [execOp, h14, h16, go_sem]) rfl
      refine AllFrom.cons (fun listed a2 V h hi hd => ?_) ?_
      · obtain ⟨u12, h12, e12⟩ := hd ⟨12, .data⟩ (by simp) rfl
        replace e12 : u12 = .bool true := e12
        subst e12
        replace h12 : a2.tmps[19]? = some _ := h12
        obtain ⟨u17, h17, e17⟩ := hd ⟨17, .data⟩ (by simp) rfl
        replace e17 : u17 = .bool true := e17
        subst e17
        replace h17 : a2.tmps[24]? = some _ := h17
        exact RInv.pure (v := .bool true) h hi rfl (wanted_none rfl) (fun _ => trivial) (by intro c; simp) (by simp [execOp, h12, h17, go_sem]) rfl
      refine AllFrom.cons (fun listed a2 V h hi hd => ?_) ?_
      · obtain ⟨u18, h18, e18⟩ := hd ⟨18, .data⟩ (by simp) rfl
        replace e18 : u18 = .bool true := e18
        subst e18
        replace h18 : a2.tmps[25]? = some _ := h18
        obtain ⟨u16, h16, e16⟩ := hd ⟨16, .chain⟩ (by simp) rfl
        replace e16 : u16 = .bool (stmtB (Tr.mk k n s c)) := e16
        subst e16
        replace h16 : a2.tmps[23]? = some _ := h16
        exact RInv.pure (v := .bool true) h hi rfl (wanted_none rfl) (fun _ => trivial) (by intro c; simp) (by simp [execOp, h18, go_sem]) rfl
      refine AllFrom.cons (fun listed a2 V h hi hd => ?_) ?_
      · obtain ⟨u19, h19, e19⟩ := hd ⟨19, .guard⟩ (by simp) rfl
        replace e19 : u19 = .bool true := e19
        subst e19
        replace h19 : a2.tmps[26]? = some _ := h19
        have f1 : a2.tmps[1]? = some (.pointer (some ⟨w.heap.size, 0, none⟩)) := h.fixed 1 (by intro j hj; unfold kSlot; split <;> omega)
        have y0 := (h.cw.cell (p := ⟨w.heap.size, 0, none⟩) HLT.out).trans x0
        have y1 := (h.cw.cell (p := ⟨w.heap.size, 1, none⟩) HLT.out).trans x1
        have y2 := (h.cw.cell (p := ⟨w.heap.size, 2, none⟩) HLT.out).trans x2
        have y3 := (h.cw.cell (p := ⟨w.heap.size, 3, none⟩) HLT.out).trans x3
        exact RInv.pure (v := .agg #[.int .u8 k, .int .i64 n, .string s, .slice A c.length cap]) h hi rfl (wanted_at rfl rfl h19 rfl) (fun _ => trivial) (by intro c; simp) (by simp [execOp, f1, y0, y1, y2, y3, asAddr, go_sem]) rfl
      refine AllFrom.cons (fun listed a2 V h hi hd => ?_) ?_
      · obtain ⟨u20, h20, e20⟩ := hd ⟨20, .data⟩ (by simp) rfl
        replace e20 : u20 = .agg #[.int .u8 k, .int .i64 n, .string s, .slice A c.length cap] := e20
        subst e20
        replace h20 : a2.tmps[27]? = some _ := h20
        obtain ⟨u19, h19, e19⟩ := hd ⟨19, .chain⟩ (by simp) rfl
        replace e19 : u19 = .bool true := e19
        subst e19
        replace h19 : a2.tmps[26]? = some _ := h19
        refine RInv.enter (f := 21) (args := #[.agg #[.int .u8 k, .int .i64 n, .string s, .slice A c.length cap]]) h hi rfl (wanted_at rfl rfl h19 rfl) (fun _ => trivial) (by intro c; simp) rfl (by simp [execOp, h20, go_sem]) ?_
        refine (callsIn_wide.2 (isBlock_any (Tr.mk k n s c) _ _ (HREP.out.at_ (Nat.le_refl _) h.cw))).mono ?_
        rintro e V2 ⟨rfl, hq1⟩
        exact ⟨_, rfl, h.cw.trans (hq1.mono h.cw.size), Specs.mono hq1, rfl⟩
      refine AllFrom.cons (fun listed a2 V h hi hd => ?_) ?_
      · obtain ⟨u19, h19, e19⟩ := hd ⟨19, .guard⟩ (by simp) rfl
        replace e19 : u19 = .bool true := e19
        subst e19
        replace h19 : a2.tmps[26]? = some _ := h19
        have f1 : a2.tmps[1]? = some (.pointer (some ⟨w.heap.size, 0, none⟩)) := h.fixed 1 (by intro j hj; unfold kSlot; split <;> omega)
        have y0 := (h.cw.cell (p := ⟨w.heap.size, 0, none⟩) HLT.out).trans x0
        have y1 := (h.cw.cell (p := ⟨w.heap.size, 1, none⟩) HLT.out).trans x1
        have y2 := (h.cw.cell (p := ⟨w.heap.size, 2, none⟩) HLT.out).trans x2
        have y3 := (h.cw.cell (p := ⟨w.heap.size, 3, none⟩) HLT.out).trans x3
        exact RInv.pure (v := .agg #[.int .u8 k, .int .i64 n, .string s, .slice A c.length cap]) h hi rfl (wanted_at rfl rfl h19 rfl) (fun _ => trivial) (by intro c; simp) (by simp [execOp, f1, y0, y1, y2, y3, asAddr, go_sem]) rfl
      refine AllFrom.cons (fun listed a2 V h hi hd => ?_) ?_
      · obtain ⟨u22, h22, e22⟩ := hd ⟨22, .data⟩ (by simp) rfl
        replace e22 : u22 = .agg #[.int .u8 k, .int .i64 n, .string s, .slice A c.length cap] := e22
        subst e22
        replace h22 : a2.tmps[29]? = some _ := h22
        obtain ⟨u21, h21, e21⟩ := hd ⟨21, .chain⟩ (by simp) rfl
        replace e21 : u21 = .bool (blockB (Tr.mk k n s c)) := e21
        subst e21
        replace h21 : a2.tmps[28]? = some _ := h21
        obtain ⟨u19, h19, e19⟩ := hd ⟨19, .guard⟩ (by simp) rfl
        replace e19 : u19 = .bool true := e19
        subst e19
        replace h19 : a2.tmps[26]? = some _ := h19
        refine RInv.enter (f := 22) (args := #[.agg #[.int .u8 k, .int .i64 n, .string s, .slice A c.length cap]]) h hi rfl (wanted_at rfl rfl h19 rfl) (fun _ => trivial) (by intro c; simp) rfl (by simp [execOp, h22, go_sem]) ?_
        refine (callsIn_wide.2 (rBlock_any (Tr.mk k n s c) _ _ (HREP.out.at_ (Nat.le_refl _) h.cw))).mono ?_
        rintro e V2 ⟨rfl, hq1⟩
        exact ⟨_, rfl, h.cw.trans (hq1.mono h.cw.size), Specs.mono hq1, rfl⟩
      refine AllFrom.cons (fun listed a2 V h hi hd => ?_) ?_
      · obtain ⟨u21, h21, e21⟩ := hd ⟨21, .data⟩ (by simp) rfl
        replace e21 : u21 = .bool (blockB (Tr.mk k n s c)) := e21
        subst e21
        replace h21 : a2.tmps[28]? = some _ := h21
        obtain ⟨u23, h23, e23⟩ := hd ⟨23, .data⟩ (by simp) rfl
        replace e23 : u23 = .bool (blockB (Tr.mk k n s c)) := e23
        subst e23
        replace h23 : a2.tmps[30]? = some _ := h23
        obtain ⟨u19, h19, e19⟩ := hd ⟨19, .guard⟩ (by simp) rfl
        replace e19 : u19 = .bool true := e19
        subst e19
        replace h19 : a2.tmps[26]? = some _ := h19
        exact RInv.pure (v := .bool true) h hi rfl (wanted_at rfl rfl h19 rfl) (fun _ => trivial) (by intro c; simp) (by simp [execOp, h21, h23, go_sem]) rfl
      refine AllFrom.cons (fun listed a2 V h hi hd => ?_) ?_
      · obtain ⟨u19, h19, e19⟩ := hd ⟨19, .data⟩ (by simp) rfl
        replace e19 : u19 = .bool true := e19
        subst e19
        replace h19 : a2.tmps[26]? = some _ := h19
        obtain ⟨u24, h24, e24⟩ := hd ⟨24, .data⟩ (by simp) rfl
        replace e24 : u24 = .bool true := e24
        subst e24
        replace h24 : a2.tmps[31]? = some _ := h24
        exact RInv.pure (v := .bool true) h hi rfl (wanted_none rfl) (fun _ => trivial) (by intro c; simp) (by simp [execOp, h19, h24, go_sem]) rfl
      refine AllFrom.cons (fun listed a2 V h hi hd => ?_) ?_
      · obtain ⟨u25, h25, e25⟩ := hd ⟨25, .data⟩ (by simp) rfl
        replace e25 : u25 = .bool true := e25
        subst e25
        replace h25 : a2.tmps[32]? = some _ := h25
        exact RInv.pure (v := .bool true) h hi rfl (wanted_none rfl) (fun _ => trivial) (by intro c; simp) (by simp [execOp, h25, go_sem]) rfl
      exact trivial
    case fin =>
      rintro a2 V hV hs hdf hfx hph
      obtain ⟨u26, h26, e26⟩ := hph 26 (by omega)
      replace e26 : u26 = .bool true := e26
      subst e26
      replace h26 : a2.tmps[2]? = some _ := h26
      obtain ⟨tm, df⟩ := a2
      have hdf1 : df = [] := hdf
      subst hdf1
      obtain ⟨y0, y1, y3, y4, y5, y6, y7, y8, y9, y10, y11, y12, y13, y14, y15, y16, y17, y18, y19, y20, y21, y22, y23, y24, y25, y26, y27, y28, y29, y30, y31, y32, rfl⟩ : ∃ y0 y1 y3 y4 y5 y6 y7 y8 y9 y10 y11 y12 y13 y14 y15 y16 y17 y18 y19 y20 y21 y22 y23 y24 y25 y26 y27 y28 y29 y30 y31 y32 : Value, tm = #[y0, y1, .bool true, y3, y4, y5, y6, y7, y8, y9, y10, y11, y12, y13, y14, y15, y16, y17, y18, y19, y20, y21, y22, y23, y24, y25, y26, y27, y28, y29, y30, y31, y32] := ⟨_, _, _, _, _, _, _, _, _, _, _, _, _, _, _, _, _, _, _, _, _, _, _, _, _, _, _, _, _, _, _, _, (arr_lit tm 33 hs).trans (by
        show #[tm.getD 0 undef, tm.getD 1 undef, tm.getD 2 undef, tm.getD 3 undef, tm.getD 4 undef, tm.getD 5 undef, tm.getD 6 undef, tm.getD 7 undef, tm.getD 8 undef, tm.getD 9 undef, tm.getD 10 undef, tm.getD 11 undef, tm.getD 12 undef, tm.getD 13 undef, tm.getD 14 undef, tm.getD 15 undef, tm.getD 16 undef, tm.getD 17 undef, tm.getD 18 undef, tm.getD 19 undef, tm.getD 20 undef, tm.getD 21 undef, tm.getD 22 undef, tm.getD 23 undef, tm.getD 24 undef, tm.getD 25 undef, tm.getD 26 undef, tm.getD 27 undef, tm.getD 28 undef, tm.getD 29 undef, tm.getD 30 undef, tm.getD 31 undef, tm.getD 32 undef] = _
        rw [show tm.getD 2 undef = .bool true from by simp only [Array.getD_eq_getD_getElem?, h26, Option.getD_some]])⟩
      clear hs hdf hfx hph h26
      have HV := Lib.hid hV
      clear hV
      go_wp2_with fail
      go_ret
      exact ⟨rfl, (((Below.refl _ w).alloc (Nat.le_refl _) _).trans (HB.out.mono (by simp))).trans (HV.out.mono (Nat.le_of_lt HLT.out))⟩
  · go_wp2_with fail
    go_ret
    exact ⟨rfl, ((Below.refl _ w).alloc (Nat.le_refl _) _).trans (HB.out.mono (by simp))⟩

end Go.Proofs.Ytkngdmilgfgclaa
